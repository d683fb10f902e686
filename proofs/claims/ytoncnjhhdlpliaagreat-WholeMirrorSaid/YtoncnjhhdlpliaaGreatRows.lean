/-
  No cell of these rows narrows 'for every input' (looked for: loops, veiled, ifaces, maps, wideKeys, modest, calm, conditions, laid).
  DERIVED. THE GIVEN ROWS OF THIS SEAT. 4 by the template 'for every input the law returns true; each argument reads behind the call as it read before'; 0 by the template 'total and deterministic' (their statements: YtoncnjhhdlpliaaGreatTotals.lean).
  GIVEN WITH THE SEED: the statements are not yours to turn. If you find one false, say at which input.
  Laid BY PROGRAM, IN A SANDBOX (cutbox-rows.mjs): the forced cells as the released guide's own fill.sh prints them over the translation fc390d84b5d96a04… (all of the seat's roots in one cut). By AI agents, Wed Nov 11 2026. No macro, syntax, notation, axiom, sorry.
-/
import Derived.Test.YtoncnjhhdlpliaaGreatChecked
import GoSem.Claim
import GoSem.ClaimJoined
import GoSem.ClaimMapViews
import Derived.JoinedTies
import Derived.KernelRfl
namespace Go.Proofs.YtoncnjhhdlpliaaGreat
/- THE CELL 'sum', in the pinned program and in every row, IS THE sha256 OF THE DUMP (.gsa) THAT YtoncnjhhdlpliaaGreatProg.lean LOADS. Nothing in Lean hashes anything: it is a label: what it is worth is what the hold of that sum in a sandbox is worth. -/
noncomputable def Tryz.pinned : Pinned := { name := "ytoncnjhhdlpliaagreat", sum := "fc390d84b5d96a0409b5d645d98888cb608cce076a8042266fedff000aabc872", checked := Tryz.checked }
namespace Rows
def none {H : Type} : Left H := { results := [], args := [] }

/-- 'swashtop.WholeMasks': WHATEVER THE INPUT: true; the input reads as it did. -/
def wholeMasksSpec : ChangeSpec := { name := "wholeMasks", fn := fun _ => fun
  | [d1, d2, d3] => { results := [.lit (.bool true)], args := [d1, d2, d3] }
  | _ => none }
def wholeMasksRow : OpenClaim := { program := "ytoncnjhhdlpliaagreat", sum := "fc390d84b5d96a0409b5d645d98888cb608cce076a8042266fedff000aabc872", func := "swash/swashtop.WholeMasks", spec := "wholeMasks", inPlace := ["slices.overlaps[swash/api.Glyph]"], unfollowed := true, recurses := true, plainKeys := false, apart := false }
def WholeMasksSaid : Prop := wholeMasksRow.holds Tryz.pinned (OpenSpec.ofChange wholeMasksSpec)

/-- ITS FALSE NEIGHBOUR: 'it returns false'. Refute it at one input. -/
def wholeMasksWrong : ChangeSpec := { name := "wholeMasks", fn := fun _ => fun
  | [d1, d2, d3] => { results := [.lit (.bool false)], args := [d1, d2, d3] }
  | _ => none }
def WholeMasksWrongFalsely : Prop := wholeMasksRow.holds Tryz.pinned (OpenSpec.ofChange wholeMasksWrong)

/-- 'swashtop.WholeMirror': WHATEVER THE INPUT: true; the input reads as it did. -/
def wholeMirrorSpec : ChangeSpec := { name := "wholeMirror", fn := fun _ => fun
  | [d1, d2] => { results := [.lit (.bool true)], args := [d1, d2] }
  | _ => none }
def wholeMirrorRow : OpenClaim := { program := "ytoncnjhhdlpliaagreat", sum := "fc390d84b5d96a0409b5d645d98888cb608cce076a8042266fedff000aabc872", func := "swash/swashtop.WholeMirror", spec := "wholeMirror", inPlace := ["slices.overlaps[swash/api.Glyph]"], unfollowed := true, recurses := true, plainKeys := false, apart := false }
def WholeMirrorSaid : Prop := wholeMirrorRow.holds Tryz.pinned (OpenSpec.ofChange wholeMirrorSpec)

/-- ITS FALSE NEIGHBOUR: 'it returns false'. Refute it at one input. -/
def wholeMirrorWrong : ChangeSpec := { name := "wholeMirror", fn := fun _ => fun
  | [d1, d2] => { results := [.lit (.bool false)], args := [d1, d2] }
  | _ => none }
def WholeMirrorWrongFalsely : Prop := wholeMirrorRow.holds Tryz.pinned (OpenSpec.ofChange wholeMirrorWrong)

/-- 'swashlaw20.MorxTakes': WHATEVER THE INPUT: true; the input reads as it did. -/
def morxTakesSpec : ChangeSpec := { name := "morxTakes", fn := fun _ => fun
  | [d1, d2] => { results := [.lit (.bool true)], args := [d1, d2] }
  | _ => none }
def morxTakesRow : OpenClaim := { program := "ytoncnjhhdlpliaagreat", sum := "fc390d84b5d96a0409b5d645d98888cb608cce076a8042266fedff000aabc872", func := "swash/swashlaw20.MorxTakes", spec := "morxTakes", inPlace := ["slices.overlaps[swash/api.Glyph]"], unfollowed := true, recurses := true, plainKeys := false, apart := false }
def MorxTakesSaid : Prop := morxTakesRow.holds Tryz.pinned (OpenSpec.ofChange morxTakesSpec)

/-- ITS FALSE NEIGHBOUR: 'it returns false'. Refute it at one input. -/
def morxTakesWrong : ChangeSpec := { name := "morxTakes", fn := fun _ => fun
  | [d1, d2] => { results := [.lit (.bool false)], args := [d1, d2] }
  | _ => none }
def MorxTakesWrongFalsely : Prop := morxTakesRow.holds Tryz.pinned (OpenSpec.ofChange morxTakesWrong)

/-- 'swashlaw20.MorxIdle': WHATEVER THE INPUT: true; the input reads as it did. -/
def morxIdleSpec : ChangeSpec := { name := "morxIdle", fn := fun _ => fun
  | [d1, d2] => { results := [.lit (.bool true)], args := [d1, d2] }
  | _ => none }
def morxIdleRow : OpenClaim := { program := "ytoncnjhhdlpliaagreat", sum := "fc390d84b5d96a0409b5d645d98888cb608cce076a8042266fedff000aabc872", func := "swash/swashlaw20.MorxIdle", spec := "morxIdle", inPlace := ["slices.overlaps[swash/api.Glyph]"], unfollowed := true, recurses := true, plainKeys := false, apart := false }
def MorxIdleSaid : Prop := morxIdleRow.holds Tryz.pinned (OpenSpec.ofChange morxIdleSpec)

/-- ITS FALSE NEIGHBOUR: 'it returns false'. Refute it at one input. -/
def morxIdleWrong : ChangeSpec := { name := "morxIdle", fn := fun _ => fun
  | [d1, d2] => { results := [.lit (.bool false)], args := [d1, d2] }
  | _ => none }
def MorxIdleWrongFalsely : Prop := morxIdleRow.holds Tryz.pinned (OpenSpec.ofChange morxIdleWrong)

/- THE SECOND FORM. 'bulk': how many values and letters a reading holds, each counted each time it is reached (what is shared counts as often as it is met; a slice's spare places count too). A statement '..UptoSaid' is the law's where the arguments, and the package variables that the reading takes, are together of bulk at most 1048576: NARROWER than '..Said'. Prove '..Said' where nothing that the law and all that it calls make is longer than what came in: it says more and counts as full. Else prove '..UptoSaid'. A law counts once. -/
mutual
def uptoBulk {H : Type} : DataW H → Nat
  | .lit (.string bytes) => bytes.length + 1
  | .lit _ => 1
  | .nil => 1
  | .ptr d => uptoBulk d + 1
  | .slice elems spare => uptoBulkAll elems + uptoBulkAll spare + 1
  | .agg parts => uptoBulkAll parts + 1
  | .iface _ d => uptoBulk d + 1
  | .map entries => uptoBulkEntries entries + 1
  | .held _ => 1
def uptoBulkAll {H : Type} : List (DataW H) → Nat
  | [] => 0
  | d :: r => uptoBulk d + uptoBulkAll r
def uptoBulkEntries {H : Type} : List (Lit × DataW H) → Nat
  | [] => 0
  | x :: r => uptoBulkEntry x + uptoBulkEntries r
def uptoBulkEntry {H : Type} : Lit × DataW H → Nat
  | (.string bytes, d) => bytes.length + uptoBulk d + 1
  | (_, d) => uptoBulk d + 1
 end
def uptoSmall : (H : Type) → List (DataW H) → Bool := fun _ ds => decide (uptoBulkAll ds ≤ 1048576)
def OpenSpec.upto (s : _root_.Go.ChangeSpec) : _root_.Go.OpenSpec := { _root_.Go.OpenSpec.ofChange s with cond := some uptoSmall }

/-- 'swashtop.WholeMasks', WHERE WHAT IT READS IS OF BULK AT MOST 1048576: true; the input reads as it did. -/
def wholeMasksUptoRow : OpenClaim := { program := "ytoncnjhhdlpliaagreat", sum := "fc390d84b5d96a0409b5d645d98888cb608cce076a8042266fedff000aabc872", func := "swash/swashtop.WholeMasks", spec := "wholeMasks", inPlace := ["slices.overlaps[swash/api.Glyph]"], unfollowed := true, recurses := true, plainKeys := false, apart := false, narrowed := true }
def WholeMasksUptoSaid : Prop := wholeMasksUptoRow.holds Tryz.pinned (OpenSpec.upto wholeMasksSpec)

/-- 'swashtop.WholeMirror', WHERE WHAT IT READS IS OF BULK AT MOST 1048576: true; the input reads as it did. -/
def wholeMirrorUptoRow : OpenClaim := { program := "ytoncnjhhdlpliaagreat", sum := "fc390d84b5d96a0409b5d645d98888cb608cce076a8042266fedff000aabc872", func := "swash/swashtop.WholeMirror", spec := "wholeMirror", inPlace := ["slices.overlaps[swash/api.Glyph]"], unfollowed := true, recurses := true, plainKeys := false, apart := false, narrowed := true }
def WholeMirrorUptoSaid : Prop := wholeMirrorUptoRow.holds Tryz.pinned (OpenSpec.upto wholeMirrorSpec)

/-- 'swashlaw20.MorxTakes', WHERE WHAT IT READS IS OF BULK AT MOST 1048576: true; the input reads as it did. -/
def morxTakesUptoRow : OpenClaim := { program := "ytoncnjhhdlpliaagreat", sum := "fc390d84b5d96a0409b5d645d98888cb608cce076a8042266fedff000aabc872", func := "swash/swashlaw20.MorxTakes", spec := "morxTakes", inPlace := ["slices.overlaps[swash/api.Glyph]"], unfollowed := true, recurses := true, plainKeys := false, apart := false, narrowed := true }
def MorxTakesUptoSaid : Prop := morxTakesUptoRow.holds Tryz.pinned (OpenSpec.upto morxTakesSpec)

/-- 'swashlaw20.MorxIdle', WHERE WHAT IT READS IS OF BULK AT MOST 1048576: true; the input reads as it did. -/
def morxIdleUptoRow : OpenClaim := { program := "ytoncnjhhdlpliaagreat", sum := "fc390d84b5d96a0409b5d645d98888cb608cce076a8042266fedff000aabc872", func := "swash/swashlaw20.MorxIdle", spec := "morxIdle", inPlace := ["slices.overlaps[swash/api.Glyph]"], unfollowed := true, recurses := true, plainKeys := false, apart := false, narrowed := true }
def MorxIdleUptoSaid : Prop := morxIdleUptoRow.holds Tryz.pinned (OpenSpec.upto morxIdleSpec)

end Rows
end Go.Proofs.YtoncnjhhdlpliaaGreat
