/-
  No cell of these rows narrows 'for every input' (looked for: loops, veiled, ifaces, maps, wideKeys, modest, calm, conditions, laid).
  DERIVED. THE GIVEN ROWS OF THIS SEAT. 12 by the template 'for every input the law returns true; each argument reads behind the call as it read before'; 0 by the template 'total and deterministic' (their statements: YtakpppgikgimnaaTotals.lean).
  GIVEN WITH THE SEED: the statements are not yours to turn. If you find one false, say at which input.
  Laid BY PROGRAM, IN A SANDBOX (cutbox-rows.mjs): the forced cells as the released guide's own fill.sh prints them over the translation 68f8222bccf75315… (all of the seat's roots in one cut). By AI agents, Wed Nov 11 2026. No macro, syntax, notation, axiom, sorry.
-/
import Derived.Test.YtakpppgikgimnaaChecked
import GoSem.Claim
import GoSem.ClaimJoined
import GoSem.ClaimMapViews
import Derived.JoinedTies
import Derived.KernelRfl
namespace Go.Proofs.Ytakpppgikgimnaa
/- THE CELL 'sum', in the pinned program and in every row, IS THE sha256 OF THE DUMP (.gsa) THAT YtakpppgikgimnaaProg.lean LOADS. Nothing in Lean hashes anything: it is a label: what it is worth is what the hold of that sum in a sandbox is worth. -/
noncomputable def Try.pinned : Pinned := { name := "ytakpppgikgimnaa", sum := "68f8222bccf75315e1a7e70c0bc4cee4c27f96cdde3f6f5b3bccc70ce2169770", checked := Try.checked }
namespace Rows
def none {H : Type} : Left H := { results := [], args := [] }

/-- 'swashlaw10.CoverMorx': WHATEVER THE INPUT: true; the input reads as it did. -/
def coverMorxSpec : ChangeSpec := { name := "coverMorx", fn := fun _ => fun
  | [d1, d2] => { results := [.lit (.bool true)], args := [d1, d2] }
  | _ => none }
def coverMorxRow : OpenClaim := { program := "ytakpppgikgimnaa", sum := "68f8222bccf75315e1a7e70c0bc4cee4c27f96cdde3f6f5b3bccc70ce2169770", func := "swash/swashlaw10.CoverMorx", spec := "coverMorx", apart := false }
def CoverMorxSaid : Prop := coverMorxRow.holds Try.pinned (OpenSpec.ofChange coverMorxSpec)

/-- ITS FALSE NEIGHBOUR: 'it returns false'. Refute it at one input. -/
def coverMorxWrong : ChangeSpec := { name := "coverMorx", fn := fun _ => fun
  | [d1, d2] => { results := [.lit (.bool false)], args := [d1, d2] }
  | _ => none }
def CoverMorxWrongFalsely : Prop := coverMorxRow.holds Try.pinned (OpenSpec.ofChange coverMorxWrong)

/-- 'swashlaw10.CoverKerx': WHATEVER THE INPUT: true; the input reads as it did. -/
def coverKerxSpec : ChangeSpec := { name := "coverKerx", fn := fun _ => fun
  | [d1, d2] => { results := [.lit (.bool true)], args := [d1, d2] }
  | _ => none }
def coverKerxRow : OpenClaim := { program := "ytakpppgikgimnaa", sum := "68f8222bccf75315e1a7e70c0bc4cee4c27f96cdde3f6f5b3bccc70ce2169770", func := "swash/swashlaw10.CoverKerx", spec := "coverKerx", apart := false }
def CoverKerxSaid : Prop := coverKerxRow.holds Try.pinned (OpenSpec.ofChange coverKerxSpec)

/-- ITS FALSE NEIGHBOUR: 'it returns false'. Refute it at one input. -/
def coverKerxWrong : ChangeSpec := { name := "coverKerx", fn := fun _ => fun
  | [d1, d2] => { results := [.lit (.bool false)], args := [d1, d2] }
  | _ => none }
def CoverKerxWrongFalsely : Prop := coverKerxRow.holds Try.pinned (OpenSpec.ofChange coverKerxWrong)

/-- 'swashlaw10.CoverMirror': WHATEVER THE INPUT: true; the input reads as it did. -/
def coverMirrorSpec : ChangeSpec := { name := "coverMirror", fn := fun _ => fun
  | [d] => { results := [.lit (.bool true)], args := [d] }
  | _ => none }
def coverMirrorRow : OpenClaim := { program := "ytakpppgikgimnaa", sum := "68f8222bccf75315e1a7e70c0bc4cee4c27f96cdde3f6f5b3bccc70ce2169770", func := "swash/swashlaw10.CoverMirror", spec := "coverMirror", apart := false }
def CoverMirrorSaid : Prop := coverMirrorRow.holds Try.pinned (OpenSpec.ofChange coverMirrorSpec)

/-- ITS FALSE NEIGHBOUR: 'it returns false'. Refute it at one input. -/
def coverMirrorWrong : ChangeSpec := { name := "coverMirror", fn := fun _ => fun
  | [d] => { results := [.lit (.bool false)], args := [d] }
  | _ => none }
def CoverMirrorWrongFalsely : Prop := coverMirrorRow.holds Try.pinned (OpenSpec.ofChange coverMirrorWrong)

/-- 'swashlaw01.ViewOwn': WHATEVER THE INPUT: true; the input reads as it did. -/
def viewOwnSpec : ChangeSpec := { name := "viewOwn", fn := fun _ => fun
  | [d] => { results := [.lit (.bool true)], args := [d] }
  | _ => none }
def viewOwnRow : OpenClaim := { program := "ytakpppgikgimnaa", sum := "68f8222bccf75315e1a7e70c0bc4cee4c27f96cdde3f6f5b3bccc70ce2169770", func := "swash/swashlaw01.ViewOwn", spec := "viewOwn", apart := false }
def ViewOwnSaid : Prop := viewOwnRow.holds Try.pinned (OpenSpec.ofChange viewOwnSpec)

/-- ITS FALSE NEIGHBOUR: 'it returns false'. Refute it at one input. -/
def viewOwnWrong : ChangeSpec := { name := "viewOwn", fn := fun _ => fun
  | [d] => { results := [.lit (.bool false)], args := [d] }
  | _ => none }
def ViewOwnWrongFalsely : Prop := viewOwnRow.holds Try.pinned (OpenSpec.ofChange viewOwnWrong)

/-- 'swashlaw01.ViewHalves': WHATEVER THE INPUT: true; the input reads as it did. -/
def viewHalvesSpec : ChangeSpec := { name := "viewHalves", fn := fun _ => fun
  | [d] => { results := [.lit (.bool true)], args := [d] }
  | _ => none }
def viewHalvesRow : OpenClaim := { program := "ytakpppgikgimnaa", sum := "68f8222bccf75315e1a7e70c0bc4cee4c27f96cdde3f6f5b3bccc70ce2169770", func := "swash/swashlaw01.ViewHalves", spec := "viewHalves", apart := false }
def ViewHalvesSaid : Prop := viewHalvesRow.holds Try.pinned (OpenSpec.ofChange viewHalvesSpec)

/-- ITS FALSE NEIGHBOUR: 'it returns false'. Refute it at one input. -/
def viewHalvesWrong : ChangeSpec := { name := "viewHalves", fn := fun _ => fun
  | [d] => { results := [.lit (.bool false)], args := [d] }
  | _ => none }
def ViewHalvesWrongFalsely : Prop := viewHalvesRow.holds Try.pinned (OpenSpec.ofChange viewHalvesWrong)

/-- 'swashlaw01.ViewTries': WHATEVER THE INPUT: true; the input reads as it did. -/
def viewTriesSpec : ChangeSpec := { name := "viewTries", fn := fun _ => fun
  | [d1, d2] => { results := [.lit (.bool true)], args := [d1, d2] }
  | _ => none }
def viewTriesRow : OpenClaim := { program := "ytakpppgikgimnaa", sum := "68f8222bccf75315e1a7e70c0bc4cee4c27f96cdde3f6f5b3bccc70ce2169770", func := "swash/swashlaw01.ViewTries", spec := "viewTries", unfollowed := true, recurses := true, apart := false }
def ViewTriesSaid : Prop := viewTriesRow.holds Try.pinned (OpenSpec.ofChange viewTriesSpec)

/-- ITS FALSE NEIGHBOUR: 'it returns false'. Refute it at one input. -/
def viewTriesWrong : ChangeSpec := { name := "viewTries", fn := fun _ => fun
  | [d1, d2] => { results := [.lit (.bool false)], args := [d1, d2] }
  | _ => none }
def ViewTriesWrongFalsely : Prop := viewTriesRow.holds Try.pinned (OpenSpec.ofChange viewTriesWrong)

/-- 'swashlaw01.ViewDeep': WHATEVER THE INPUT: true; the input reads as it did. -/
def viewDeepSpec : ChangeSpec := { name := "viewDeep", fn := fun _ => fun
  | [d1, d2] => { results := [.lit (.bool true)], args := [d1, d2] }
  | _ => none }
def viewDeepRow : OpenClaim := { program := "ytakpppgikgimnaa", sum := "68f8222bccf75315e1a7e70c0bc4cee4c27f96cdde3f6f5b3bccc70ce2169770", func := "swash/swashlaw01.ViewDeep", spec := "viewDeep", unfollowed := true, recurses := true, apart := false }
def ViewDeepSaid : Prop := viewDeepRow.holds Try.pinned (OpenSpec.ofChange viewDeepSpec)

/-- ITS FALSE NEIGHBOUR: 'it returns false'. Refute it at one input. -/
def viewDeepWrong : ChangeSpec := { name := "viewDeep", fn := fun _ => fun
  | [d1, d2] => { results := [.lit (.bool false)], args := [d1, d2] }
  | _ => none }
def ViewDeepWrongFalsely : Prop := viewDeepRow.holds Try.pinned (OpenSpec.ofChange viewDeepWrong)

/-- 'swashlaw01.ViewNumbers': WHATEVER THE INPUT: true; the input reads as it did. -/
def viewNumbersSpec : ChangeSpec := { name := "viewNumbers", fn := fun _ => fun
  | [d1, d2] => { results := [.lit (.bool true)], args := [d1, d2] }
  | _ => none }
def viewNumbersRow : OpenClaim := { program := "ytakpppgikgimnaa", sum := "68f8222bccf75315e1a7e70c0bc4cee4c27f96cdde3f6f5b3bccc70ce2169770", func := "swash/swashlaw01.ViewNumbers", spec := "viewNumbers", unfollowed := true, recurses := true, apart := false }
def ViewNumbersSaid : Prop := viewNumbersRow.holds Try.pinned (OpenSpec.ofChange viewNumbersSpec)

/-- ITS FALSE NEIGHBOUR: 'it returns false'. Refute it at one input. -/
def viewNumbersWrong : ChangeSpec := { name := "viewNumbers", fn := fun _ => fun
  | [d1, d2] => { results := [.lit (.bool false)], args := [d1, d2] }
  | _ => none }
def ViewNumbersWrongFalsely : Prop := viewNumbersRow.holds Try.pinned (OpenSpec.ofChange viewNumbersWrong)

/-- 'swashlaw01.ViewCuts': WHATEVER THE INPUT: true; the input reads as it did. -/
def viewCutsSpec : ChangeSpec := { name := "viewCuts", fn := fun _ => fun
  | [d1, d2] => { results := [.lit (.bool true)], args := [d1, d2] }
  | _ => none }
def viewCutsRow : OpenClaim := { program := "ytakpppgikgimnaa", sum := "68f8222bccf75315e1a7e70c0bc4cee4c27f96cdde3f6f5b3bccc70ce2169770", func := "swash/swashlaw01.ViewCuts", spec := "viewCuts", unfollowed := true, recurses := true, apart := false }
def ViewCutsSaid : Prop := viewCutsRow.holds Try.pinned (OpenSpec.ofChange viewCutsSpec)

/-- ITS FALSE NEIGHBOUR: 'it returns false'. Refute it at one input. -/
def viewCutsWrong : ChangeSpec := { name := "viewCuts", fn := fun _ => fun
  | [d1, d2] => { results := [.lit (.bool false)], args := [d1, d2] }
  | _ => none }
def ViewCutsWrongFalsely : Prop := viewCutsRow.holds Try.pinned (OpenSpec.ofChange viewCutsWrong)

/-- 'swashlaw13.VerbOrders': WHATEVER THE INPUT: true; the input reads as it did. -/
def verbOrdersSpec : ChangeSpec := { name := "verbOrders", fn := fun _ => fun
  | [d1, d2] => { results := [.lit (.bool true)], args := [d1, d2] }
  | _ => none }
def verbOrdersRow : OpenClaim := { program := "ytakpppgikgimnaa", sum := "68f8222bccf75315e1a7e70c0bc4cee4c27f96cdde3f6f5b3bccc70ce2169770", func := "swash/swashlaw13.VerbOrders", spec := "verbOrders", apart := false }
def VerbOrdersSaid : Prop := verbOrdersRow.holds Try.pinned (OpenSpec.ofChange verbOrdersSpec)

/-- ITS FALSE NEIGHBOUR: 'it returns false'. Refute it at one input. -/
def verbOrdersWrong : ChangeSpec := { name := "verbOrders", fn := fun _ => fun
  | [d1, d2] => { results := [.lit (.bool false)], args := [d1, d2] }
  | _ => none }
def VerbOrdersWrongFalsely : Prop := verbOrdersRow.holds Try.pinned (OpenSpec.ofChange verbOrdersWrong)

/-- 'swashlaw13.VerbKeeps': WHATEVER THE INPUT: true; the input reads as it did. -/
def verbKeepsSpec : ChangeSpec := { name := "verbKeeps", fn := fun _ => fun
  | [d1, d2] => { results := [.lit (.bool true)], args := [d1, d2] }
  | _ => none }
def verbKeepsRow : OpenClaim := { program := "ytakpppgikgimnaa", sum := "68f8222bccf75315e1a7e70c0bc4cee4c27f96cdde3f6f5b3bccc70ce2169770", func := "swash/swashlaw13.VerbKeeps", spec := "verbKeeps", apart := false }
def VerbKeepsSaid : Prop := verbKeepsRow.holds Try.pinned (OpenSpec.ofChange verbKeepsSpec)

/-- ITS FALSE NEIGHBOUR: 'it returns false'. Refute it at one input. -/
def verbKeepsWrong : ChangeSpec := { name := "verbKeeps", fn := fun _ => fun
  | [d1, d2] => { results := [.lit (.bool false)], args := [d1, d2] }
  | _ => none }
def VerbKeepsWrongFalsely : Prop := verbKeepsRow.holds Try.pinned (OpenSpec.ofChange verbKeepsWrong)

/-- 'swashlaw13.VerbPairs': WHATEVER THE INPUT: true; the input reads as it did. -/
def verbPairsSpec : ChangeSpec := { name := "verbPairs", fn := fun _ => fun
  | [d] => { results := [.lit (.bool true)], args := [d] }
  | _ => none }
def verbPairsRow : OpenClaim := { program := "ytakpppgikgimnaa", sum := "68f8222bccf75315e1a7e70c0bc4cee4c27f96cdde3f6f5b3bccc70ce2169770", func := "swash/swashlaw13.VerbPairs", spec := "verbPairs", apart := false }
def VerbPairsSaid : Prop := verbPairsRow.holds Try.pinned (OpenSpec.ofChange verbPairsSpec)

/-- ITS FALSE NEIGHBOUR: 'it returns false'. Refute it at one input. -/
def verbPairsWrong : ChangeSpec := { name := "verbPairs", fn := fun _ => fun
  | [d] => { results := [.lit (.bool false)], args := [d] }
  | _ => none }
def VerbPairsWrongFalsely : Prop := verbPairsRow.holds Try.pinned (OpenSpec.ofChange verbPairsWrong)

/- THE SECOND FORM. 'bulk': how many values and letters a reading holds, each counted each time it is reached (what is shared counts as often as it is met; a slice's spare places count too). A statement '..UptoSaid' is the law's where the arguments, and the package variables that the reading takes, are together of bulk at most 1048576: NARROWER than '..Said'. Prove '..Said' where nothing that the law and all that it calls make is longer than what came in: it says more and counts as full. Else prove '..UptoSaid'. A law counts once. -/
mutual
def uptoBulk {H : Type} : DataW H → Nat
  | .lit (.string bytes) => bytes.length + 1
  | .lit _ => 1
  | .nil => 1
  | .ptr d => uptoBulk d + 1
  | .slice elems spare => uptoBulkAll elems + uptoBulkAll spare + 1
  | .agg parts => uptoBulkAll parts + 1
  | .iface _ d => uptoBulk d + 1
  | .map entries => uptoBulkEntries entries + 1
  | .held _ => 1
def uptoBulkAll {H : Type} : List (DataW H) → Nat
  | [] => 0
  | d :: r => uptoBulk d + uptoBulkAll r
def uptoBulkEntries {H : Type} : List (Lit × DataW H) → Nat
  | [] => 0
  | x :: r => uptoBulkEntry x + uptoBulkEntries r
def uptoBulkEntry {H : Type} : Lit × DataW H → Nat
  | (.string bytes, d) => bytes.length + uptoBulk d + 1
  | (_, d) => uptoBulk d + 1
 end
def uptoSmall : (H : Type) → List (DataW H) → Bool := fun _ ds => decide (uptoBulkAll ds ≤ 1048576)
def OpenSpec.upto (s : _root_.Go.ChangeSpec) : _root_.Go.OpenSpec := { _root_.Go.OpenSpec.ofChange s with cond := some uptoSmall }

/-- 'swashlaw10.CoverMorx', WHERE WHAT IT READS IS OF BULK AT MOST 1048576: true; the input reads as it did. -/
def coverMorxUptoRow : OpenClaim := { program := "ytakpppgikgimnaa", sum := "68f8222bccf75315e1a7e70c0bc4cee4c27f96cdde3f6f5b3bccc70ce2169770", func := "swash/swashlaw10.CoverMorx", spec := "coverMorx", apart := false, narrowed := true }
def CoverMorxUptoSaid : Prop := coverMorxUptoRow.holds Try.pinned (OpenSpec.upto coverMorxSpec)

/-- 'swashlaw10.CoverKerx', WHERE WHAT IT READS IS OF BULK AT MOST 1048576: true; the input reads as it did. -/
def coverKerxUptoRow : OpenClaim := { program := "ytakpppgikgimnaa", sum := "68f8222bccf75315e1a7e70c0bc4cee4c27f96cdde3f6f5b3bccc70ce2169770", func := "swash/swashlaw10.CoverKerx", spec := "coverKerx", apart := false, narrowed := true }
def CoverKerxUptoSaid : Prop := coverKerxUptoRow.holds Try.pinned (OpenSpec.upto coverKerxSpec)

/-- 'swashlaw10.CoverMirror', WHERE WHAT IT READS IS OF BULK AT MOST 1048576: true; the input reads as it did. -/
def coverMirrorUptoRow : OpenClaim := { program := "ytakpppgikgimnaa", sum := "68f8222bccf75315e1a7e70c0bc4cee4c27f96cdde3f6f5b3bccc70ce2169770", func := "swash/swashlaw10.CoverMirror", spec := "coverMirror", apart := false, narrowed := true }
def CoverMirrorUptoSaid : Prop := coverMirrorUptoRow.holds Try.pinned (OpenSpec.upto coverMirrorSpec)

/-- 'swashlaw01.ViewOwn', WHERE WHAT IT READS IS OF BULK AT MOST 1048576: true; the input reads as it did. -/
def viewOwnUptoRow : OpenClaim := { program := "ytakpppgikgimnaa", sum := "68f8222bccf75315e1a7e70c0bc4cee4c27f96cdde3f6f5b3bccc70ce2169770", func := "swash/swashlaw01.ViewOwn", spec := "viewOwn", apart := false, narrowed := true }
def ViewOwnUptoSaid : Prop := viewOwnUptoRow.holds Try.pinned (OpenSpec.upto viewOwnSpec)

/-- 'swashlaw01.ViewHalves', WHERE WHAT IT READS IS OF BULK AT MOST 1048576: true; the input reads as it did. -/
def viewHalvesUptoRow : OpenClaim := { program := "ytakpppgikgimnaa", sum := "68f8222bccf75315e1a7e70c0bc4cee4c27f96cdde3f6f5b3bccc70ce2169770", func := "swash/swashlaw01.ViewHalves", spec := "viewHalves", apart := false, narrowed := true }
def ViewHalvesUptoSaid : Prop := viewHalvesUptoRow.holds Try.pinned (OpenSpec.upto viewHalvesSpec)

/-- 'swashlaw01.ViewTries', WHERE WHAT IT READS IS OF BULK AT MOST 1048576: true; the input reads as it did. -/
def viewTriesUptoRow : OpenClaim := { program := "ytakpppgikgimnaa", sum := "68f8222bccf75315e1a7e70c0bc4cee4c27f96cdde3f6f5b3bccc70ce2169770", func := "swash/swashlaw01.ViewTries", spec := "viewTries", unfollowed := true, recurses := true, apart := false, narrowed := true }
def ViewTriesUptoSaid : Prop := viewTriesUptoRow.holds Try.pinned (OpenSpec.upto viewTriesSpec)

/-- 'swashlaw01.ViewDeep', WHERE WHAT IT READS IS OF BULK AT MOST 1048576: true; the input reads as it did. -/
def viewDeepUptoRow : OpenClaim := { program := "ytakpppgikgimnaa", sum := "68f8222bccf75315e1a7e70c0bc4cee4c27f96cdde3f6f5b3bccc70ce2169770", func := "swash/swashlaw01.ViewDeep", spec := "viewDeep", unfollowed := true, recurses := true, apart := false, narrowed := true }
def ViewDeepUptoSaid : Prop := viewDeepUptoRow.holds Try.pinned (OpenSpec.upto viewDeepSpec)

/-- 'swashlaw01.ViewNumbers', WHERE WHAT IT READS IS OF BULK AT MOST 1048576: true; the input reads as it did. -/
def viewNumbersUptoRow : OpenClaim := { program := "ytakpppgikgimnaa", sum := "68f8222bccf75315e1a7e70c0bc4cee4c27f96cdde3f6f5b3bccc70ce2169770", func := "swash/swashlaw01.ViewNumbers", spec := "viewNumbers", unfollowed := true, recurses := true, apart := false, narrowed := true }
def ViewNumbersUptoSaid : Prop := viewNumbersUptoRow.holds Try.pinned (OpenSpec.upto viewNumbersSpec)

/-- 'swashlaw01.ViewCuts', WHERE WHAT IT READS IS OF BULK AT MOST 1048576: true; the input reads as it did. -/
def viewCutsUptoRow : OpenClaim := { program := "ytakpppgikgimnaa", sum := "68f8222bccf75315e1a7e70c0bc4cee4c27f96cdde3f6f5b3bccc70ce2169770", func := "swash/swashlaw01.ViewCuts", spec := "viewCuts", unfollowed := true, recurses := true, apart := false, narrowed := true }
def ViewCutsUptoSaid : Prop := viewCutsUptoRow.holds Try.pinned (OpenSpec.upto viewCutsSpec)

/-- 'swashlaw13.VerbOrders', WHERE WHAT IT READS IS OF BULK AT MOST 1048576: true; the input reads as it did. -/
def verbOrdersUptoRow : OpenClaim := { program := "ytakpppgikgimnaa", sum := "68f8222bccf75315e1a7e70c0bc4cee4c27f96cdde3f6f5b3bccc70ce2169770", func := "swash/swashlaw13.VerbOrders", spec := "verbOrders", apart := false, narrowed := true }
def VerbOrdersUptoSaid : Prop := verbOrdersUptoRow.holds Try.pinned (OpenSpec.upto verbOrdersSpec)

/-- 'swashlaw13.VerbKeeps', WHERE WHAT IT READS IS OF BULK AT MOST 1048576: true; the input reads as it did. -/
def verbKeepsUptoRow : OpenClaim := { program := "ytakpppgikgimnaa", sum := "68f8222bccf75315e1a7e70c0bc4cee4c27f96cdde3f6f5b3bccc70ce2169770", func := "swash/swashlaw13.VerbKeeps", spec := "verbKeeps", apart := false, narrowed := true }
def VerbKeepsUptoSaid : Prop := verbKeepsUptoRow.holds Try.pinned (OpenSpec.upto verbKeepsSpec)

/-- 'swashlaw13.VerbPairs', WHERE WHAT IT READS IS OF BULK AT MOST 1048576: true; the input reads as it did. -/
def verbPairsUptoRow : OpenClaim := { program := "ytakpppgikgimnaa", sum := "68f8222bccf75315e1a7e70c0bc4cee4c27f96cdde3f6f5b3bccc70ce2169770", func := "swash/swashlaw13.VerbPairs", spec := "verbPairs", apart := false, narrowed := true }
def VerbPairsUptoSaid : Prop := verbPairsUptoRow.holds Try.pinned (OpenSpec.upto verbPairsSpec)

end Rows
end Go.Proofs.Ytakpppgikgimnaa
