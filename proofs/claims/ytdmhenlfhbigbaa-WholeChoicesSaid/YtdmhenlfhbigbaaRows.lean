/-
  No cell of these rows narrows 'for every input' (looked for: loops, veiled, ifaces, maps, wideKeys, modest, calm, conditions, laid).
  DERIVED. THE GIVEN ROWS OF THIS SEAT. 6 by the template 'for every input the law returns true; each argument reads behind the call as it read before'; 0 by the template 'total and deterministic' (their statements: YtdmhenlfhbigbaaTotals.lean).
  GIVEN WITH THE SEED: the statements are not yours to turn. If you find one false, say at which input.
  Laid BY PROGRAM, IN A SANDBOX (cutbox-rows.mjs): the forced cells as the released guide's own fill.sh prints them over the translation 073757d7b2d90535… (all of the seat's roots in one cut). By AI agents, Wed Nov 11 2026. No macro, syntax, notation, axiom, sorry.
-/
import Derived.Test.YtdmhenlfhbigbaaChecked
import GoSem.Claim
import GoSem.ClaimJoined
import GoSem.ClaimMapViews
import Derived.JoinedTies
import Derived.KernelRfl
namespace Go.Proofs.Ytdmhenlfhbigbaa
/- THE CELL 'sum', in the pinned program and in every row, IS THE sha256 OF THE DUMP (.gsa) THAT YtdmhenlfhbigbaaProg.lean LOADS. Nothing in Lean hashes anything: it is a label: what it is worth is what the hold of that sum in a sandbox is worth. -/
noncomputable def Try.pinned : Pinned := { name := "ytdmhenlfhbigbaa", sum := "073757d7b2d90535dcf294e29eab6526de87113c0a5fbdf0042b5036b9e497a8", checked := Try.checked }
namespace Rows
def none {H : Type} : Left H := { results := [], args := [] }

/-- 'swashtop.WholeChoices': WHATEVER THE INPUT: true; the input reads as it did. -/
def wholeChoicesSpec : ChangeSpec := { name := "wholeChoices", fn := fun _ => fun
  | [d1, d2, d3] => { results := [.lit (.bool true)], args := [d1, d2, d3] }
  | _ => none }
def wholeChoicesRow : OpenClaim := { program := "ytdmhenlfhbigbaa", sum := "073757d7b2d90535dcf294e29eab6526de87113c0a5fbdf0042b5036b9e497a8", func := "swash/swashtop.WholeChoices", spec := "wholeChoices", unfollowed := true, recurses := true, plainKeys := false, apart := false }
def WholeChoicesSaid : Prop := wholeChoicesRow.holds Try.pinned (OpenSpec.ofChange wholeChoicesSpec)

/-- ITS FALSE NEIGHBOUR: 'it returns false'. Refute it at one input. -/
def wholeChoicesWrong : ChangeSpec := { name := "wholeChoices", fn := fun _ => fun
  | [d1, d2, d3] => { results := [.lit (.bool false)], args := [d1, d2, d3] }
  | _ => none }
def WholeChoicesWrongFalsely : Prop := wholeChoicesRow.holds Try.pinned (OpenSpec.ofChange wholeChoicesWrong)

/-- 'swashlaw09.PickSettles': WHATEVER THE INPUT: true; the input reads as it did. -/
def pickSettlesSpec : ChangeSpec := { name := "pickSettles", fn := fun _ => fun
  | [d1, d2] => { results := [.lit (.bool true)], args := [d1, d2] }
  | _ => none }
def pickSettlesRow : OpenClaim := { program := "ytdmhenlfhbigbaa", sum := "073757d7b2d90535dcf294e29eab6526de87113c0a5fbdf0042b5036b9e497a8", func := "swash/swashlaw09.PickSettles", spec := "pickSettles", unfollowed := true, recurses := true, plainKeys := false, apart := false }
def PickSettlesSaid : Prop := pickSettlesRow.holds Try.pinned (OpenSpec.ofChange pickSettlesSpec)

/-- ITS FALSE NEIGHBOUR: 'it returns false'. Refute it at one input. -/
def pickSettlesWrong : ChangeSpec := { name := "pickSettles", fn := fun _ => fun
  | [d1, d2] => { results := [.lit (.bool false)], args := [d1, d2] }
  | _ => none }
def PickSettlesWrongFalsely : Prop := pickSettlesRow.holds Try.pinned (OpenSpec.ofChange pickSettlesWrong)

/-- 'swashlaw09.PickFlags': WHATEVER THE INPUT: true; the input reads as it did. -/
def pickFlagsSpec : ChangeSpec := { name := "pickFlags", fn := fun _ => fun
  | [d1, d2, d3] => { results := [.lit (.bool true)], args := [d1, d2, d3] }
  | _ => none }
def pickFlagsRow : OpenClaim := { program := "ytdmhenlfhbigbaa", sum := "073757d7b2d90535dcf294e29eab6526de87113c0a5fbdf0042b5036b9e497a8", func := "swash/swashlaw09.PickFlags", spec := "pickFlags", unfollowed := true, recurses := true, plainKeys := false, apart := false }
def PickFlagsSaid : Prop := pickFlagsRow.holds Try.pinned (OpenSpec.ofChange pickFlagsSpec)

/-- ITS FALSE NEIGHBOUR: 'it returns false'. Refute it at one input. -/
def pickFlagsWrong : ChangeSpec := { name := "pickFlags", fn := fun _ => fun
  | [d1, d2, d3] => { results := [.lit (.bool false)], args := [d1, d2, d3] }
  | _ => none }
def PickFlagsWrongFalsely : Prop := pickFlagsRow.holds Try.pinned (OpenSpec.ofChange pickFlagsWrong)

/-- 'swashlaw09.PickAgain': WHATEVER THE INPUT: true; the input reads as it did. -/
def pickAgainSpec : ChangeSpec := { name := "pickAgain", fn := fun _ => fun
  | [d] => { results := [.lit (.bool true)], args := [d] }
  | _ => none }
def pickAgainRow : OpenClaim := { program := "ytdmhenlfhbigbaa", sum := "073757d7b2d90535dcf294e29eab6526de87113c0a5fbdf0042b5036b9e497a8", func := "swash/swashlaw09.PickAgain", spec := "pickAgain", unfollowed := true, recurses := true, plainKeys := false, apart := false }
def PickAgainSaid : Prop := pickAgainRow.holds Try.pinned (OpenSpec.ofChange pickAgainSpec)

/-- ITS FALSE NEIGHBOUR: 'it returns false'. Refute it at one input. -/
def pickAgainWrong : ChangeSpec := { name := "pickAgain", fn := fun _ => fun
  | [d] => { results := [.lit (.bool false)], args := [d] }
  | _ => none }
def PickAgainWrongFalsely : Prop := pickAgainRow.holds Try.pinned (OpenSpec.ofChange pickAgainWrong)

/-- 'swashlaw09.PickOne': WHATEVER THE INPUT: true; the input reads as it did. -/
def pickOneSpec : ChangeSpec := { name := "pickOne", fn := fun _ => fun
  | [d] => { results := [.lit (.bool true)], args := [d] }
  | _ => none }
def pickOneRow : OpenClaim := { program := "ytdmhenlfhbigbaa", sum := "073757d7b2d90535dcf294e29eab6526de87113c0a5fbdf0042b5036b9e497a8", func := "swash/swashlaw09.PickOne", spec := "pickOne", unfollowed := true, recurses := true, plainKeys := false, apart := false }
def PickOneSaid : Prop := pickOneRow.holds Try.pinned (OpenSpec.ofChange pickOneSpec)

/-- ITS FALSE NEIGHBOUR: 'it returns false'. Refute it at one input. -/
def pickOneWrong : ChangeSpec := { name := "pickOne", fn := fun _ => fun
  | [d] => { results := [.lit (.bool false)], args := [d] }
  | _ => none }
def PickOneWrongFalsely : Prop := pickOneRow.holds Try.pinned (OpenSpec.ofChange pickOneWrong)

/-- 'swashlaw09.PickLast': WHATEVER THE INPUT: true; the input reads as it did. -/
def pickLastSpec : ChangeSpec := { name := "pickLast", fn := fun _ => fun
  | [d1, d2] => { results := [.lit (.bool true)], args := [d1, d2] }
  | _ => none }
def pickLastRow : OpenClaim := { program := "ytdmhenlfhbigbaa", sum := "073757d7b2d90535dcf294e29eab6526de87113c0a5fbdf0042b5036b9e497a8", func := "swash/swashlaw09.PickLast", spec := "pickLast", unfollowed := true, recurses := true, plainKeys := false, apart := false }
def PickLastSaid : Prop := pickLastRow.holds Try.pinned (OpenSpec.ofChange pickLastSpec)

/-- ITS FALSE NEIGHBOUR: 'it returns false'. Refute it at one input. -/
def pickLastWrong : ChangeSpec := { name := "pickLast", fn := fun _ => fun
  | [d1, d2] => { results := [.lit (.bool false)], args := [d1, d2] }
  | _ => none }
def PickLastWrongFalsely : Prop := pickLastRow.holds Try.pinned (OpenSpec.ofChange pickLastWrong)

/- THE SECOND FORM. 'bulk': how many values and letters a reading holds, each counted each time it is reached (what is shared counts as often as it is met; a slice's spare places count too). A statement '..UptoSaid' is the law's where the arguments, and the package variables that the reading takes, are together of bulk at most 1048576: NARROWER than '..Said'. Prove '..Said' where nothing that the law and all that it calls make is longer than what came in: it says more and counts as full. Else prove '..UptoSaid'. A law counts once. -/
mutual
def uptoBulk {H : Type} : DataW H → Nat
  | .lit (.string bytes) => bytes.length + 1
  | .lit _ => 1
  | .nil => 1
  | .ptr d => uptoBulk d + 1
  | .slice elems spare => uptoBulkAll elems + uptoBulkAll spare + 1
  | .agg parts => uptoBulkAll parts + 1
  | .iface _ d => uptoBulk d + 1
  | .map entries => uptoBulkEntries entries + 1
  | .held _ => 1
def uptoBulkAll {H : Type} : List (DataW H) → Nat
  | [] => 0
  | d :: r => uptoBulk d + uptoBulkAll r
def uptoBulkEntries {H : Type} : List (Lit × DataW H) → Nat
  | [] => 0
  | x :: r => uptoBulkEntry x + uptoBulkEntries r
def uptoBulkEntry {H : Type} : Lit × DataW H → Nat
  | (.string bytes, d) => bytes.length + uptoBulk d + 1
  | (_, d) => uptoBulk d + 1
 end
def uptoSmall : (H : Type) → List (DataW H) → Bool := fun _ ds => decide (uptoBulkAll ds ≤ 1048576)
def OpenSpec.upto (s : _root_.Go.ChangeSpec) : _root_.Go.OpenSpec := { _root_.Go.OpenSpec.ofChange s with cond := some uptoSmall }

/-- 'swashtop.WholeChoices', WHERE WHAT IT READS IS OF BULK AT MOST 1048576: true; the input reads as it did. -/
def wholeChoicesUptoRow : OpenClaim := { program := "ytdmhenlfhbigbaa", sum := "073757d7b2d90535dcf294e29eab6526de87113c0a5fbdf0042b5036b9e497a8", func := "swash/swashtop.WholeChoices", spec := "wholeChoices", unfollowed := true, recurses := true, plainKeys := false, apart := false, narrowed := true }
def WholeChoicesUptoSaid : Prop := wholeChoicesUptoRow.holds Try.pinned (OpenSpec.upto wholeChoicesSpec)

/-- 'swashlaw09.PickSettles', WHERE WHAT IT READS IS OF BULK AT MOST 1048576: true; the input reads as it did. -/
def pickSettlesUptoRow : OpenClaim := { program := "ytdmhenlfhbigbaa", sum := "073757d7b2d90535dcf294e29eab6526de87113c0a5fbdf0042b5036b9e497a8", func := "swash/swashlaw09.PickSettles", spec := "pickSettles", unfollowed := true, recurses := true, plainKeys := false, apart := false, narrowed := true }
def PickSettlesUptoSaid : Prop := pickSettlesUptoRow.holds Try.pinned (OpenSpec.upto pickSettlesSpec)

/-- 'swashlaw09.PickFlags', WHERE WHAT IT READS IS OF BULK AT MOST 1048576: true; the input reads as it did. -/
def pickFlagsUptoRow : OpenClaim := { program := "ytdmhenlfhbigbaa", sum := "073757d7b2d90535dcf294e29eab6526de87113c0a5fbdf0042b5036b9e497a8", func := "swash/swashlaw09.PickFlags", spec := "pickFlags", unfollowed := true, recurses := true, plainKeys := false, apart := false, narrowed := true }
def PickFlagsUptoSaid : Prop := pickFlagsUptoRow.holds Try.pinned (OpenSpec.upto pickFlagsSpec)

/-- 'swashlaw09.PickAgain', WHERE WHAT IT READS IS OF BULK AT MOST 1048576: true; the input reads as it did. -/
def pickAgainUptoRow : OpenClaim := { program := "ytdmhenlfhbigbaa", sum := "073757d7b2d90535dcf294e29eab6526de87113c0a5fbdf0042b5036b9e497a8", func := "swash/swashlaw09.PickAgain", spec := "pickAgain", unfollowed := true, recurses := true, plainKeys := false, apart := false, narrowed := true }
def PickAgainUptoSaid : Prop := pickAgainUptoRow.holds Try.pinned (OpenSpec.upto pickAgainSpec)

/-- 'swashlaw09.PickOne', WHERE WHAT IT READS IS OF BULK AT MOST 1048576: true; the input reads as it did. -/
def pickOneUptoRow : OpenClaim := { program := "ytdmhenlfhbigbaa", sum := "073757d7b2d90535dcf294e29eab6526de87113c0a5fbdf0042b5036b9e497a8", func := "swash/swashlaw09.PickOne", spec := "pickOne", unfollowed := true, recurses := true, plainKeys := false, apart := false, narrowed := true }
def PickOneUptoSaid : Prop := pickOneUptoRow.holds Try.pinned (OpenSpec.upto pickOneSpec)

/-- 'swashlaw09.PickLast', WHERE WHAT IT READS IS OF BULK AT MOST 1048576: true; the input reads as it did. -/
def pickLastUptoRow : OpenClaim := { program := "ytdmhenlfhbigbaa", sum := "073757d7b2d90535dcf294e29eab6526de87113c0a5fbdf0042b5036b9e497a8", func := "swash/swashlaw09.PickLast", spec := "pickLast", unfollowed := true, recurses := true, plainKeys := false, apart := false, narrowed := true }
def PickLastUptoSaid : Prop := pickLastUptoRow.holds Try.pinned (OpenSpec.upto pickLastSpec)

end Rows
end Go.Proofs.Ytdmhenlfhbigbaa
