/-
  No cell of these rows narrows 'for every input' (looked for: loops, veiled, ifaces, maps, wideKeys, modest, calm, conditions, laid).
  DERIVED. THE GIVEN ROWS OF THIS SEAT. 11 by the template 'for every input the law returns true; each argument reads behind the call as it read before'; 0 by the template 'total and deterministic' (their statements: YtfocjagkhoonmaaTotals.lean).
  GIVEN WITH THE SEED: the statements are not yours to turn. If you find one false, say at which input.
  Laid BY PROGRAM, IN A SANDBOX (cutbox-rows.mjs): the forced cells as the released guide's own fill.sh prints them over the translation faadd843db84b573… (all of the seat's roots in one cut). By AI agents, Wed Nov 11 2026. No macro, syntax, notation, axiom, sorry.
-/
import Derived.Test.YtfocjagkhoonmaaChecked
import GoSem.Claim
import GoSem.ClaimJoined
import GoSem.ClaimMapViews
import Derived.JoinedTies
import Derived.KernelRfl
namespace Go.Proofs.Ytfocjagkhoonmaa
/- THE CELL 'sum', in the pinned program and in every row, IS THE sha256 OF THE DUMP (.gsa) THAT YtfocjagkhoonmaaProg.lean LOADS. Nothing in Lean hashes anything: it is a label: what it is worth is what the hold of that sum in a sandbox is worth. -/
noncomputable def Try.pinned : Pinned := { name := "ytfocjagkhoonmaa", sum := "faadd843db84b57383471be006b426dfae27913a17b90f2520852bd2b2ab8f1c", checked := Try.checked }
namespace Rows
def none {H : Type} : Left H := { results := [], args := [] }

/-- 'swashlaw27.TrakValues': WHATEVER THE INPUT: true; the input reads as it did. -/
def trakValuesSpec : ChangeSpec := { name := "trakValues", fn := fun _ => fun
  | [d1, d2, d3] => { results := [.lit (.bool true)], args := [d1, d2, d3] }
  | _ => none }
def trakValuesRow : OpenClaim := { program := "ytfocjagkhoonmaa", sum := "faadd843db84b57383471be006b426dfae27913a17b90f2520852bd2b2ab8f1c", func := "swash/swashlaw27.TrakValues", spec := "trakValues", unfollowed := true, recurses := true, apart := false }
def TrakValuesSaid : Prop := trakValuesRow.holds Try.pinned (OpenSpec.ofChange trakValuesSpec)

/-- ITS FALSE NEIGHBOUR: 'it returns false'. Refute it at one input. -/
def trakValuesWrong : ChangeSpec := { name := "trakValues", fn := fun _ => fun
  | [d1, d2, d3] => { results := [.lit (.bool false)], args := [d1, d2, d3] }
  | _ => none }
def TrakValuesWrongFalsely : Prop := trakValuesRow.holds Try.pinned (OpenSpec.ofChange trakValuesWrong)

/-- 'swashlaw27.TrakBetween': WHATEVER THE INPUT: true; the input reads as it did. -/
def trakBetweenSpec : ChangeSpec := { name := "trakBetween", fn := fun _ => fun
  | [d1, d2, d3] => { results := [.lit (.bool true)], args := [d1, d2, d3] }
  | _ => none }
def trakBetweenRow : OpenClaim := { program := "ytfocjagkhoonmaa", sum := "faadd843db84b57383471be006b426dfae27913a17b90f2520852bd2b2ab8f1c", func := "swash/swashlaw27.TrakBetween", spec := "trakBetween", unfollowed := true, recurses := true, apart := false }
def TrakBetweenSaid : Prop := trakBetweenRow.holds Try.pinned (OpenSpec.ofChange trakBetweenSpec)

/-- ITS FALSE NEIGHBOUR: 'it returns false'. Refute it at one input. -/
def trakBetweenWrong : ChangeSpec := { name := "trakBetween", fn := fun _ => fun
  | [d1, d2, d3] => { results := [.lit (.bool false)], args := [d1, d2, d3] }
  | _ => none }
def TrakBetweenWrongFalsely : Prop := trakBetweenRow.holds Try.pinned (OpenSpec.ofChange trakBetweenWrong)

/-- 'swashlaw27.TrakDirections': WHATEVER THE INPUT: true; the input reads as it did. -/
def trakDirectionsSpec : ChangeSpec := { name := "trakDirections", fn := fun _ => fun
  | [d1, d2, d3] => { results := [.lit (.bool true)], args := [d1, d2, d3] }
  | _ => none }
def trakDirectionsRow : OpenClaim := { program := "ytfocjagkhoonmaa", sum := "faadd843db84b57383471be006b426dfae27913a17b90f2520852bd2b2ab8f1c", func := "swash/swashlaw27.TrakDirections", spec := "trakDirections", unfollowed := true, recurses := true, apart := false }
def TrakDirectionsSaid : Prop := trakDirectionsRow.holds Try.pinned (OpenSpec.ofChange trakDirectionsSpec)

/-- ITS FALSE NEIGHBOUR: 'it returns false'. Refute it at one input. -/
def trakDirectionsWrong : ChangeSpec := { name := "trakDirections", fn := fun _ => fun
  | [d1, d2, d3] => { results := [.lit (.bool false)], args := [d1, d2, d3] }
  | _ => none }
def TrakDirectionsWrongFalsely : Prop := trakDirectionsRow.holds Try.pinned (OpenSpec.ofChange trakDirectionsWrong)

/-- 'swashlaw27.TrakTakes': WHATEVER THE INPUT: true; the input reads as it did. -/
def trakTakesSpec : ChangeSpec := { name := "trakTakes", fn := fun _ => fun
  | [d1, d2] => { results := [.lit (.bool true)], args := [d1, d2] }
  | _ => none }
def trakTakesRow : OpenClaim := { program := "ytfocjagkhoonmaa", sum := "faadd843db84b57383471be006b426dfae27913a17b90f2520852bd2b2ab8f1c", func := "swash/swashlaw27.TrakTakes", spec := "trakTakes", unfollowed := true, recurses := true, apart := false }
def TrakTakesSaid : Prop := trakTakesRow.holds Try.pinned (OpenSpec.ofChange trakTakesSpec)

/-- ITS FALSE NEIGHBOUR: 'it returns false'. Refute it at one input. -/
def trakTakesWrong : ChangeSpec := { name := "trakTakes", fn := fun _ => fun
  | [d1, d2] => { results := [.lit (.bool false)], args := [d1, d2] }
  | _ => none }
def TrakTakesWrongFalsely : Prop := trakTakesRow.holds Try.pinned (OpenSpec.ofChange trakTakesWrong)

/-- 'swashlaw03.FaceNumbers': WHATEVER THE INPUT: true; the input reads as it did. -/
def faceNumbersSpec : ChangeSpec := { name := "faceNumbers", fn := fun _ => fun
  | [d1, d2, d3] => { results := [.lit (.bool true)], args := [d1, d2, d3] }
  | _ => none }
def faceNumbersRow : OpenClaim := { program := "ytfocjagkhoonmaa", sum := "faadd843db84b57383471be006b426dfae27913a17b90f2520852bd2b2ab8f1c", func := "swash/swashlaw03.FaceNumbers", spec := "faceNumbers", unfollowed := true, recurses := true, apart := false }
def FaceNumbersSaid : Prop := faceNumbersRow.holds Try.pinned (OpenSpec.ofChange faceNumbersSpec)

/-- ITS FALSE NEIGHBOUR: 'it returns false'. Refute it at one input. -/
def faceNumbersWrong : ChangeSpec := { name := "faceNumbers", fn := fun _ => fun
  | [d1, d2, d3] => { results := [.lit (.bool false)], args := [d1, d2, d3] }
  | _ => none }
def FaceNumbersWrongFalsely : Prop := faceNumbersRow.holds Try.pinned (OpenSpec.ofChange faceNumbersWrong)

/-- 'swashlaw03.FaceShort': WHATEVER THE INPUT: true; the input reads as it did. -/
def faceShortSpec : ChangeSpec := { name := "faceShort", fn := fun _ => fun
  | [d1, d2, d3] => { results := [.lit (.bool true)], args := [d1, d2, d3] }
  | _ => none }
def faceShortRow : OpenClaim := { program := "ytfocjagkhoonmaa", sum := "faadd843db84b57383471be006b426dfae27913a17b90f2520852bd2b2ab8f1c", func := "swash/swashlaw03.FaceShort", spec := "faceShort", unfollowed := true, recurses := true, apart := false }
def FaceShortSaid : Prop := faceShortRow.holds Try.pinned (OpenSpec.ofChange faceShortSpec)

/-- ITS FALSE NEIGHBOUR: 'it returns false'. Refute it at one input. -/
def faceShortWrong : ChangeSpec := { name := "faceShort", fn := fun _ => fun
  | [d1, d2, d3] => { results := [.lit (.bool false)], args := [d1, d2, d3] }
  | _ => none }
def FaceShortWrongFalsely : Prop := faceShortRow.holds Try.pinned (OpenSpec.ofChange faceShortWrong)

/-- 'swashlaw03.FaceIdle': WHATEVER THE INPUT: true; the input reads as it did. -/
def faceIdleSpec : ChangeSpec := { name := "faceIdle", fn := fun _ => fun
  | [d1, d2, d3] => { results := [.lit (.bool true)], args := [d1, d2, d3] }
  | _ => none }
def faceIdleRow : OpenClaim := { program := "ytfocjagkhoonmaa", sum := "faadd843db84b57383471be006b426dfae27913a17b90f2520852bd2b2ab8f1c", func := "swash/swashlaw03.FaceIdle", spec := "faceIdle", unfollowed := true, recurses := true, apart := false }
def FaceIdleSaid : Prop := faceIdleRow.holds Try.pinned (OpenSpec.ofChange faceIdleSpec)

/-- ITS FALSE NEIGHBOUR: 'it returns false'. Refute it at one input. -/
def faceIdleWrong : ChangeSpec := { name := "faceIdle", fn := fun _ => fun
  | [d1, d2, d3] => { results := [.lit (.bool false)], args := [d1, d2, d3] }
  | _ => none }
def FaceIdleWrongFalsely : Prop := faceIdleRow.holds Try.pinned (OpenSpec.ofChange faceIdleWrong)

/-- 'swashlaw04.WidthLast': WHATEVER THE INPUT: true; the input reads as it did. -/
def widthLastSpec : ChangeSpec := { name := "widthLast", fn := fun _ => fun
  | [d1, d2] => { results := [.lit (.bool true)], args := [d1, d2] }
  | _ => none }
def widthLastRow : OpenClaim := { program := "ytfocjagkhoonmaa", sum := "faadd843db84b57383471be006b426dfae27913a17b90f2520852bd2b2ab8f1c", func := "swash/swashlaw04.WidthLast", spec := "widthLast", unfollowed := true, recurses := true, apart := false }
def WidthLastSaid : Prop := widthLastRow.holds Try.pinned (OpenSpec.ofChange widthLastSpec)

/-- ITS FALSE NEIGHBOUR: 'it returns false'. Refute it at one input. -/
def widthLastWrong : ChangeSpec := { name := "widthLast", fn := fun _ => fun
  | [d1, d2] => { results := [.lit (.bool false)], args := [d1, d2] }
  | _ => none }
def WidthLastWrongFalsely : Prop := widthLastRow.holds Try.pinned (OpenSpec.ofChange widthLastWrong)

/-- 'swashlaw04.WidthKeeps': WHATEVER THE INPUT: true; the input reads as it did. -/
def widthKeepsSpec : ChangeSpec := { name := "widthKeeps", fn := fun _ => fun
  | [d1, d2] => { results := [.lit (.bool true)], args := [d1, d2] }
  | _ => none }
def widthKeepsRow : OpenClaim := { program := "ytfocjagkhoonmaa", sum := "faadd843db84b57383471be006b426dfae27913a17b90f2520852bd2b2ab8f1c", func := "swash/swashlaw04.WidthKeeps", spec := "widthKeeps", unfollowed := true, recurses := true, apart := false }
def WidthKeepsSaid : Prop := widthKeepsRow.holds Try.pinned (OpenSpec.ofChange widthKeepsSpec)

/-- ITS FALSE NEIGHBOUR: 'it returns false'. Refute it at one input. -/
def widthKeepsWrong : ChangeSpec := { name := "widthKeeps", fn := fun _ => fun
  | [d1, d2] => { results := [.lit (.bool false)], args := [d1, d2] }
  | _ => none }
def WidthKeepsWrongFalsely : Prop := widthKeepsRow.holds Try.pinned (OpenSpec.ofChange widthKeepsWrong)

/-- 'swashlaw04.WidthShort': WHATEVER THE INPUT: true; the input reads as it did. -/
def widthShortSpec : ChangeSpec := { name := "widthShort", fn := fun _ => fun
  | [d1, d2, d3] => { results := [.lit (.bool true)], args := [d1, d2, d3] }
  | _ => none }
def widthShortRow : OpenClaim := { program := "ytfocjagkhoonmaa", sum := "faadd843db84b57383471be006b426dfae27913a17b90f2520852bd2b2ab8f1c", func := "swash/swashlaw04.WidthShort", spec := "widthShort", unfollowed := true, recurses := true, apart := false }
def WidthShortSaid : Prop := widthShortRow.holds Try.pinned (OpenSpec.ofChange widthShortSpec)

/-- ITS FALSE NEIGHBOUR: 'it returns false'. Refute it at one input. -/
def widthShortWrong : ChangeSpec := { name := "widthShort", fn := fun _ => fun
  | [d1, d2, d3] => { results := [.lit (.bool false)], args := [d1, d2, d3] }
  | _ => none }
def WidthShortWrongFalsely : Prop := widthShortRow.holds Try.pinned (OpenSpec.ofChange widthShortWrong)

/-- 'swashlaw02.SfntOrder': WHATEVER THE INPUT: true; the input reads as it did. -/
def sfntOrderSpec : ChangeSpec := { name := "sfntOrder", fn := fun _ => fun
  | [d] => { results := [.lit (.bool true)], args := [d] }
  | _ => none }
def sfntOrderRow : OpenClaim := { program := "ytfocjagkhoonmaa", sum := "faadd843db84b57383471be006b426dfae27913a17b90f2520852bd2b2ab8f1c", func := "swash/swashlaw02.SfntOrder", spec := "sfntOrder", unfollowed := true, recurses := true, apart := false }
def SfntOrderSaid : Prop := sfntOrderRow.holds Try.pinned (OpenSpec.ofChange sfntOrderSpec)

/-- ITS FALSE NEIGHBOUR: 'it returns false'. Refute it at one input. -/
def sfntOrderWrong : ChangeSpec := { name := "sfntOrder", fn := fun _ => fun
  | [d] => { results := [.lit (.bool false)], args := [d] }
  | _ => none }
def SfntOrderWrongFalsely : Prop := sfntOrderRow.holds Try.pinned (OpenSpec.ofChange sfntOrderWrong)

/- THE SECOND FORM. 'bulk': how many values and letters a reading holds, each counted each time it is reached (what is shared counts as often as it is met; a slice's spare places count too). A statement '..UptoSaid' is the law's where the arguments, and the package variables that the reading takes, are together of bulk at most 1048576: NARROWER than '..Said'. Prove '..Said' where nothing that the law and all that it calls make is longer than what came in: it says more and counts as full. Else prove '..UptoSaid'. A law counts once. -/
mutual
def uptoBulk {H : Type} : DataW H → Nat
  | .lit (.string bytes) => bytes.length + 1
  | .lit _ => 1
  | .nil => 1
  | .ptr d => uptoBulk d + 1
  | .slice elems spare => uptoBulkAll elems + uptoBulkAll spare + 1
  | .agg parts => uptoBulkAll parts + 1
  | .iface _ d => uptoBulk d + 1
  | .map entries => uptoBulkEntries entries + 1
  | .held _ => 1
def uptoBulkAll {H : Type} : List (DataW H) → Nat
  | [] => 0
  | d :: r => uptoBulk d + uptoBulkAll r
def uptoBulkEntries {H : Type} : List (Lit × DataW H) → Nat
  | [] => 0
  | x :: r => uptoBulkEntry x + uptoBulkEntries r
def uptoBulkEntry {H : Type} : Lit × DataW H → Nat
  | (.string bytes, d) => bytes.length + uptoBulk d + 1
  | (_, d) => uptoBulk d + 1
 end
def uptoSmall : (H : Type) → List (DataW H) → Bool := fun _ ds => decide (uptoBulkAll ds ≤ 1048576)
def OpenSpec.upto (s : _root_.Go.ChangeSpec) : _root_.Go.OpenSpec := { _root_.Go.OpenSpec.ofChange s with cond := some uptoSmall }

/-- 'swashlaw27.TrakValues', WHERE WHAT IT READS IS OF BULK AT MOST 1048576: true; the input reads as it did. -/
def trakValuesUptoRow : OpenClaim := { program := "ytfocjagkhoonmaa", sum := "faadd843db84b57383471be006b426dfae27913a17b90f2520852bd2b2ab8f1c", func := "swash/swashlaw27.TrakValues", spec := "trakValues", unfollowed := true, recurses := true, apart := false, narrowed := true }
def TrakValuesUptoSaid : Prop := trakValuesUptoRow.holds Try.pinned (OpenSpec.upto trakValuesSpec)

/-- 'swashlaw27.TrakBetween', WHERE WHAT IT READS IS OF BULK AT MOST 1048576: true; the input reads as it did. -/
def trakBetweenUptoRow : OpenClaim := { program := "ytfocjagkhoonmaa", sum := "faadd843db84b57383471be006b426dfae27913a17b90f2520852bd2b2ab8f1c", func := "swash/swashlaw27.TrakBetween", spec := "trakBetween", unfollowed := true, recurses := true, apart := false, narrowed := true }
def TrakBetweenUptoSaid : Prop := trakBetweenUptoRow.holds Try.pinned (OpenSpec.upto trakBetweenSpec)

/-- 'swashlaw27.TrakDirections', WHERE WHAT IT READS IS OF BULK AT MOST 1048576: true; the input reads as it did. -/
def trakDirectionsUptoRow : OpenClaim := { program := "ytfocjagkhoonmaa", sum := "faadd843db84b57383471be006b426dfae27913a17b90f2520852bd2b2ab8f1c", func := "swash/swashlaw27.TrakDirections", spec := "trakDirections", unfollowed := true, recurses := true, apart := false, narrowed := true }
def TrakDirectionsUptoSaid : Prop := trakDirectionsUptoRow.holds Try.pinned (OpenSpec.upto trakDirectionsSpec)

/-- 'swashlaw27.TrakTakes', WHERE WHAT IT READS IS OF BULK AT MOST 1048576: true; the input reads as it did. -/
def trakTakesUptoRow : OpenClaim := { program := "ytfocjagkhoonmaa", sum := "faadd843db84b57383471be006b426dfae27913a17b90f2520852bd2b2ab8f1c", func := "swash/swashlaw27.TrakTakes", spec := "trakTakes", unfollowed := true, recurses := true, apart := false, narrowed := true }
def TrakTakesUptoSaid : Prop := trakTakesUptoRow.holds Try.pinned (OpenSpec.upto trakTakesSpec)

/-- 'swashlaw03.FaceNumbers', WHERE WHAT IT READS IS OF BULK AT MOST 1048576: true; the input reads as it did. -/
def faceNumbersUptoRow : OpenClaim := { program := "ytfocjagkhoonmaa", sum := "faadd843db84b57383471be006b426dfae27913a17b90f2520852bd2b2ab8f1c", func := "swash/swashlaw03.FaceNumbers", spec := "faceNumbers", unfollowed := true, recurses := true, apart := false, narrowed := true }
def FaceNumbersUptoSaid : Prop := faceNumbersUptoRow.holds Try.pinned (OpenSpec.upto faceNumbersSpec)

/-- 'swashlaw03.FaceShort', WHERE WHAT IT READS IS OF BULK AT MOST 1048576: true; the input reads as it did. -/
def faceShortUptoRow : OpenClaim := { program := "ytfocjagkhoonmaa", sum := "faadd843db84b57383471be006b426dfae27913a17b90f2520852bd2b2ab8f1c", func := "swash/swashlaw03.FaceShort", spec := "faceShort", unfollowed := true, recurses := true, apart := false, narrowed := true }
def FaceShortUptoSaid : Prop := faceShortUptoRow.holds Try.pinned (OpenSpec.upto faceShortSpec)

/-- 'swashlaw03.FaceIdle', WHERE WHAT IT READS IS OF BULK AT MOST 1048576: true; the input reads as it did. -/
def faceIdleUptoRow : OpenClaim := { program := "ytfocjagkhoonmaa", sum := "faadd843db84b57383471be006b426dfae27913a17b90f2520852bd2b2ab8f1c", func := "swash/swashlaw03.FaceIdle", spec := "faceIdle", unfollowed := true, recurses := true, apart := false, narrowed := true }
def FaceIdleUptoSaid : Prop := faceIdleUptoRow.holds Try.pinned (OpenSpec.upto faceIdleSpec)

/-- 'swashlaw04.WidthLast', WHERE WHAT IT READS IS OF BULK AT MOST 1048576: true; the input reads as it did. -/
def widthLastUptoRow : OpenClaim := { program := "ytfocjagkhoonmaa", sum := "faadd843db84b57383471be006b426dfae27913a17b90f2520852bd2b2ab8f1c", func := "swash/swashlaw04.WidthLast", spec := "widthLast", unfollowed := true, recurses := true, apart := false, narrowed := true }
def WidthLastUptoSaid : Prop := widthLastUptoRow.holds Try.pinned (OpenSpec.upto widthLastSpec)

/-- 'swashlaw04.WidthKeeps', WHERE WHAT IT READS IS OF BULK AT MOST 1048576: true; the input reads as it did. -/
def widthKeepsUptoRow : OpenClaim := { program := "ytfocjagkhoonmaa", sum := "faadd843db84b57383471be006b426dfae27913a17b90f2520852bd2b2ab8f1c", func := "swash/swashlaw04.WidthKeeps", spec := "widthKeeps", unfollowed := true, recurses := true, apart := false, narrowed := true }
def WidthKeepsUptoSaid : Prop := widthKeepsUptoRow.holds Try.pinned (OpenSpec.upto widthKeepsSpec)

/-- 'swashlaw04.WidthShort', WHERE WHAT IT READS IS OF BULK AT MOST 1048576: true; the input reads as it did. -/
def widthShortUptoRow : OpenClaim := { program := "ytfocjagkhoonmaa", sum := "faadd843db84b57383471be006b426dfae27913a17b90f2520852bd2b2ab8f1c", func := "swash/swashlaw04.WidthShort", spec := "widthShort", unfollowed := true, recurses := true, apart := false, narrowed := true }
def WidthShortUptoSaid : Prop := widthShortUptoRow.holds Try.pinned (OpenSpec.upto widthShortSpec)

/-- 'swashlaw02.SfntOrder', WHERE WHAT IT READS IS OF BULK AT MOST 1048576: true; the input reads as it did. -/
def sfntOrderUptoRow : OpenClaim := { program := "ytfocjagkhoonmaa", sum := "faadd843db84b57383471be006b426dfae27913a17b90f2520852bd2b2ab8f1c", func := "swash/swashlaw02.SfntOrder", spec := "sfntOrder", unfollowed := true, recurses := true, apart := false, narrowed := true }
def SfntOrderUptoSaid : Prop := sfntOrderUptoRow.holds Try.pinned (OpenSpec.upto sfntOrderSpec)

end Rows
end Go.Proofs.Ytfocjagkhoonmaa
