/-
  No cell of these rows narrows 'for every input' (looked for: loops, veiled, ifaces, maps, wideKeys, modest, calm, conditions, laid).
  DERIVED. THE GIVEN ROWS OF THIS SEAT. 11 by the template 'for every input the law returns true; each argument reads behind the call as it read before'; 0 by the template 'total and deterministic' (their statements: YtgddghplhdmfdaaTotals.lean).
  GIVEN WITH THE SEED: the statements are not yours to turn. If you find one false, say at which input.
  Laid BY PROGRAM, IN A SANDBOX (cutbox-rows.mjs): the forced cells as the released guide's own fill.sh prints them over the translation f0fff1d944048976… (all of the seat's roots in one cut). By AI agents, Wed Nov 11 2026. No macro, syntax, notation, axiom, sorry.
-/
import Derived.Test.YtgddghplhdmfdaaChecked
import GoSem.Claim
import GoSem.ClaimJoined
import GoSem.ClaimMapViews
import Derived.JoinedTies
import Derived.KernelRfl
namespace Go.Proofs.Ytgddghplhdmfdaa
/- THE CELL 'sum', in the pinned program and in every row, IS THE sha256 OF THE DUMP (.gsa) THAT YtgddghplhdmfdaaProg.lean LOADS. Nothing in Lean hashes anything: it is a label: what it is worth is what the hold of that sum in a sandbox is worth. -/
noncomputable def Try.pinned : Pinned := { name := "ytgddghplhdmfdaa", sum := "f0fff1d944048976b6ccdade6947719ea53fa6e170548ec8a1fbf4e622aed789", checked := Try.checked }
namespace Rows
def none {H : Type} : Left H := { results := [], args := [] }

/-- 'swashlaw19.ChainCuts': WHATEVER THE INPUT: true; the input reads as it did. -/
def chainCutsSpec : ChangeSpec := { name := "chainCuts", fn := fun _ => fun
  | [d1, d2] => { results := [.lit (.bool true)], args := [d1, d2] }
  | _ => none }
def chainCutsRow : OpenClaim := { program := "ytgddghplhdmfdaa", sum := "f0fff1d944048976b6ccdade6947719ea53fa6e170548ec8a1fbf4e622aed789", func := "swash/swashlaw19.ChainCuts", spec := "chainCuts", unfollowed := true, recurses := true, apart := false }
def ChainCutsSaid : Prop := chainCutsRow.holds Try.pinned (OpenSpec.ofChange chainCutsSpec)

/-- ITS FALSE NEIGHBOUR: 'it returns false'. Refute it at one input. -/
def chainCutsWrong : ChangeSpec := { name := "chainCuts", fn := fun _ => fun
  | [d1, d2] => { results := [.lit (.bool false)], args := [d1, d2] }
  | _ => none }
def ChainCutsWrongFalsely : Prop := chainCutsRow.holds Try.pinned (OpenSpec.ofChange chainCutsWrong)

/-- 'swashlaw19.ChainReads': WHATEVER THE INPUT: true; the input reads as it did. -/
def chainReadsSpec : ChangeSpec := { name := "chainReads", fn := fun _ => fun
  | [d] => { results := [.lit (.bool true)], args := [d] }
  | _ => none }
def chainReadsRow : OpenClaim := { program := "ytgddghplhdmfdaa", sum := "f0fff1d944048976b6ccdade6947719ea53fa6e170548ec8a1fbf4e622aed789", func := "swash/swashlaw19.ChainReads", spec := "chainReads", unfollowed := true, recurses := true, apart := false }
def ChainReadsSaid : Prop := chainReadsRow.holds Try.pinned (OpenSpec.ofChange chainReadsSpec)

/-- ITS FALSE NEIGHBOUR: 'it returns false'. Refute it at one input. -/
def chainReadsWrong : ChangeSpec := { name := "chainReads", fn := fun _ => fun
  | [d] => { results := [.lit (.bool false)], args := [d] }
  | _ => none }
def ChainReadsWrongFalsely : Prop := chainReadsRow.holds Try.pinned (OpenSpec.ofChange chainReadsWrong)

/-- 'swashlaw19.ChainBack': WHATEVER THE INPUT: true; the input reads as it did. -/
def chainBackSpec : ChangeSpec := { name := "chainBack", fn := fun _ => fun
  | [d1, d2] => { results := [.lit (.bool true)], args := [d1, d2] }
  | _ => none }
def chainBackRow : OpenClaim := { program := "ytgddghplhdmfdaa", sum := "f0fff1d944048976b6ccdade6947719ea53fa6e170548ec8a1fbf4e622aed789", func := "swash/swashlaw19.ChainBack", spec := "chainBack", unfollowed := true, recurses := true, apart := false }
def ChainBackSaid : Prop := chainBackRow.holds Try.pinned (OpenSpec.ofChange chainBackSpec)

/-- ITS FALSE NEIGHBOUR: 'it returns false'. Refute it at one input. -/
def chainBackWrong : ChangeSpec := { name := "chainBack", fn := fun _ => fun
  | [d1, d2] => { results := [.lit (.bool false)], args := [d1, d2] }
  | _ => none }
def ChainBackWrongFalsely : Prop := chainBackRow.holds Try.pinned (OpenSpec.ofChange chainBackWrong)

/-- 'swashlaw19.ChainTakes': WHATEVER THE INPUT: true; the input reads as it did. -/
def chainTakesSpec : ChangeSpec := { name := "chainTakes", fn := fun _ => fun
  | [d] => { results := [.lit (.bool true)], args := [d] }
  | _ => none }
def chainTakesRow : OpenClaim := { program := "ytgddghplhdmfdaa", sum := "f0fff1d944048976b6ccdade6947719ea53fa6e170548ec8a1fbf4e622aed789", func := "swash/swashlaw19.ChainTakes", spec := "chainTakes", unfollowed := true, recurses := true, apart := false }
def ChainTakesSaid : Prop := chainTakesRow.holds Try.pinned (OpenSpec.ofChange chainTakesSpec)

/-- ITS FALSE NEIGHBOUR: 'it returns false'. Refute it at one input. -/
def chainTakesWrong : ChangeSpec := { name := "chainTakes", fn := fun _ => fun
  | [d] => { results := [.lit (.bool false)], args := [d] }
  | _ => none }
def ChainTakesWrongFalsely : Prop := chainTakesRow.holds Try.pinned (OpenSpec.ofChange chainTakesWrong)

/-- 'swashlaw08.FeatBack': WHATEVER THE INPUT: true; the input reads as it did. -/
def featBackSpec : ChangeSpec := { name := "featBack", fn := fun _ => fun
  | [d] => { results := [.lit (.bool true)], args := [d] }
  | _ => none }
def featBackRow : OpenClaim := { program := "ytgddghplhdmfdaa", sum := "f0fff1d944048976b6ccdade6947719ea53fa6e170548ec8a1fbf4e622aed789", func := "swash/swashlaw08.FeatBack", spec := "featBack", unfollowed := true, recurses := true, apart := false }
def FeatBackSaid : Prop := featBackRow.holds Try.pinned (OpenSpec.ofChange featBackSpec)

/-- ITS FALSE NEIGHBOUR: 'it returns false'. Refute it at one input. -/
def featBackWrong : ChangeSpec := { name := "featBack", fn := fun _ => fun
  | [d] => { results := [.lit (.bool false)], args := [d] }
  | _ => none }
def FeatBackWrongFalsely : Prop := featBackRow.holds Try.pinned (OpenSpec.ofChange featBackWrong)

/-- 'swashlaw08.FeatDefault': WHATEVER THE INPUT: true; the input reads as it did. -/
def featDefaultSpec : ChangeSpec := { name := "featDefault", fn := fun _ => fun
  | [d] => { results := [.lit (.bool true)], args := [d] }
  | _ => none }
def featDefaultRow : OpenClaim := { program := "ytgddghplhdmfdaa", sum := "f0fff1d944048976b6ccdade6947719ea53fa6e170548ec8a1fbf4e622aed789", func := "swash/swashlaw08.FeatDefault", spec := "featDefault", unfollowed := true, recurses := true, apart := false }
def FeatDefaultSaid : Prop := featDefaultRow.holds Try.pinned (OpenSpec.ofChange featDefaultSpec)

/-- ITS FALSE NEIGHBOUR: 'it returns false'. Refute it at one input. -/
def featDefaultWrong : ChangeSpec := { name := "featDefault", fn := fun _ => fun
  | [d] => { results := [.lit (.bool false)], args := [d] }
  | _ => none }
def FeatDefaultWrongFalsely : Prop := featDefaultRow.holds Try.pinned (OpenSpec.ofChange featDefaultWrong)

/-- 'swashlaw05.SeekRows': WHATEVER THE INPUT: true; the input reads as it did. -/
def seekRowsSpec : ChangeSpec := { name := "seekRows", fn := fun _ => fun
  | [d1, d2, d3] => { results := [.lit (.bool true)], args := [d1, d2, d3] }
  | _ => none }
def seekRowsRow : OpenClaim := { program := "ytgddghplhdmfdaa", sum := "f0fff1d944048976b6ccdade6947719ea53fa6e170548ec8a1fbf4e622aed789", func := "swash/swashlaw05.SeekRows", spec := "seekRows", unfollowed := true, recurses := true, apart := false }
def SeekRowsSaid : Prop := seekRowsRow.holds Try.pinned (OpenSpec.ofChange seekRowsSpec)

/-- ITS FALSE NEIGHBOUR: 'it returns false'. Refute it at one input. -/
def seekRowsWrong : ChangeSpec := { name := "seekRows", fn := fun _ => fun
  | [d1, d2, d3] => { results := [.lit (.bool false)], args := [d1, d2, d3] }
  | _ => none }
def SeekRowsWrongFalsely : Prop := seekRowsRow.holds Try.pinned (OpenSpec.ofChange seekRowsWrong)

/-- 'swashlaw05.SeekOwn': WHATEVER THE INPUT: true; the input reads as it did. -/
def seekOwnSpec : ChangeSpec := { name := "seekOwn", fn := fun _ => fun
  | [d1, d2] => { results := [.lit (.bool true)], args := [d1, d2] }
  | _ => none }
def seekOwnRow : OpenClaim := { program := "ytgddghplhdmfdaa", sum := "f0fff1d944048976b6ccdade6947719ea53fa6e170548ec8a1fbf4e622aed789", func := "swash/swashlaw05.SeekOwn", spec := "seekOwn", unfollowed := true, recurses := true, apart := false }
def SeekOwnSaid : Prop := seekOwnRow.holds Try.pinned (OpenSpec.ofChange seekOwnSpec)

/-- ITS FALSE NEIGHBOUR: 'it returns false'. Refute it at one input. -/
def seekOwnWrong : ChangeSpec := { name := "seekOwn", fn := fun _ => fun
  | [d1, d2] => { results := [.lit (.bool false)], args := [d1, d2] }
  | _ => none }
def SeekOwnWrongFalsely : Prop := seekOwnRow.holds Try.pinned (OpenSpec.ofChange seekOwnWrong)

/-- 'swashlaw05.SeekPlace': WHATEVER THE INPUT: true; the input reads as it did. -/
def seekPlaceSpec : ChangeSpec := { name := "seekPlace", fn := fun _ => fun
  | [d1, d2] => { results := [.lit (.bool true)], args := [d1, d2] }
  | _ => none }
def seekPlaceRow : OpenClaim := { program := "ytgddghplhdmfdaa", sum := "f0fff1d944048976b6ccdade6947719ea53fa6e170548ec8a1fbf4e622aed789", func := "swash/swashlaw05.SeekPlace", spec := "seekPlace", unfollowed := true, recurses := true, apart := false }
def SeekPlaceSaid : Prop := seekPlaceRow.holds Try.pinned (OpenSpec.ofChange seekPlaceSpec)

/-- ITS FALSE NEIGHBOUR: 'it returns false'. Refute it at one input. -/
def seekPlaceWrong : ChangeSpec := { name := "seekPlace", fn := fun _ => fun
  | [d1, d2] => { results := [.lit (.bool false)], args := [d1, d2] }
  | _ => none }
def SeekPlaceWrongFalsely : Prop := seekPlaceRow.holds Try.pinned (OpenSpec.ofChange seekPlaceWrong)

/-- 'swashlaw05.SeekTakes': WHATEVER THE INPUT: true; the input reads as it did. -/
def seekTakesSpec : ChangeSpec := { name := "seekTakes", fn := fun _ => fun
  | [d1, d2, d3] => { results := [.lit (.bool true)], args := [d1, d2, d3] }
  | _ => none }
def seekTakesRow : OpenClaim := { program := "ytgddghplhdmfdaa", sum := "f0fff1d944048976b6ccdade6947719ea53fa6e170548ec8a1fbf4e622aed789", func := "swash/swashlaw05.SeekTakes", spec := "seekTakes", unfollowed := true, recurses := true, apart := false }
def SeekTakesSaid : Prop := seekTakesRow.holds Try.pinned (OpenSpec.ofChange seekTakesSpec)

/-- ITS FALSE NEIGHBOUR: 'it returns false'. Refute it at one input. -/
def seekTakesWrong : ChangeSpec := { name := "seekTakes", fn := fun _ => fun
  | [d1, d2, d3] => { results := [.lit (.bool false)], args := [d1, d2, d3] }
  | _ => none }
def SeekTakesWrongFalsely : Prop := seekTakesRow.holds Try.pinned (OpenSpec.ofChange seekTakesWrong)

/-- 'swashlaw05.SeekFirst': WHATEVER THE INPUT: true; the input reads as it did. -/
def seekFirstSpec : ChangeSpec := { name := "seekFirst", fn := fun _ => fun
  | [d1, d2] => { results := [.lit (.bool true)], args := [d1, d2] }
  | _ => none }
def seekFirstRow : OpenClaim := { program := "ytgddghplhdmfdaa", sum := "f0fff1d944048976b6ccdade6947719ea53fa6e170548ec8a1fbf4e622aed789", func := "swash/swashlaw05.SeekFirst", spec := "seekFirst", unfollowed := true, recurses := true, apart := false }
def SeekFirstSaid : Prop := seekFirstRow.holds Try.pinned (OpenSpec.ofChange seekFirstSpec)

/-- ITS FALSE NEIGHBOUR: 'it returns false'. Refute it at one input. -/
def seekFirstWrong : ChangeSpec := { name := "seekFirst", fn := fun _ => fun
  | [d1, d2] => { results := [.lit (.bool false)], args := [d1, d2] }
  | _ => none }
def SeekFirstWrongFalsely : Prop := seekFirstRow.holds Try.pinned (OpenSpec.ofChange seekFirstWrong)

/- THE SECOND FORM. 'bulk': how many values and letters a reading holds, each counted each time it is reached (what is shared counts as often as it is met; a slice's spare places count too). A statement '..UptoSaid' is the law's where the arguments, and the package variables that the reading takes, are together of bulk at most 1048576: NARROWER than '..Said'. Prove '..Said' where nothing that the law and all that it calls make is longer than what came in: it says more and counts as full. Else prove '..UptoSaid'. A law counts once. -/
mutual
def uptoBulk {H : Type} : DataW H → Nat
  | .lit (.string bytes) => bytes.length + 1
  | .lit _ => 1
  | .nil => 1
  | .ptr d => uptoBulk d + 1
  | .slice elems spare => uptoBulkAll elems + uptoBulkAll spare + 1
  | .agg parts => uptoBulkAll parts + 1
  | .iface _ d => uptoBulk d + 1
  | .map entries => uptoBulkEntries entries + 1
  | .held _ => 1
def uptoBulkAll {H : Type} : List (DataW H) → Nat
  | [] => 0
  | d :: r => uptoBulk d + uptoBulkAll r
def uptoBulkEntries {H : Type} : List (Lit × DataW H) → Nat
  | [] => 0
  | x :: r => uptoBulkEntry x + uptoBulkEntries r
def uptoBulkEntry {H : Type} : Lit × DataW H → Nat
  | (.string bytes, d) => bytes.length + uptoBulk d + 1
  | (_, d) => uptoBulk d + 1
 end
def uptoSmall : (H : Type) → List (DataW H) → Bool := fun _ ds => decide (uptoBulkAll ds ≤ 1048576)
def OpenSpec.upto (s : _root_.Go.ChangeSpec) : _root_.Go.OpenSpec := { _root_.Go.OpenSpec.ofChange s with cond := some uptoSmall }

/-- 'swashlaw19.ChainCuts', WHERE WHAT IT READS IS OF BULK AT MOST 1048576: true; the input reads as it did. -/
def chainCutsUptoRow : OpenClaim := { program := "ytgddghplhdmfdaa", sum := "f0fff1d944048976b6ccdade6947719ea53fa6e170548ec8a1fbf4e622aed789", func := "swash/swashlaw19.ChainCuts", spec := "chainCuts", unfollowed := true, recurses := true, apart := false, narrowed := true }
def ChainCutsUptoSaid : Prop := chainCutsUptoRow.holds Try.pinned (OpenSpec.upto chainCutsSpec)

/-- 'swashlaw19.ChainReads', WHERE WHAT IT READS IS OF BULK AT MOST 1048576: true; the input reads as it did. -/
def chainReadsUptoRow : OpenClaim := { program := "ytgddghplhdmfdaa", sum := "f0fff1d944048976b6ccdade6947719ea53fa6e170548ec8a1fbf4e622aed789", func := "swash/swashlaw19.ChainReads", spec := "chainReads", unfollowed := true, recurses := true, apart := false, narrowed := true }
def ChainReadsUptoSaid : Prop := chainReadsUptoRow.holds Try.pinned (OpenSpec.upto chainReadsSpec)

/-- 'swashlaw19.ChainBack', WHERE WHAT IT READS IS OF BULK AT MOST 1048576: true; the input reads as it did. -/
def chainBackUptoRow : OpenClaim := { program := "ytgddghplhdmfdaa", sum := "f0fff1d944048976b6ccdade6947719ea53fa6e170548ec8a1fbf4e622aed789", func := "swash/swashlaw19.ChainBack", spec := "chainBack", unfollowed := true, recurses := true, apart := false, narrowed := true }
def ChainBackUptoSaid : Prop := chainBackUptoRow.holds Try.pinned (OpenSpec.upto chainBackSpec)

/-- 'swashlaw19.ChainTakes', WHERE WHAT IT READS IS OF BULK AT MOST 1048576: true; the input reads as it did. -/
def chainTakesUptoRow : OpenClaim := { program := "ytgddghplhdmfdaa", sum := "f0fff1d944048976b6ccdade6947719ea53fa6e170548ec8a1fbf4e622aed789", func := "swash/swashlaw19.ChainTakes", spec := "chainTakes", unfollowed := true, recurses := true, apart := false, narrowed := true }
def ChainTakesUptoSaid : Prop := chainTakesUptoRow.holds Try.pinned (OpenSpec.upto chainTakesSpec)

/-- 'swashlaw08.FeatBack', WHERE WHAT IT READS IS OF BULK AT MOST 1048576: true; the input reads as it did. -/
def featBackUptoRow : OpenClaim := { program := "ytgddghplhdmfdaa", sum := "f0fff1d944048976b6ccdade6947719ea53fa6e170548ec8a1fbf4e622aed789", func := "swash/swashlaw08.FeatBack", spec := "featBack", unfollowed := true, recurses := true, apart := false, narrowed := true }
def FeatBackUptoSaid : Prop := featBackUptoRow.holds Try.pinned (OpenSpec.upto featBackSpec)

/-- 'swashlaw08.FeatDefault', WHERE WHAT IT READS IS OF BULK AT MOST 1048576: true; the input reads as it did. -/
def featDefaultUptoRow : OpenClaim := { program := "ytgddghplhdmfdaa", sum := "f0fff1d944048976b6ccdade6947719ea53fa6e170548ec8a1fbf4e622aed789", func := "swash/swashlaw08.FeatDefault", spec := "featDefault", unfollowed := true, recurses := true, apart := false, narrowed := true }
def FeatDefaultUptoSaid : Prop := featDefaultUptoRow.holds Try.pinned (OpenSpec.upto featDefaultSpec)

/-- 'swashlaw05.SeekRows', WHERE WHAT IT READS IS OF BULK AT MOST 1048576: true; the input reads as it did. -/
def seekRowsUptoRow : OpenClaim := { program := "ytgddghplhdmfdaa", sum := "f0fff1d944048976b6ccdade6947719ea53fa6e170548ec8a1fbf4e622aed789", func := "swash/swashlaw05.SeekRows", spec := "seekRows", unfollowed := true, recurses := true, apart := false, narrowed := true }
def SeekRowsUptoSaid : Prop := seekRowsUptoRow.holds Try.pinned (OpenSpec.upto seekRowsSpec)

/-- 'swashlaw05.SeekOwn', WHERE WHAT IT READS IS OF BULK AT MOST 1048576: true; the input reads as it did. -/
def seekOwnUptoRow : OpenClaim := { program := "ytgddghplhdmfdaa", sum := "f0fff1d944048976b6ccdade6947719ea53fa6e170548ec8a1fbf4e622aed789", func := "swash/swashlaw05.SeekOwn", spec := "seekOwn", unfollowed := true, recurses := true, apart := false, narrowed := true }
def SeekOwnUptoSaid : Prop := seekOwnUptoRow.holds Try.pinned (OpenSpec.upto seekOwnSpec)

/-- 'swashlaw05.SeekPlace', WHERE WHAT IT READS IS OF BULK AT MOST 1048576: true; the input reads as it did. -/
def seekPlaceUptoRow : OpenClaim := { program := "ytgddghplhdmfdaa", sum := "f0fff1d944048976b6ccdade6947719ea53fa6e170548ec8a1fbf4e622aed789", func := "swash/swashlaw05.SeekPlace", spec := "seekPlace", unfollowed := true, recurses := true, apart := false, narrowed := true }
def SeekPlaceUptoSaid : Prop := seekPlaceUptoRow.holds Try.pinned (OpenSpec.upto seekPlaceSpec)

/-- 'swashlaw05.SeekTakes', WHERE WHAT IT READS IS OF BULK AT MOST 1048576: true; the input reads as it did. -/
def seekTakesUptoRow : OpenClaim := { program := "ytgddghplhdmfdaa", sum := "f0fff1d944048976b6ccdade6947719ea53fa6e170548ec8a1fbf4e622aed789", func := "swash/swashlaw05.SeekTakes", spec := "seekTakes", unfollowed := true, recurses := true, apart := false, narrowed := true }
def SeekTakesUptoSaid : Prop := seekTakesUptoRow.holds Try.pinned (OpenSpec.upto seekTakesSpec)

/-- 'swashlaw05.SeekFirst', WHERE WHAT IT READS IS OF BULK AT MOST 1048576: true; the input reads as it did. -/
def seekFirstUptoRow : OpenClaim := { program := "ytgddghplhdmfdaa", sum := "f0fff1d944048976b6ccdade6947719ea53fa6e170548ec8a1fbf4e622aed789", func := "swash/swashlaw05.SeekFirst", spec := "seekFirst", unfollowed := true, recurses := true, apart := false, narrowed := true }
def SeekFirstUptoSaid : Prop := seekFirstUptoRow.holds Try.pinned (OpenSpec.upto seekFirstSpec)

end Rows
end Go.Proofs.Ytgddghplhdmfdaa
