/- Arguments that are arrays of integers, by value. -/
import Derived.Test.YtakpppgikgimnaaBase
import Derived.ProofKit
import Derived.OpenShut
namespace Go.Proofs.Ytakpppgikgimnaa
open Go.RowKit Go.ChangeShapes Go.WideShapes Go.ChangeAt
namespace Bas

theorem open_arr {H : Type} {enc : TypeId × Value → H} {P : Program} {W : World} {base : Nat} {r : Reach} {b0 : Nat} {sp : Nat → Bool} {held : Bool} {n : Nat} {t e : TypeId} {k : IntKind} {v : Value} {d : DataW H} {p : List MemPlace}
    (ht : P.underlying t = some (.array n e)) (he : P.underlying e = some (.int k)) (hc : P.cellsOf e = 1) (hct : P.cellsOf t = n)
    (hv : Value.okWide P W r b0 t v) (h : DataW.Trod enc P W base sp held t v d p) :
    ∃ xs : List Int, xs.length = n ∧ v = .agg (xs.map (Value.int k)).toArray ∧ ∀ x ∈ xs, (Lit.int k x).wf = true := by
  have hagg : ∃ cs, v = .agg cs := by
    simp only [Value.okWide, ht] at hv
    obtain ⟨cs, h1, _⟩ := hv
    exact ⟨cs, h1⟩
  obtain ⟨cs, rfl⟩ := hagg
  obtain ⟨fuel, hf⟩ := h
  obtain ⟨ys, m, rfl, hx, hlen, hyl, hel⟩ := DataW.trod_array ht hf
  have hcs : cs.toList.length = n := by rw [← hct]; exact hlen
  rw [hc] at hel
  have hel' : ∀ i, (hi : i < cs.toList.length) → ∃ a, cs.toList[i] = .int k a ∧ (Lit.int k a).wf = true := by
    intro i hi
    have h1 := hel i (by omega)
    rw [Nat.mul_one, List.drop_eq_getElem_cons (by exact hi), List.take_succ_cons, List.take_zero] at h1
    have h2 : ys[i]? = some ys[i] := List.getElem?_eq_getElem (by omega)
    rw [h2] at h1
    obtain ⟨a, e0, _, wa⟩ := DataW.trod_int he h1
    simp only [List.cons.injEq, and_true] at e0
    exact ⟨a, e0, wa⟩
  refine ⟨cs.toList.map fun c => match c with | .int _ a => a | _ => 0, by simp [← hcs], ?_, ?_⟩
  · congr 1
    apply Array.ext'
    rw [List.map_map]
    symm
    rw [List.toList_toArray]
    conv => rhs; rw [← List.map_id cs.toList]
    apply List.map_congr_left
    intro c hc'
    obtain ⟨i, hi, rfl⟩ := List.getElem_of_mem hc'
    obtain ⟨a, ha, _⟩ := hel' i hi
    simp [ha]
  · intro x hx
    obtain ⟨c, hc', rfl⟩ := List.mem_map.1 hx
    obtain ⟨i, hi, rfl⟩ := List.getElem_of_mem hc'
    obtain ⟨a, ha, wa⟩ := hel' i hi
    simp [ha, wa]
end Bas
end Go.Proofs.Ytakpppgikgimnaa
