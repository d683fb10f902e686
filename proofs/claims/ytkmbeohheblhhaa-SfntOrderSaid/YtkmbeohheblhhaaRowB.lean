/- Rows of elements of more than one cell: an element's cells. -/
import Derived.Test.YtkmbeohheblhhaaRow
namespace Go.Proofs.Ytkmbeohheblhhaa
open Go.RowKit
namespace Row

theorem flat_get {α : Type} {f : α → List Value} {m : Nat} (hf : ∀ x, (f x).length = m) : ∀ (l : List α) (i j : Nat) (x : α) (u : Value), l[i]? = some x → (f x)[j]? = some u → (l.flatMap f)[i * m + j]? = some u
  | [], i, j, x, u, h, _ => by simp at h
  | y :: l, 0, j, x, u, h, hu => by
    have hy : y = x := by simpa using h
    subst hy
    have hj : j < (f y).length := (List.getElem?_eq_some_iff.1 hu).1
    rw [List.flatMap_cons, Nat.zero_mul, Nat.zero_add, List.getElem?_append_left hj]
    exact hu
  | y :: l, i + 1, j, x, u, h, hu => by
    have h' : l[i]? = some x := by simpa using h
    have := flat_get hf l i j x u h' hu
    rw [List.flatMap_cons, List.getElem?_append_right (by rw [hf]; rw [Nat.add_mul]; omega), hf, show (i + 1) * m + j - m = i * m + j by rw [Nat.add_mul]; omega]
    exact this

/-- The cells of the i-th element of a row of the call's own. -/
theorem elem_cells {α : Type} {f : α → List Value} {m : Nat} (hf : ∀ x, (f x).length = m) {w : World} {base : Nat} {e : TypeId} {v : Value} {n : Nat} {l : List α} (h : w.ownsRow base e m v n (l.flatMap f)) {i : Nat} {x : α} (hx : l[i]? = some x) (hm : 0 < m) (hln : l.length = n) :
    ∃ G cp, v = .slice (some ⟨G, 0, none⟩) n cp ∧ base ≤ G ∧ G < w.heap.size ∧ (n ≤ cp ∧ cp ≤ 9223372036854775807) ∧ ∀ j u, (f x)[j]? = some u → w.cell? ⟨G, i * m + j, none⟩ = some u := by
  rcases owned_parts h with ⟨_, hn, _⟩ | ⟨G, cp, hv, hb, hG, hc, hm63, hcl, _⟩
  · have := (List.getElem?_eq_some_iff.1 hx).1
    omega
  · exact ⟨G, cp, hv, hb, hG, ⟨hc, by unfold maxLen at hm63; omega⟩, fun j u hu => hcl _ _ (flat_get hf l i j x u hx hu)⟩
end Row
end Go.Proofs.Ytkmbeohheblhhaa
