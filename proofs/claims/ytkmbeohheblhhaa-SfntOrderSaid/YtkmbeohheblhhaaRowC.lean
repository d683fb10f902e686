/- Rows that came in, or anywhere: read by their elements. -/
import Derived.Test.YtkmbeohheblhhaaRowB
import Derived.Test.YtkmbeohheblhhaaOwn
namespace Go.Proofs.Ytkmbeohheblhhaa
open Go.RowKit
namespace Row

theorem leads_slice {w : World} {v : Value} {n : Nat} {xs : List Value} (h : Leads w v n xs) : ∃ ad cap, v = .slice ad n cap := by
  rcases h with ⟨rfl, rfl, _⟩ | ⟨ad, cap, rfl, _⟩
  · exact ⟨_, _, rfl⟩
  · exact ⟨_, _, rfl⟩

theorem leads_below {w w' : World} {v : Value} {n : Nat} {xs : List Value} (h : Leads w v n xs) (hb : Below w.heap.size w w') : Leads w' v n xs := by
  rcases h with h | ⟨ad, cap, rfl, hc⟩
  · exact .inl h
  · exact .inr ⟨ad, cap, rfl, fun j u hu => (hb.cell (World.block_lt_of_cell? _ _ (hc j u hu))).trans (hc j u hu)⟩

/-- The cells of the i-th element. -/
theorem leads_elem {α : Type} {f : α → List Value} {m : Nat} (hf : ∀ x, (f x).length = m) {w : World} {v : Value} {n : Nat} {l : List α} (h : Leads w v n (l.flatMap f)) {i : Nat} {x : α} (hx : l[i]? = some x) (hm : 0 < m) :
    ∃ b o cp, v = .slice (some ⟨b, o, none⟩) n cp ∧ ∀ j u, (f x)[j]? = some u → w.cell? ⟨b, o + i * m + j, none⟩ = some u := by
  have hne : ∃ u, (l.flatMap f)[0]? = some u := by
    cases l with
    | nil => simp at hx
    | cons y l =>
      have hy := hf y
      cases hfy : f y with
      | nil => rw [hfy] at hy; simp at hy; omega
      | cons u r => exact ⟨u, by simp [hfy]⟩
  rcases h with ⟨_, _, h0⟩ | ⟨ad, cap, rfl, hc⟩
  · obtain ⟨u, hu⟩ := hne
    rw [h0] at hu; simp at hu
  · obtain ⟨u0, hu0⟩ := hne
    have h0 := hc 0 u0 hu0
    obtain ⟨b, o, s⟩ := ad
    have hs : s = none := by have := World.cell?_spot h0; simpa [Addr.add] using this
    subst hs
    refine ⟨b, o, cap, rfl, fun j u hu => ?_⟩
    have := hc (i * m + j) u (flat_get hf l i j x u hx hu)
    rw [Addr.add_lit] at this
    rw [Nat.add_assoc]
    exact this

theorem take_flat {α β : Type} (f : α → List β) (l : List α) (k : Nat) (x : α) (h : l[k]? = some x) : (l.take (k + 1)).flatMap f = (l.take k).flatMap f ++ f x := by
  rw [List.take_add_one, h, List.flatMap_append]
  simp

theorem flat_len_le {α β : Type} (f : α → List β) (M : Nat) : ∀ (l : List α), (∀ x ∈ l, (f x).length ≤ M) → (l.flatMap f).length ≤ M * l.length
  | [], _ => by simp
  | y :: l, h => by
    have h1 := h y (by simp)
    have h2 := flat_len_le f M l (fun x hx => h x (by simp [hx]))
    simp only [List.flatMap_cons, List.length_append, List.length_cons, Nat.mul_add]
    omega

theorem take_len_le {α β : Type} (f : α → List β) (M : Nat) (l : List α) (k : Nat) (h : ∀ x ∈ l, (f x).length ≤ M) (hk : k ≤ l.length) : ((l.take k).flatMap f).length ≤ M * k := by
  have := flat_len_le f M (l.take k) (fun x hx => h x (List.mem_of_mem_take hx))
  rwa [List.length_take, Nat.min_eq_left hk] at this
end Row
end Go.Proofs.Ytkmbeohheblhhaa
