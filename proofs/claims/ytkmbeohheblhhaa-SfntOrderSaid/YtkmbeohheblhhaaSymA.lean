/- slices.SortStableFunc at parts: rows, their exchange. -/
import Derived.Test.YtkmbeohheblhhaaSym
import Derived.Test.YtkmbeohheblhhaaFontFind
import Derived.Test.YtkmbeohheblhhaaRegX
import Derived.Shelf.SlSortCmp.InsertionK
namespace Go.Proofs.Ytkmbeohheblhhaa
open Go.RowKit
namespace Sy
open Fo

abbrev Sl := Option Addr × Nat × Nat
abbrev Pt := ByteArray × Sl
abbrev slV (s : Sl) : Value := .slice s.1 s.2.1 s.2.2
def ptC (p : Pt) : List Value := [.string p.1, slV p.2]
theorem ptC_len (p : Pt) : (ptC p).length = 2 := rfl
def ltP (p q : Pt) : Bool := ltS p.1 q.1
theorem bl_asymm : ∀ x y : List UInt8, Op.bytesLess x y = true → Op.bytesLess y x = false := fun x y h => by
  cases h2 : Op.bytesLess y x with
  | false => rfl
  | true => have := bl_trans x y x h h2; rw [bl_irrefl] at this; cases this
theorem bl_neg : ∀ x y z : List UInt8, Op.bytesLess y x = false → Op.bytesLess z y = false → Op.bytesLess z x = false
  | [], _, z, _, _ => by cases z <;> rfl
  | a :: x, [], z, h, _ => by simp [Op.bytesLess] at h
  | a :: x, b :: y, [], _, h => by simp [Op.bytesLess] at h
  | a :: x, b :: y, c :: z, h1, h2 => by
    simp only [Op.bytesLess, Bool.or_eq_false_iff, Bool.and_eq_false_iff, decide_eq_false_iff_not, UInt8.lt_iff_toNat_lt, beq_eq_false_iff_ne] at h1 h2 ⊢
    refine ⟨by omega, ?_⟩
    by_cases e1 : b = a
    · subst e1
      rcases h1.2 with h | h
      · exact absurd rfl h
      · by_cases e2 : c = b
        · subst e2
          rcases h2.2 with h' | h'
          · exact absurd rfl h'
          · exact .inr (bl_neg x y z h h')
        · exact .inl e2
    · left
      intro e
      subst e
      have : b.toNat ≠ c.toNat := fun e => e1 (UInt8.toNat_inj.1 e)
      omega
theorem ordP : Ord ltP := ⟨fun _ _ h => bl_asymm _ _ h, fun _ _ _ h1 h2 => bl_neg _ _ _ h1 h2⟩

/-- A row's elements by number. -/
def Is (n : Nat) (xs : List Pt) (D : Nat → Pt) : Prop := xs.length = n ∧ ∀ i, i < n → xs[i]? = some (D i)
theorem Is.swp {n : Nat} {xs : List Pt} {D : Nat → Pt} (h : Is n xs D) {i j : Nat} (hj : j < n) (hi : i < n) : Is n ((xs.set i (D j)).set j (D i)) (sw D i j) := by
  refine ⟨by simp [h.1], fun k hk => ?_⟩
  unfold sw
  by_cases h1 : k = i
  · subst h1
    rw [if_pos rfl]
    by_cases h2 : j = k
    · subst h2; rw [List.getElem?_set_self (by simp; have := h.1; omega)]
    · rw [List.getElem?_set_ne h2, List.getElem?_set_self (by have := h.1; omega)]
  · rw [if_neg h1]
    by_cases h2 : k = j
    · subst h2; rw [if_pos rfl, List.getElem?_set_self (by simp; have := h.1; omega)]
    · rw [if_neg h2, List.getElem?_set_ne (Ne.symm h2), List.getElem?_set_ne (Ne.symm h1)]
      exact h.2 k hk
theorem ptC_set1 : ∀ (l : List Pt) (k : Nat) (a : ByteArray) (x : Pt), l[k]? = some x → (l.flatMap ptC).set (k * 2) (.string a) = (l.set k (a, x.2)).flatMap ptC
  | [], _, _, _, h => by simp at h
  | y :: l, 0, a, x, h => by
    have : y = x := by simpa using h
    subst this
    simp [ptC]
  | y :: l, k + 1, a, x, h => by
    have ih := ptC_set1 l k a x (by simpa using h)
    rw [List.set_cons_succ, List.flatMap_cons, List.flatMap_cons, ← ih, show (k + 1) * 2 = k * 2 + 2 by omega]
    rfl
theorem ptC_set2 : ∀ (l : List Pt) (k : Nat) (b : Sl) (x : Pt), l[k]? = some x → (l.flatMap ptC).set (k * 2 + 1) (slV b) = (l.set k (x.1, b)).flatMap ptC
  | [], _, _, _, h => by simp at h
  | y :: l, 0, a, x, h => by
    have : y = x := by simpa using h
    subst this
    simp [ptC]
  | y :: l, k + 1, a, x, h => by
    have ih := ptC_set2 l k a x (by simpa using h)
    rw [List.set_cons_succ, List.flatMap_cons, List.flatMap_cons, ← ih, show (k + 1) * 2 + 1 = k * 2 + 1 + 2 by omega]
    rfl
theorem own_putS {w : World} {base size g n cp : Nat} {e : TypeId} {xs : List Value} (h : w.ownsRow base e size (.slice (some ⟨g, 0, none⟩) n cp) n xs) (i : Nat) (v : Value) : (w.setCell ⟨g, i, none⟩ v).ownsRow base e size (.slice (some ⟨g, 0, none⟩) n cp) n (xs.set i v) := by
  obtain ⟨h1, ⟨h2, _⟩ | ⟨g', cap, cur, hv, hb, hh, hc, hx, hs, ht⟩⟩ := h
  · cases h2
  · cases hv
    have q1 := heap_set (i := i) hh v
    refine ⟨by simpa using h1, .inr ⟨g, cp, _, rfl, hb, q1, hc, hx, by simpa using hs, ?_⟩⟩
    rw [← ht]
    simp [List.take_set]
theorem own_put2 {w : World} {base g n cp k : Nat} {xs : List Pt} (h : w.ownsRow base 37 2 (.slice (some ⟨g, 0, none⟩) n cp) n (xs.flatMap ptC)) (hk : k < xs.length) (p : Pt) :
    ((w.setCell ⟨g, k * 2, none⟩ (.string p.1)).setCell ⟨g, k * 2 + 1, none⟩ (slV p.2)).ownsRow base 37 2 (.slice (some ⟨g, 0, none⟩) n cp) n ((xs.set k p).flatMap ptC) := by
  obtain ⟨x, hx⟩ : ∃ x, xs[k]? = some x := ⟨_, List.getElem?_eq_getElem hk⟩
  have h1 := own_putS h (k * 2) (.string p.1)
  rw [ptC_set1 xs k p.1 x hx] at h1
  have h2 := own_putS h1 (k * 2 + 1) (slV p.2)
  rw [ptC_set2 (xs.set k (p.1, x.2)) k p.2 (p.1, x.2) (by rw [List.getElem?_set_self hk])] at h2
  simpa using h2

/-- The row of a slice. -/
def At (w : World) (base n : Nat) (sv : Value) (D : Nat → Pt) : Prop := ∃ xs : List Pt, Is n xs D ∧ w.ownsRow base 37 2 sv n (xs.flatMap ptC)
theorem At.cells {w : World} {base n : Nat} {sv : Value} {D : Nat → Pt} (h : At w base n sv D) {k : Nat} (hk : k < n) :
    ∃ bo cp, sv = .slice (some ⟨bo, 0, none⟩) n cp ∧ bo < w.heap.size ∧ base ≤ bo ∧ w.cell? ⟨bo, k * 2, none⟩ = some (.string (D k).1) ∧ w.cell? ⟨bo, k * 2 + 1, none⟩ = some (slV (D k).2) ∧ ∀ i, w.frozen? ⟨bo, i, none⟩ = false := by
  obtain ⟨xs, hx, ho⟩ := h
  have hL := Row.leads_elem ptC_len (Row.leads_owned ho) (hx.2 k hk) (by omega)
  obtain ⟨hlen, ⟨h2, h3⟩ | ⟨bo, cap, cur, hv, hb, hh, hc, hm, hs, ht⟩⟩ := ho
  · omega
  · obtain ⟨b2, o2, c2, hv2, hcell⟩ := hL
    rw [hv] at hv2
    cases hv2
    exact ⟨bo, cap, hv, heap_lt hh, hb, by simpa using hcell 0 _ rfl, by simpa using hcell 1 _ rfl, fun i => free_of_heap hh⟩
theorem At.below {w w' : World} {base n : Nat} {sv : Value} {D : Nat → Pt} (h : At w base n sv D) (hb : Below w.heap.size w w') : At w' base n sv D := by
  obtain ⟨xs, hx, ho⟩ := h
  exact ⟨xs, hx, Row.owned_below ho hb⟩
theorem At.swap {w : World} {base n g cp : Nat} {D : Nat → Pt} (h : At w base n (.slice (some ⟨g, 0, none⟩) n cp) D) {i j : Nat} (hi : i < n) (hj : j < n) :
    At ((((w.setCell ⟨g, i * 2, none⟩ (.string (D j).1)).setCell ⟨g, i * 2 + 1, none⟩ (slV (D j).2)).setCell ⟨g, j * 2, none⟩ (.string (D i).1)).setCell ⟨g, j * 2 + 1, none⟩ (slV (D i).2)) base n (.slice (some ⟨g, 0, none⟩) n cp) (sw D i j) := by
  obtain ⟨xs, hx, ho⟩ := h
  exact ⟨_, hx.swp hj hi, own_put2 (own_put2 ho (by rw [hx.1]; exact hi) (D j)) (by rw [List.length_set, hx.1]; exact hj) (D i)⟩
end Sy
end Go.Proofs.Ytkmbeohheblhhaa
