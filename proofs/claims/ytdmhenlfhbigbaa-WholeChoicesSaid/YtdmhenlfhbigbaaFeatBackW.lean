/- The walk of the law FeatBack. -/
import Derived.Test.YtdmhenlfhbigbaaFeatSpeak
import Derived.Test.YtdmhenlfhbigbaaOpen
namespace Go.Proofs.Ytdmhenlfhbigbaa
open Go.RowKit Go.ChangeShapes Go.WideShapes Go.ChangeAt
namespace Ft
open Vw Ch

instance : Inhabited WPlan := ⟨⟨0, 0, []⟩⟩

theorem zip_self {α β : Type} (l : List (α × β)) : (l.map Prod.fst).zip (l.map Prod.snd) = l := by
  induction l with
  | nil => rfl
  | cons x l ih => simp [ih]
theorem list3 {c : List Value} (h : c.length = 3) {a b d : Value} (h0 : c[0]? = some a) (h1 : c[1]? = some b) (h2 : c[2]? = some d) : c = [a, b, d] := by
  match c, h with
  | [x, y, z], _ => simp at h0 h1 h2; subst h0 h1 h2; rfl

section
variable {H : Type} {enc : TypeId × Value → H} {w : World} {base : Nat} {held : Bool}

theorem open_sets {fuel : Nat} {v : Value} {x : DataW H × List MemPlace} (h : DataW.trod enc Try.prog w base (fun _ => true) held fuel 29 [v] = some x) :
    ∃ l : List Int, Row.Leads w v l.length (l.flatMap wS) ∧ ∀ s ∈ l, 0 ≤ s ∧ s ≤ 65535 := by
  rcases Go.Deep.open_slice Try.underlying29 h with ⟨h0, _⟩ | ⟨a, len, cap, m, n, D, Pl, h0, _, hl, hm, hmm, _, hx⟩
  · cases h0
    exact ⟨[], .inl ⟨rfl, rfl, rfl⟩, fun r hr => by cases hr⟩
  · cases h0
    have hc1 : Try.prog.cellsOf 28 = 1 := by kernel_rfl
    rw [hc1] at hx
    obtain ⟨l, h1, h2, h3⟩ := Bas.open_elems (f := wS) (good := fun s => 0 ≤ s ∧ s ≤ 65535) (by omega) wS_len (w := w) (base := base) (a := a) (len := len) (cap := cap) (fun i hi => by
      obtain ⟨cs, e1, e2⟩ := hx i (by rw [hmm]; simp; omega)
      refine ⟨cs, e1, ?_⟩
      obtain ⟨s, e3, _, hw⟩ := DataW.trod_int Try.underlying28 e2
      exact ⟨s, e3, Bas.wf_u16 hw⟩)
    subst h1
    exact ⟨l, h2, h3⟩

theorem open_plans {fuel : Nat} {v : Value} {x : DataW H × List MemPlace} (h : DataW.trod enc Try.prog w base (fun _ => true) held fuel 22 [v] = some x) :
    ∃ l : List WPlan, WPlans w v l ∧ ∀ c ∈ l, rgPlan c := by
  rcases Go.Deep.open_slice Try.underlying22 h with ⟨h0, _⟩ | ⟨a, len, cap, m, n, D, Pl, h0, _, hl, hm, hmm, _, hx⟩
  · cases h0
    exact ⟨[], ⟨[], rfl, .inl ⟨rfl, rfl, rfl⟩, fun j s d hs => by simp at hs⟩, fun r hr => by cases hr⟩
  · cases h0
    have hc3 : Try.prog.cellsOf 31 = 3 := by kernel_rfl
    rw [hc3] at hx
    obtain ⟨l, h1, h2, h3⟩ := Bas.open_elems (f := wPC) (good := fun x => Row.Leads w x.2 x.1.sets.length (x.1.sets.flatMap wS) ∧ rgPlan x.1) (by omega) wPC_len (w := w) (base := base) (a := a) (len := len) (cap := cap) (fun i hi => by
      obtain ⟨cs, e1, e2⟩ := hx i (by rw [hmm]; simp; omega)
      refine ⟨cs, e1, ?_⟩
      obtain ⟨_, hlen, _⟩ := World.cells?_some e1
      obtain ⟨n0, f0, w0⟩ := Bas.open_field_int (kd := .u16) 0 _ Try.underlying31 e2 rfl (by kernel_rfl) (by rw [hc3]; decide) (by kernel_rfl)
      obtain ⟨n1, f1, w1⟩ := Bas.open_field_int (kd := .u16) 1 _ Try.underlying31 e2 rfl (by kernel_rfl) (by rw [hc3]; decide) (by kernel_rfl)
      obtain ⟨_, v2, y2, m2, f2, t2⟩ := Bas.open_field 2 _ Try.underlying31 e2 rfl (by kernel_rfl) (by rw [hc3]; decide)
      obtain ⟨ls, hs1, hs2⟩ := open_sets t2
      exact ⟨(⟨n0, n1, ls⟩, v2), list3 hlen f0 f1 f2, hs1, Bas.wf_u16 w0, Bas.wf_u16 w1, hs2⟩)
    subst h1
    refine ⟨l.map Prod.fst, ⟨l.map Prod.snd, by simp, by rw [zip_self, List.length_map]; exact h2, fun j s d hs hd => ?_⟩, fun s hs => ?_⟩
    · rw [List.getElem?_map] at hs hd
      cases hj : l[j]? with
      | none => rw [hj] at hs; cases hs
      | some y =>
        rw [hj] at hs hd
        cases hs; cases hd
        exact (h3 y (List.mem_of_getElem? hj)).1
    · obtain ⟨y, hy, rfl⟩ := List.mem_map.1 hs
      exact (h3 y hy).2
end

/-- The types of the first ones rise. -/
def lastP (l : List WPlan) : Option Int := l.getLast?.map WPlan.type
theorem rises_snoc (p : WPlan) : ∀ (l : List WPlan) (prev : Option Int), risesL prev (l ++ [p]) = (risesL prev l && risesB (match lastP l with | none => prev | some t => some t) p.type)
  | [], prev => by simp [risesL, lastP]
  | q :: l, prev => by
    rw [List.cons_append, risesL, rises_snoc p l, risesL, Bool.and_assoc]
    congr 2
    cases l with
    | nil => simp [lastP]
    | cons r l =>
      have : lastP (q :: r :: l) = lastP (r :: l) := by simp [lastP, List.getLast?_cons_cons]
      rw [this]
      have h2 : ∃ t, lastP (r :: l) = some t := by
        unfold lastP
        rw [List.getLast?_eq_some_getLast (by simp)]
        exact ⟨_, rfl⟩
      obtain ⟨t, ht⟩ := h2
      rw [ht]
theorem rises_take (l : List WPlan) (k : Nat) (p : WPlan) (h : l[k]? = some p) : risesL none (l.take (k + 1)) = (risesL none (l.take k) && risesB (if k = 0 then none else (l[k - 1]?).map WPlan.type) p.type) := by
  rw [List.take_add_one, h]
  have := rises_snoc p (l.take k) none
  rw [show (some p).toList = [p] from rfl, this]
  congr 2
  have hk : k < l.length := (List.getElem?_eq_some_iff.1 h).1
  by_cases h0 : k = 0
  · subst h0; simp [lastP]
  · rw [if_neg h0]
    unfold lastP
    rw [List.getLast?_eq_getElem?, List.length_take, Nat.min_eq_left (by omega), List.getElem?_take_of_lt (by omega), List.getElem?_eq_getElem (show k - 1 < l.length by omega)]
    rfl

end Ft
end Go.Proofs.Ytdmhenlfhbigbaa
