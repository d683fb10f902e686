/- What WholeChoices asks, in plain words: settings that change places. -/
import Derived.Test.YtdmhenlfhbigbaaPickApp
import Derived.Test.YtdmhenlfhbigbaaFeatBackL
namespace Go.Proofs.Ytdmhenlfhbigbaa
open Go.RowKit
namespace Pk
open Ch Ft Go.Maps

/-- Two neighbours change places. -/
def swp (m : List (Int × Int)) (i : Nat) : List (Int × Int) := (m.set i (m.getD (i + 1) (0, 0))).set (i + 1) (m.getD i (0, 0))
theorem swp_len (m : List (Int × Int)) (i : Nat) : (swp m i).length = m.length := by simp [swp]
theorem swp_parts {m : List (Int × Int)} {i : Nat} {a b : Int × Int} (ha : m[i]? = some a) (hb : m[i + 1]? = some b) : m = m.take i ++ a :: b :: m.drop (i + 2) ∧ swp m i = m.take i ++ b :: a :: m.drop (i + 2) := by
  obtain ⟨h1, h2⟩ := List.getElem?_eq_some_iff.1 ha
  obtain ⟨h3, h4⟩ := List.getElem?_eq_some_iff.1 hb
  have e : m = m.take i ++ a :: b :: m.drop (i + 2) := by
    have e1 : m.drop i = a :: m.drop (i + 1) := by rw [← h2]; exact List.drop_eq_getElem_cons h1
    have e2 : m.drop (i + 1) = b :: m.drop (i + 2) := by rw [← h4]; exact List.drop_eq_getElem_cons h3
    rw [← e2, ← e1, List.take_append_drop]
  refine ⟨e, ?_⟩
  have ga : m.getD i (0, 0) = a := by rw [List.getD_eq_getElem?_getD, ha]; rfl
  have gb : m.getD (i + 1) (0, 0) = b := by rw [List.getD_eq_getElem?_getD, hb]; rfl
  have hl : (m.take i).length = i := by rw [List.length_take]; omega
  unfold swp
  rw [ga, gb]
  generalize m.drop (i + 2) = r at *
  generalize m.take i = p at *
  subst hl
  rw [e]
  simp [List.set_append]
theorem lastK_swp {fs : List FeatD} (hd : (fs.map FeatD.type).Nodup) {m : List (Int × Int)} {i : Nat} {a b : Int × Int} (ha : m[i]? = some a) (hb : m[i + 1]? = some b) (ho : overB fs a b = false) (c : Int × Int) : lastK fs (swp m i) c = lastK fs m c := by
  obtain ⟨h1, h2⟩ := swp_parts ha hb
  rw [h2]
  conv => rhs; rw [h1]
  unfold lastK
  rw [List.foldl_append, List.foldl_append, List.foldl_cons, List.foldl_cons, List.foldl_cons, List.foldl_cons]
  congr 1
  by_cases ra : rightB a = true
  · by_cases rb : rightB b = true
    · rw [over_ck hd ra rb, decide_eq_false_iff_not] at ho
      by_cases ka : ck fs a = c
      · have kb : ck fs b ≠ c := fun h => ho (ka.trans h.symm)
        simp [ra, rb, ka, kb]
      · simp [ra, rb, ka]
    · simp [ra, rb]
  · simp [ra]
theorem swp_mem {m : List (Int × Int)} {i : Nat} {a b : Int × Int} (ha : m[i]? = some a) (hb : m[i + 1]? = some b) {p : Int × Int → Prop} (h : ∀ s ∈ m, p s) : ∀ s ∈ swp m i, p s := by
  obtain ⟨h1, h2⟩ := swp_parts ha hb
  intro s hs
  apply h
  rw [h2] at hs
  rw [h1]
  simp only [List.mem_append, List.mem_cons] at hs ⊢
  rcases hs with h | h | h | h
  · exact .inl h
  · exact .inr (.inr (.inl h))
  · exact .inr (.inl h)
  · exact .inr (.inr (.inr h))
theorem isSet_last {fs : List FeatD} {l m ys : List (Int × Int)} (h : ∀ c, lastK fs m c = lastK fs l c) (hy : IsSet fs m ys) : IsSet fs l ys := ⟨hy.1, fun s => by rw [hy.2, h]⟩

/-- Rising types are each another one. -/
theorem rises_lt : ∀ (l : List WPlan) (t : Int), risesL (some t) l = true → ∀ p ∈ l, t < p.type
  | [], _, _, _, hp => by cases hp
  | q :: l, t, h, p, hp => by
    simp only [risesL, risesB, Bool.and_eq_true, decide_eq_true_eq] at h
    rcases List.mem_cons.1 hp with rfl | hp
    · exact h.1
    · exact Int.lt_trans h.1 (rises_lt l _ h.2 p hp)
theorem rises_nodup : ∀ (l : List WPlan) (o : Option Int), risesL o l = true → ((l.map toF).map FeatD.type).Nodup
  | [], _, _ => List.nodup_nil
  | q :: l, o, h => by
    simp only [risesL, Bool.and_eq_true] at h
    rw [List.map_cons, List.map_cons, List.nodup_cons]
    refine ⟨fun hm => ?_, rises_nodup l _ h.2⟩
    obtain ⟨f, hf, he⟩ := List.mem_map.1 hm
    obtain ⟨p, hp, rfl⟩ := List.mem_map.1 hf
    have := rises_lt l _ h.2 p hp
    have e : p.type = q.type := he
    omega

theorem speak_set2 : IsSet [] [(1, 2)] [(1, 2)] := by
  refine ⟨List.pairwise_singleton _ _, fun s => ?_⟩
  have hl : lastK [] [(1, 2)] (ck [] s) = if ck [] s = (1, 1) then some (1, 2) else none := by
    simp [lastK, ck, exclL, rightB]
    by_cases h : s.1 = 1 ∧ s.2 / 2 = 1
    · simp [h.1, h.2]
    · have h2 : ¬ (1 = s.1 ∧ 1 = s.2 / 2) := fun h' => h ⟨h'.1.symm, h'.2.symm⟩
      simp only [if_neg h, if_neg h2]
  rw [hl, List.mem_singleton]
  constructor
  · rintro rfl; exact ⟨by decide, by decide⟩
  · rintro ⟨_, h⟩
    split at h
    · cases h; rfl
    · cases h

theorem take_set {α : Type} (l : List α) (n k : Nat) (v : α) (h : k < n) : (l.set k v).take n = (l.take n).set k v := by
  rw [List.take_set]
theorem flat_set : ∀ (m : List (Int × Int)) (i : Nat) (s : Int × Int), i < m.length → ((m.flatMap setC).set (i * 2) (.int .i64 s.1)).set (i * 2 + 1) (.int .i64 s.2) = (m.set i s).flatMap setC
  | [], _, _, h => by simp at h
  | x :: m, 0, s, _ => by simp [setC]
  | x :: m, i + 1, s, h => by
    have ih := flat_set m i s (by simpa using h)
    rw [List.set_cons_succ, List.flatMap_cons, List.flatMap_cons, ← ih]
    rw [show (i + 1) * 2 = i * 2 + 2 by omega, show i * 2 + 2 + 1 = i * 2 + 1 + 2 by omega]
    simp [setC]
/-- A setting is put into a row's place. -/
theorem own_set {w : World} {base g n cp : Nat} {m : List (Int × Int)} (h : w.ownsRow base 27 2 (.slice (some ⟨g, 0, none⟩) n cp) n (m.flatMap setC)) (hm : m.length = n) {i : Nat} (hi : i < n) (s : Int × Int) :
    ((w.setCell ⟨g, i * 2, none⟩ (.int .i64 s.1)).setCell ⟨g, i * 2 + 1, none⟩ (.int .i64 s.2)).ownsRow base 27 2 (.slice (some ⟨g, 0, none⟩) n cp) n ((m.set i s).flatMap setC) := by
  obtain ⟨h1, ⟨h2, _⟩ | ⟨g', cap, cur, hv, hb, hh, hc, hx, hs, ht⟩⟩ := h
  · cases h2
  · cases hv
    have q1 := heap_set (i := i * 2) hh (.int .i64 s.1)
    have q2 := heap_set (i := i * 2 + 1) q1 (.int .i64 s.2)
    refine ⟨by rw [setC_flat, List.length_set, hm], .inr ⟨g, cp, _, rfl, hb, q2, hc, hx, by simpa using hs, ?_⟩⟩
    rw [← flat_set m i s (by omega), ← ht]
    simp [List.take_set]
end Pk
end Go.Proofs.Ytdmhenlfhbigbaa
