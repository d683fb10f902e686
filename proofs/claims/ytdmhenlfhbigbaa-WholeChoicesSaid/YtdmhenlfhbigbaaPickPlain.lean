/- Layer 9: the plain laws of what is on. -/
import Derived.Test.YtdmhenlfhbigbaaPickRon
namespace Go.Proofs.Ytdmhenlfhbigbaa
open Go.RowKit
namespace Pk
open Ch Ft Go.Maps

theorem rexcl_eq {fs : List FeatD} (h : (fs.map FeatD.type).Nodup) (k : Int) : rexclL fs k = exclL fs k := by
  unfold rexclL exclL
  induction fs with
  | nil => rfl
  | cons f fs ih =>
    rw [List.map_cons, List.nodup_cons] at h
    rw [List.find?_cons, List.any_cons]
    by_cases he : f.type = k
    · have hn : fs.any (exclF k) = false := by
        rw [List.any_eq_false]
        intro g hg
        have : g.type ≠ k := fun e => h.1 (by rw [he, ← e]; exact List.mem_map_of_mem hg)
        simp [exclF, this]
      rw [hn]
      simp [exclF, he]
    · have : exclF k f = false := by simp [exclF, he]
      rw [this, decide_eq_false he]
      simpa using ih h.2
theorem over_ck {fs : List FeatD} (h : (fs.map FeatD.type).Nodup) {a b : Int × Int} (ha : rightB a = true) (hb : rightB b = true) : overB fs a b = decide (ck fs a = ck fs b) := by
  have ha := of_decide_eq_true ha
  have hb := of_decide_eq_true hb
  unfold overB
  rw [rexcl_eq h, Int.tdiv_eq_ediv_of_nonneg (by omega), Int.tdiv_eq_ediv_of_nonneg (by omega)]
  by_cases e : a.1 = b.1
  · unfold ck
    rw [← e]
    cases hx : exclL fs a.1 with
    | true => simp
    | false => simp
  · rw [decide_eq_false e]
    have : ck fs a ≠ ck fs b := fun hc => e (by
      have := congrArg Prod.fst hc
      unfold ck at this
      split at this <;> split at this <;> exact this)
    rw [decide_eq_false this]; rfl
theorem refOn_right {fs : List FeatD} (h : (fs.map FeatD.type).Nodup) {s : Int × Int} (hs : rightB s = true) : ∀ l, refOn fs l s = decide (lastK fs l (ck fs s) = some s) := by
  refine rev_ind (by simp [refOn, lastK]) fun l x ih => ?_
  rw [refOn_snoc, lastK_snoc]
  cases hx : rightB x with
  | false => simpa using ih
  | true =>
    rw [over_ck h hx hs]
    simp only [Bool.true_and]
    by_cases e : ck fs x = ck fs s
    · rw [decide_eq_true e]; simp
    · rw [decide_eq_false e]; simpa using ih
theorem refOn_wrong {fs : List FeatD} {s : Int × Int} (hs : rightB s = false) : ∀ l, refOn fs l s = false := by
  refine rev_ind rfl fun l x ih => ?_
  rw [refOn_snoc, ih]
  split
  · rename_i hx
    rw [Bool.and_eq_true] at hx
    have : x ≠ s := fun e => by rw [e, hs] at hx; cases hx.1
    exact decide_eq_false this
  · rfl
theorem refOn_mem {fs : List FeatD} (h : (fs.map FeatD.type).Nodup) {l ys : List (Int × Int)} (hy : IsSet fs l ys) (s : Int × Int) : decide (s ∈ ys) = refOn fs l s := by
  cases hs : rightB s with
  | true =>
    rw [refOn_right h hs, Bool.eq_iff_iff, decide_eq_true_iff, decide_eq_true_iff, hy.2, hs]
    simp
  | false =>
    rw [refOn_wrong hs, decide_eq_false_iff_not, hy.2, hs]
    simp

theorem rise_uniq : ∀ {xs ys : List (Int × Int)}, xs.Pairwise (fun x y => ltP x y = true) → ys.Pairwise (fun x y => ltP x y = true) → (∀ s, s ∈ xs ↔ s ∈ ys) → xs = ys
  | [], [], _, _, _ => rfl
  | [], y :: ys, _, _, h => by have := (h y).2 (List.mem_cons_self ..); cases this
  | x :: xs, [], _, _, h => by have := (h x).1 (List.mem_cons_self ..); cases this
  | x :: xs, y :: ys, h1, h2, h => by
    rw [List.pairwise_cons] at h1 h2
    have irr : ∀ a b, ltP a b = true → ltP b a = true → False := fun a b h1 h2 => by simp [ltP] at h1 h2; omega
    have e : x = y := by
      rcases List.mem_cons.1 ((h x).1 (List.mem_cons_self ..)) with e | hx
      · exact e
      · rcases List.mem_cons.1 ((h y).2 (List.mem_cons_self ..)) with e | hy
        · exact e.symm
        · exact (irr x y (h1.1 y hy) (h2.1 x hx)).elim
    subst e
    have irr2 : ∀ a, ltP a a = true → False := fun a h => irr a a h h
    rw [rise_uniq h1.2 h2.2 (fun s => ?_)]
    constructor
    · intro hs
      rcases List.mem_cons.1 ((h s).1 (List.mem_cons_of_mem _ hs)) with e | h3
      · subst e; exact (irr2 _ (h1.1 _ hs)).elim
      · exact h3
    · intro hs
      rcases List.mem_cons.1 ((h s).2 (List.mem_cons_of_mem _ hs)) with e | h3
      · subst e; exact (irr2 _ (h2.1 _ hs)).elim
      · exact h3
theorem isSet_uniq {fs : List FeatD} {l xs ys : List (Int × Int)} (h1 : IsSet fs l xs) (h2 : IsSet fs l ys) : xs = ys :=
  rise_uniq h1.1 h2.1 fun s => (h1.2 s).trans (h2.2 s).symm

theorem lastK_append (fs : List FeatD) (a : List (Int × Int)) (c : Int × Int) : ∀ b, lastK fs (a ++ b) c = match lastK fs b c with | some s => some s | none => lastK fs a c := by
  refine rev_ind (by rw [List.append_nil]; rfl) fun b x ih => ?_
  rw [← List.append_assoc, lastK_snoc, lastK_snoc, ih]
  split <;> rfl
theorem lastK_is {fs : List FeatD} {c s : Int × Int} : ∀ l, s ∈ l → rightB s = true → ck fs s = c → (lastK fs l c).isSome = true := by
  refine rev_ind (fun h => by cases h) fun l x ih hs h1 h2 => ?_
  rw [lastK_snoc]
  split
  · rfl
  · rename_i hx
    rcases List.mem_append.1 hs with h | h
    · exact ih h h1 h2
    · rw [List.mem_singleton] at h; subst h
      rw [h1, h2] at hx; simp at hx
theorem isSet_ck {fs : List FeatD} {l ys : List (Int × Int)} (h : IsSet fs l ys) {a b : Int × Int} (ha : a ∈ ys) (hb : b ∈ ys) (e : ck fs a = ck fs b) : a = b := by
  have h1 := ((h.2 a).1 ha).2
  have h2 := ((h.2 b).1 hb).2
  rw [e, h2] at h1
  cases h1; rfl
theorem lastK_self {fs : List FeatD} {l ys : List (Int × Int)} (h : IsSet fs l ys) {s : Int × Int} (hs : s ∈ ys) : lastK fs ys (ck fs s) = some s := by
  obtain ⟨s', hs'⟩ := Option.isSome_iff_exists.1 (lastK_is ys hs ((h.2 s).1 hs).1 rfl)
  obtain ⟨h1, _, h3⟩ := lastK_some fs ys hs'
  rw [hs', isSet_ck h h1 hs h3]
theorem isSet_once {fs : List FeatD} {l ys : List (Int × Int)} (h : IsSet fs l ys) : IsSet fs ys ys := by
  refine ⟨h.1, fun s => ⟨fun hs => ⟨((h.2 s).1 hs).1, lastK_self h hs⟩, fun ⟨_, h2⟩ => (lastK_some fs ys h2).1⟩⟩
theorem isSet_again {fs : List FeatD} {l ys : List (Int × Int)} (h : IsSet fs l ys) : IsSet fs (l ++ ys) ys := by
  refine ⟨h.1, fun s => ⟨fun hs => ⟨((h.2 s).1 hs).1, by rw [lastK_append, lastK_self h hs]⟩, fun ⟨h1, h2⟩ => ?_⟩⟩
  rw [lastK_append] at h2
  split at h2
  · rename_i s' hs'
    cases h2
    exact (lastK_some fs ys hs').1
  · exact (h.2 s).2 ⟨h1, h2⟩

theorem one_apart {fs : List FeatD} (hd : (fs.map FeatD.type).Nodup) {l ys : List (Int × Int)} (h : IsSet fs l ys) {i j : Nat} {a b : Int × Int} (hi : ys[i]? = some a) (hj : ys[j]? = some b) (hij : i ≠ j) : overB fs a b = false := by
  rw [over_ck hd ((h.2 a).1 (List.mem_of_getElem? hi)).1 ((h.2 b).1 (List.mem_of_getElem? hj)).1, decide_eq_false_iff_not]
  intro e
  have e2 := isSet_ck h (List.mem_of_getElem? hi) (List.mem_of_getElem? hj) e
  subst e2
  obtain ⟨h1, h2⟩ := List.getElem?_eq_some_iff.1 hi
  obtain ⟨h3, h4⟩ := List.getElem?_eq_some_iff.1 hj
  exact hij ((List.getElem_inj (isSet_nodup h)).1 (h2.trans h4.symm))
theorem one_stands {fs : List FeatD} (hd : (fs.map FeatD.type).Nodup) {l ys : List (Int × Int)} (h : IsSet fs l ys) {s : Int × Int} (hs : s ∈ l) : (!rightB s || ys.any (fun x => overB fs s x)) = true := by
  cases hr : rightB s with
  | false => rfl
  | true =>
    obtain ⟨x, hx⟩ := Option.isSome_iff_exists.1 (lastK_is l hs hr rfl)
    obtain ⟨_, h2, h3⟩ := lastK_some fs l hx
    have hm : x ∈ ys := (h.2 x).2 ⟨h2, by rw [h3]; exact hx⟩
    simp only [Bool.not_true, Bool.false_or, List.any_eq_true]
    exact ⟨x, hm, by rw [over_ck hd hr h2, decide_eq_true_iff]; exact h3.symm⟩
theorem last_is {fs : List FeatD} {l ys : List (Int × Int)} {s : Int × Int} (h : IsSet fs (l ++ [s]) ys) : decide (s ∈ ys) = rightB s := by
  rw [Bool.eq_iff_iff, decide_eq_true_iff, h.2]
  exact ⟨fun h => h.1, fun hr => ⟨hr, by rw [lastK_snoc, hr]; simp⟩⟩
theorem last_keeps {fs : List FeatD} (hd : (fs.map FeatD.type).Nodup) {l xs ys : List (Int × Int)} {s x : Int × Int} (hx : IsSet fs l xs) (h : IsSet fs (l ++ [s]) ys) (hm : x ∈ xs) :
    decide (x ∈ ys) = (!rightB s || decide (x = s) || !overB fs x s) := by
  obtain ⟨h1, h2⟩ := (hx.2 x).1 hm
  rw [Bool.eq_iff_iff, decide_eq_true_iff, h.2, lastK_snoc, h2]
  cases hr : rightB s with
  | false => simp [h1]
  | true =>
    rw [over_ck hd h1 hr]
    by_cases e : ck fs s = ck fs x
    · rw [decide_eq_true e, decide_eq_true e.symm]
      simp [h1, eq_comm]
    · rw [decide_eq_false e, decide_eq_false (p := ck fs x = ck fs s) (fun h => e h.symm)]
      simp [h1]
theorem last_len {fs : List FeatD} {l xs ys : List (Int × Int)} {s : Int × Int} (hx : IsSet fs l xs) (h : IsSet fs (l ++ [s]) ys) : ys.length ≤ xs.length + 1 := by
  have : ∀ x ∈ ys, x ∈ s :: xs := fun x hm => by
    obtain ⟨h1, h2⟩ := (h.2 x).1 hm
    rw [lastK_snoc] at h2
    split at h2
    · cases h2; exact List.mem_cons_self ..
    · exact List.mem_cons_of_mem _ ((hx.2 x).2 ⟨h1, h2⟩)
  exact (isSet_nodup h).length_le_of_subset this
end Pk
end Go.Proofs.Ytdmhenlfhbigbaa
