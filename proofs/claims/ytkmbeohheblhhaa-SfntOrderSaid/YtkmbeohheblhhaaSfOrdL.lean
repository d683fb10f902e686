/- The law SfntOrder: rows that are the same but for their order, sorted. -/
import Derived.Test.YtkmbeohheblhhaaSfMk0
namespace Go.Proofs.Ytkmbeohheblhhaa
open Go.RowKit
namespace Sy
open Fo Vw Wr

theorem range_is {n : Nat} {xs : List Pt} {D : Nat → Pt} (h : Is n xs D) : xs = (List.range n).map D := by
  refine List.ext_getElem? fun i => ?_
  by_cases hi : i < n
  · rw [h.2 i hi, List.getElem?_map, List.getElem?_range hi]; rfl
  · rw [List.getElem?_eq_none (by have := h.1; omega), List.getElem?_eq_none (by simp; omega)]
theorem perm_of {n : Nat} {xs ys : List Pt} {D E : Nat → Pt} (hx : Is n xs D) (hy : Is n ys E) (h : Pm 0 n D E) : ys.Perm xs := by
  obtain ⟨s, t, a1, a2, a3, a4⟩ := h
  have hin : ∀ i, i < n → s i < n := fun i hi => by
    rcases Nat.lt_or_ge (s i) n with h | h
    · exact h
    · have := a3 (s i) (.inr h); have := congrArg t this; rw [a2, a2] at this; omega
  have hin2 : ∀ i, i < n → t i < n := fun i hi => by
    rcases Nat.lt_or_ge (t i) n with h | h
    · exact h
    · have := a3 (t i) (.inr h); rw [a1] at this; omega
  have hp : ((List.range n).map s).Perm (List.range n) := by
    refine (List.perm_ext_iff_of_nodup ?_ List.nodup_range).2 fun i => ?_
    · refine List.Pairwise.map s (fun a b hab e => hab ?_) List.nodup_range
      have := congrArg t e
      rwa [a2, a2] at this
    · rw [List.mem_map, List.mem_range]
      constructor
      · rintro ⟨j, hj, rfl⟩
        exact hin j (List.mem_range.1 hj)
      · intro hi
        exact ⟨t i, List.mem_range.2 (hin2 i hi), a1 i⟩
  rw [range_is hx, range_is hy, show E = D ∘ s from funext a4, ← List.map_map]
  exact hp.map D

theorem bl_tri : ∀ x y : List UInt8, Op.bytesLess x y = false → Op.bytesLess y x = false → x = y
  | [], [], _, _ => rfl
  | [], _ :: _, h, _ => by simp [Op.bytesLess] at h
  | _ :: _, [], _, h => by simp [Op.bytesLess] at h
  | a :: x, b :: y, h1, h2 => by
    simp only [Op.bytesLess, Bool.or_eq_false_iff, Bool.and_eq_false_iff, decide_eq_false_iff_not, UInt8.lt_iff_toNat_lt, beq_eq_false_iff_ne] at h1 h2
    have e : a = b := UInt8.toNat_inj.1 (by omega)
    subst e
    rcases h1.2 with h | h
    · exact absurd rfl h
    · rcases h2.2 with h' | h'
      · exact absurd rfl h'
      · rw [bl_tri x y h h']
theorem ltS_tri {s t : ByteArray} (h1 : ltS s t = false) (h2 : ltS t s = false) : s = t := by
  have h := bl_tri _ _ h1 h2
  rw [ByteArray.toList_eq s, ByteArray.toList_eq t] at h
  cases s; cases t
  simp only at h
  rw [Array.ext' h]

/-- What is sorted, and of which none stands beside its like, has no two alike. -/
theorem apart_of {n : Nat} {E : Nat → Pt} (hs : Srt ltP E 0 n) (hk : okE E n) : ∀ i j, i < j → j < n → (E i).1 ≠ (E j).1 := by
  intro i j hij hj he
  have h1 : ltS (E (i + 1)).1 (E i).1 = false := hs i (i + 1) (Nat.zero_le _) (by omega) (by omega)
  have h2 : ltS (E i).1 (E (i + 1)).1 = false := by
    rw [he]
    exact Srt.le ordP hs (i := i + 1) (j := j) (Nat.zero_le _) (by omega) hj
  exact (hk (i + 1) (by omega)).2 (by omega) (by simpa using (ltS_tri h1 h2).symm)

theorem pair_of {n : Nat} {ys : List Pt} {E : Nat → Pt} {R : Pt → Pt → Prop} (hy : Is n ys E) (h : ∀ i j, i < j → j < n → R (E i) (E j)) : ys.Pairwise R := by
  rw [List.pairwise_iff_getElem]
  intro i j hi hj hij
  have h1 := hy.2 i (by have := hy.1; omega)
  have h2 := hy.2 j (by have := hy.1; omega)
  rw [List.getElem?_eq_getElem hi] at h1
  rw [List.getElem?_eq_getElem hj] at h2
  rw [Option.some.inj h1, Option.some.inj h2]
  exact h i j hij (by have := hy.1; omega)

theorem same_ok {n : Nat} {ys zs : List Pt} {E F : Nat → Pt} (hy : Is n ys E) (hz : Is n zs F) (hp : ys.Perm zs) (hs : Srt ltP E 0 n) (ht : Srt ltP F 0 n) (hk : okE E n) : okE F n ∧ ys = zs := by
  have hd : ys.Pairwise (fun p q => p.1 ≠ q.1) := pair_of hy (apart_of hs hk)
  have hd2 : zs.Pairwise (fun p q => p.1 ≠ q.1) := (hp.pairwise_iff (fun h => h.symm)).1 hd
  have he : ys = zs := by
    refine List.Perm.eq_of_pairwise (le := fun p q => ltP q p = false) (fun a b ha hb h1 h2 => ?_) (pair_of hy fun i j hij hj => hs i j (Nat.zero_le _) hij hj) (pair_of hz fun i j hij hj => ht i j (Nat.zero_le _) hij hj) hp
    have ht : a.1 = b.1 := ltS_tri h2 h1
    obtain ⟨i, hi⟩ := List.getElem?_of_mem ha
    obtain ⟨j, hj⟩ := List.getElem?_of_mem (hp.mem_iff.2 hb)
    have hi' : i < n := by have := (List.getElem?_eq_some_iff.1 hi).1; have := hy.1; omega
    have hj' : j < n := by have := (List.getElem?_eq_some_iff.1 hj).1; have := hy.1; omega
    have ei := hy.2 i hi'
    have ej := hy.2 j hj'
    rw [hi] at ei
    rw [hj] at ej
    have ei := Option.some.inj ei
    have ej := Option.some.inj ej
    rw [ei, ej] at ht ⊢
    rcases Nat.lt_trichotomy i j with h | h | h
    · exact absurd ht (apart_of hs hk i j h hj')
    · rw [h]
    · exact absurd ht.symm (apart_of hs hk j i h hi')
  refine ⟨?_, he⟩
  subst he
  have hef : ∀ i, i < n → E i = F i := fun i hi => by
    have h1 := hy.2 i hi
    have h2 := hz.2 i hi
    rw [h1] at h2
    exact Option.some.inj h2
  intro i hi
  have := hk i hi
  rw [← hef i hi, ← hef (i - 1) (by omega)]
  exact this

/-- The row from behind. -/
theorem is_reverse {n : Nat} {xs : List Pt} {D : Nat → Pt} (h : Is n xs D) : Is n xs.reverse (fun i => D (n - 1 - i)) := by
  refine ⟨by rw [List.length_reverse]; exact h.1, fun i hi => ?_⟩
  rw [List.getElem?_reverse (by have := h.1; omega), h.1]
  exact h.2 _ (by omega)

/-- Both ways the same is made. -/
theorem made_same {n : Nat} {xs ys zs : List Pt} {D E F : Nat → Pt} (hx : Is n xs D) (hy : Is n ys E) (hz : Is n zs F) (hp : Pm 0 n D E) (hq : Pm 0 n (fun i => D (n - 1 - i)) F) (hs : Srt ltP E 0 n) (ht : Srt ltP F 0 n) :
    (okE E n ↔ okE F n) ∧ (okE E n → ys = zs) := by
  have h1 := perm_of hx hy hp
  have h2 := perm_of (is_reverse hx) hz hq
  have h3 : ys.Perm zs := h1.trans ((h2.trans (List.reverse_perm xs)).symm)
  exact ⟨⟨fun h => (same_ok hy hz h3 hs ht h).1, fun h => (same_ok hz hy h3.symm ht hs h).1⟩, fun h => (same_ok hy hz h3 hs ht h).2⟩
end Sy
end Go.Proofs.Ytkmbeohheblhhaa
