/- Layer 27: a table of one track's sizes and values, there and back; values between. -/
import Derived.Test.YtfocjagkhoonmaaTrakSpeak
namespace Go.Proofs.Ytfocjagkhoonmaa
open Go.RowKit
namespace Tk
open Vw Wr

theorem cut_at {α : Type} (l : List α) (i : Nat) (x : α) (h : l[i]? = some x) : l = l.take i ++ x :: l.drop (i + 1) := by
  obtain ⟨hi, rfl⟩ := List.getElem?_eq_some_iff.1 h
  rw [← List.drop_eq_getElem_cons hi, List.take_append_drop]
theorem flat_cut {α : Type} (f : α → List Int) (l : List α) (i : Nat) (x : α) (h : l[i]? = some x) : l.flatMap f = (l.take i).flatMap f ++ (f x ++ (l.drop (i + 1)).flatMap f) := by
  have h1 : l.flatMap f = (l.take i ++ x :: l.drop (i + 1)).flatMap f := by rw [← cut_at l i x h]
  rw [h1, List.flatMap_append, List.flatMap_cons]

def twoP (S V : List Int) : WPlanT := ⟨S, [], [⟨5, []⟩, ⟨0, V⟩], []⟩
def hd0 : List Int := putB 65536 4 ++ putB 0 2 ++ putB 12 2 ++ putB 0 2 ++ [0, 0]
def hd1 (m : Nat) : List Int := putB 2 2 ++ putB (m : Int) 2 ++ putB 36 4
def hd2 (m : Nat) : List Int := putB 5 4 ++ putB 7 2 ++ putB ((36 + 4 * m : Nat) : Int) 2
def hd3 (m : Nat) : List Int := putB 0 4 ++ putB 7 2 ++ putB ((36 + 4 * m + 2 * m : Nat) : Int) 2
def two (S V : List Int) : List Int := hd0 ++ (hd1 S.length ++ (hd2 S.length ++ (hd3 S.length ++ (S.flatMap szB ++ (valsTo ⟨5, []⟩ S.length ++ valsTo ⟨0, V⟩ S.length)))))
theorem two_eq (S V : List Int) : writeT (twoP S V) = two S V := by
  simp [two, hd0, hd1, hd2, hd3, writeT, stB, stI, a0, a1, d0, d1, twoP, dataW, headT, rowsT, rowT, insT]
theorem hd0_len : hd0.length = 12 := rfl
theorem hd1_len (m : Nat) : (hd1 m).length = 8 := by simp [hd1, putB_len]
theorem hd2_len (m : Nat) : (hd2 m).length = 8 := by simp [hd2, putB_len]
theorem hd3_len (m : Nat) : (hd3 m).length = 8 := by simp [hd3, putB_len]

theorem p256_2 : (256 : Int) ^ 2 = 65536 := by decide
theorem p256_4 : (256 : Int) ^ 4 = 4294967296 := by decide

section
variable (S V : List Int)
theorem two_many (hm : S.length ≤ 20) : be (two S V) 14 2 = S.length :=
  (by simp only [two, hd1, List.append_assoc] : two S V = (hd0 ++ putB 2 2) ++ (putB (S.length : Int) 2 ++ (putB 36 4 ++ (hd2 S.length ++ (hd3 S.length ++ (S.flatMap szB ++ (valsTo ⟨5, []⟩ S.length ++ valsTo ⟨0, V⟩ S.length))))))) ▸ be_mid _ _ _ 2 14 rfl (by omega) (by rw [p256_2]; omega)
theorem two_from : be (two S V) 16 4 = 36 :=
  (by simp only [two, hd1, List.append_assoc] : two S V = (hd0 ++ putB 2 2 ++ putB (S.length : Int) 2) ++ (putB 36 4 ++ (hd2 S.length ++ (hd3 S.length ++ (S.flatMap szB ++ (valsTo ⟨5, []⟩ S.length ++ valsTo ⟨0, V⟩ S.length)))))) ▸ be_mid _ _ _ 4 16 rfl (by omega) (by rw [p256_4]; omega)
theorem two_k0 : be (two S V) 20 4 = 5 :=
  (by simp only [two, hd2, List.append_assoc] : two S V = (hd0 ++ hd1 S.length) ++ (putB 5 4 ++ (putB 7 2 ++ (putB ((36 + 4 * S.length : Nat) : Int) 2 ++ (hd3 S.length ++ (S.flatMap szB ++ (valsTo ⟨5, []⟩ S.length ++ valsTo ⟨0, V⟩ S.length))))))) ▸ be_mid _ _ _ 4 20 rfl (by omega) (by rw [p256_4]; omega)
theorem two_k1 : be (two S V) 28 4 = 0 :=
  (by simp only [two, hd3, List.append_assoc] : two S V = (hd0 ++ (hd1 S.length ++ hd2 S.length)) ++ (putB 0 4 ++ (putB 7 2 ++ (putB ((36 + 4 * S.length + 2 * S.length : Nat) : Int) 2 ++ (S.flatMap szB ++ (valsTo ⟨5, []⟩ S.length ++ valsTo ⟨0, V⟩ S.length)))))) ▸ be_mid _ _ _ 4 28 rfl (by omega) (by rw [p256_4]; omega)
theorem two_p1 (hm : S.length ≤ 20) : be (two S V) 34 2 = ((36 + 4 * S.length + 2 * S.length : Nat) : Int) :=
  (by simp only [two, hd3, List.append_assoc] : two S V = (hd0 ++ (hd1 S.length ++ (hd2 S.length ++ (putB 0 4 ++ putB 7 2)))) ++ (putB ((36 + 4 * S.length + 2 * S.length : Nat) : Int) 2 ++ (S.flatMap szB ++ (valsTo ⟨5, []⟩ S.length ++ valsTo ⟨0, V⟩ S.length)))) ▸ be_mid _ _ _ 2 34 rfl (by omega) (by rw [p256_2]; omega)

theorem two_size (i : Nat) (s : Int) (hi : S[i]? = some s) : be (two S V) (36 + 4 * i) 4 = s % 4294967296 := by
  have hlt : i < S.length := (List.getElem?_eq_some_iff.1 hi).1
  have e : two S V = (hd0 ++ (hd1 S.length ++ (hd2 S.length ++ (hd3 S.length ++ (S.take i).flatMap szB)))) ++ (putB (s % 4294967296) 4 ++ ((S.drop (i + 1)).flatMap szB ++ (valsTo ⟨5, []⟩ S.length ++ valsTo ⟨0, V⟩ S.length))) := by
    have h := flat_cut szB S i s hi
    simp only [two, List.append_assoc]
    rw [h]
    simp only [szB, List.append_assoc]
  rw [e]
  exact be_mid _ _ _ 4 _ (by simp only [List.length_append, hd0_len, hd1_len, hd2_len, hd3_len, sizeB_len, List.length_take]; omega) (by omega) (by rw [p256_4]; omega)

theorem two_val (i : Nat) (hi : i < S.length) : be (two S V) (36 + 4 * S.length + 2 * S.length + 2 * i) 2 = valN ⟨0, V⟩ i := by
  have h := flat_cut (fun j => putB (valN ⟨0, V⟩ j) 2) (List.range S.length) i i (List.getElem?_range hi)
  have e : two S V = (hd0 ++ (hd1 S.length ++ (hd2 S.length ++ (hd3 S.length ++ (S.flatMap szB ++ (valsTo ⟨5, []⟩ S.length ++ ((List.range S.length).take i).flatMap (fun j => putB (valN ⟨0, V⟩ j) 2))))))) ++ (putB (valN ⟨0, V⟩ i) 2 ++ ((List.range S.length).drop (i + 1)).flatMap (fun j => putB (valN ⟨0, V⟩ j) 2)) := by
    have hv : valsTo ⟨0, V⟩ S.length = (List.range S.length).flatMap fun j => putB (valN ⟨0, V⟩ j) 2 := rfl
    simp only [two, List.append_assoc]
    rw [hv, h]
  rw [e]
  have hv0 : 0 ≤ valN ⟨0, V⟩ i ∧ valN ⟨0, V⟩ i < 65536 := by unfold valN; split <;> omega
  refine be_mid _ _ _ 2 _ ?_ hv0.1 (by rw [p256_2]; omega)
  simp only [List.length_append, hd0_len, hd1_len, hd2_len, hd3_len, sizeB_len, valsTo_len]
  rw [flat_len _ 2 (fun _ => by simp [putB_len]), List.length_take, List.length_range]; omega
end

theorem s32_wrap (s : Int) (h : -2147483648 ≤ s ∧ s ≤ 2147483647) : s32 (s % 4294967296) = s := by unfold s32; split <;> omega
theorem s16_wrap (s : Int) (h : -32768 ≤ s ∧ s ≤ 32767) : s16 (s % 65536) = s := by unfold s16; split <;> omega

theorem two_back (S V : List Int) (hm : S.length ≤ 20) (hv : V.length = S.length) (hS : rgSizes S) (hV : ∀ s ∈ V, -32768 ≤ s ∧ s ≤ 32767) (t : TrackD × TrackD) (h : tableAt (two S V) = some t) : t.1 = ⟨S, V⟩ := by
  have hsz : sizesL (two S V) 36 S.length = S := by
    refine List.ext_getElem? fun i => ?_
    by_cases hi : i < S.length
    · rw [sizesL_get _ _ _ _ hi]
      rw [two_size S V i S[i] (List.getElem?_eq_getElem hi), s32_wrap _ (hS _ (List.getElem_mem hi)), List.getElem?_eq_getElem hi]
    · rw [List.getElem?_eq_none (by rw [sizesL_len]; omega), List.getElem?_eq_none (by omega)]
  have hvl : valsL (two S V) (36 + 4 * S.length + 2 * S.length) S.length = V := by
    refine List.ext_getElem? fun i => ?_
    by_cases hi : i < S.length
    · have hi2 : i < V.length := by omega
      unfold valsL
      rw [List.getElem?_map, List.getElem?_range hi]
      simp only [Option.map_some]
      rw [two_val S V i hi]
      have : valN ⟨0, V⟩ i = V[i] % 65536 := by
        unfold valN; simp [hi2]
      rw [this, s16_wrap _ (hV _ (List.getElem_mem hi2)), List.getElem?_eq_getElem hi2]
    · rw [List.getElem?_eq_none (by rw [valsL_len]; omega), List.getElem?_eq_none (by omega)]
  have e6 : be (two S V) 6 2 = 12 := rfl
  have en : be (two S V) 12 2 = 2 := rfl
  unfold tableAt at h
  split at h
  · rw [e6] at h
    cases h1 : dataAt (two S V) (12 : Int).toNat with
    | none => rw [h1] at h; cases h
    | some t1 =>
      rw [h1] at h
      cases h2 : dataAt (two S V) (be (two S V) 8 2).toNat with
      | none => rw [h2] at h; cases h
      | some t2 =>
        rw [h2] at h
        cases h
        show t1 = _
        have h12 : (12 : Int).toNat = 12 := rfl
        rw [h12] at h1
        unfold dataAt at h1
        rw [if_neg (by omega)] at h1
        split at h1
        · rw [show 12 + 2 = 14 from rfl, show 12 + 4 = 16 from rfl, two_many S V hm, two_from S V, en] at h1
          simp only [Int.toNat_natCast, show (36 : Int).toNat = 36 from rfl, show (2 : Int).toNat = 2 from rfl, rowsD] at h1
          split at h1
          · split at h1
            · rename_i _ hb
              rw [show 12 + 8 + 8 * 0 = 20 from rfl, two_k0 S V] at h1
              rw [show 12 + 8 + 8 * (0 + 1) + 6 = 34 from rfl, two_p1 S V hm, show 12 + 8 + 8 * (0 + 1) = 28 from rfl, two_k1 S V] at h1
              rw [nextF_no (show (5 : Int) ≠ 0 by omega), nextF_yes, Int.toNat_natCast, hvl, hsz] at h1
              cases h1
              rfl
            · cases h1
          · cases h1
        · cases h1
  · cases h

/-- The first size that isn't below: what is known of it. -/
theorem atV_low (t : TrackD) (_hT : TrkV t) (h0 : 0 < t.vals.length) (s : Int) (h : s ≤ t.sizes.getD 0 0) : atV t s = t.vals.getD 0 0 := by
  have := firstGE_eq t.sizes s 0 (Nat.zero_le _) (fun j hj => by omega) (fun _ => h)
  unfold atV
  rw [if_neg (by omega), if_pos this]
theorem atV_step (t : TrackD) (hT : TrkV t) (i : Nat) (hi : i + 1 < t.vals.length) (s : Int) (h1 : t.sizes.getD i 0 < s) (h2 : s ≤ t.sizes.getD (i + 1) 0) :
    atV t s = t.vals.getD i 0 + ((t.vals.getD (i + 1) 0 - t.vals.getD i 0) * (s - t.sizes.getD i 0)) / (t.sizes.getD (i + 1) 0 - t.sizes.getD i 0) := by
  have hl := hT.len
  have hf := firstGE_eq t.sizes s (i + 1) (by omega) (fun j hj => by
    rcases Nat.lt_or_ge j i with h | h
    · exact Int.lt_trans (hT.rise j i h (by omega)) h1
    · have : j = i := by omega
      subst this; exact h1) (fun _ => h2)
  unfold atV
  rw [if_neg (by omega), hf, if_neg (by omega), if_neg (by omega), Nat.add_sub_cancel]
theorem atV_at (t : TrackD) (hT : TrkV t) (i : Nat) (hi : i < t.vals.length) : atV t (t.sizes.getD i 0) = t.vals.getD i 0 := by
  cases i with
  | zero => exact atV_low t hT (by omega) _ (Int.le_refl _)
  | succ i =>
    have hl := hT.len
    have hr := hT.rise i (i + 1) (by omega) (by omega)
    rw [atV_step t hT i hi _ hr (Int.le_refl _), Int.mul_ediv_cancel _ (by omega)]
    omega
theorem atV_high (t : TrackD) (hT : TrkV t) (h0 : 0 < t.vals.length) (s : Int) (h : t.sizes.getD (t.vals.length - 1) 0 ≤ s) : atV t s = t.vals.getD (t.vals.length - 1) 0 := by
  have hl := hT.len
  rcases Int.lt_or_eq_of_le h with h | h
  · have hf := firstGE_eq t.sizes s t.vals.length (by omega) (fun j hj => by
      rcases Nat.lt_or_ge j (t.vals.length - 1) with h' | h'
      · exact Int.lt_trans (hT.rise j (t.vals.length - 1) h' (by omega)) h
      · have : j = t.vals.length - 1 := by omega
        rw [this]; exact h) (fun h => by omega)
    unfold atV
    rw [if_neg (by omega), hf, if_neg (by omega), if_pos rfl]
  · rw [← h]; exact atV_at t hT _ (by omega)
theorem part_bd (d a b : Int) (ha : 0 ≤ a) (hab : a ≤ b) (hb : 0 < b) : (0 ≤ d → 0 ≤ d * a / b ∧ d * a / b ≤ d) ∧ (d ≤ 0 → d ≤ d * a / b ∧ d * a / b ≤ 0) := by
  have e : d * b / b = d := Int.mul_ediv_cancel _ (by omega)
  constructor
  · intro hd
    refine ⟨Int.ediv_nonneg (Int.mul_nonneg hd ha) (by omega), ?_⟩
    have h : d * a ≤ d * b := Int.mul_le_mul_of_nonneg_left hab hd
    have := Int.ediv_le_ediv hb h
    omega
  · intro hd
    have h : d * b ≤ d * a := by
      have := Int.mul_le_mul_of_nonneg_left hab (show 0 ≤ -d by omega)
      rw [Int.neg_mul, Int.neg_mul] at this; omega
    have h1 := Int.ediv_le_ediv hb h
    have h2 : d * a ≤ 0 := by
      have := Int.mul_nonneg (show 0 ≤ -d by omega) ha
      rw [Int.neg_mul] at this; omega
    have h3 := Int.ediv_le_ediv hb h2
    rw [Int.zero_ediv] at h3
    omega
theorem atV_mid (t : TrackD) (hT : TrkV t) (i : Nat) (hi : i + 1 < t.vals.length) (s : Int) (h1 : t.sizes.getD i 0 ≤ s) (h2 : s ≤ t.sizes.getD (i + 1) 0) :
    min (t.vals.getD i 0) (t.vals.getD (i + 1) 0) ≤ atV t s ∧ atV t s ≤ max (t.vals.getD i 0) (t.vals.getD (i + 1) 0) := by
  rcases Int.lt_or_eq_of_le h1 with h | h
  · rw [atV_step t hT i hi s h h2]
    have hl := hT.len
    have hr := hT.rise i (i + 1) (by omega) (by omega)
    have := part_bd (t.vals.getD (i + 1) 0 - t.vals.getD i 0) (s - t.sizes.getD i 0) (t.sizes.getD (i + 1) 0 - t.sizes.getD i 0) (by omega) (by omega) (by omega)
    generalize (t.vals.getD (i + 1) 0 - t.vals.getD i 0) * (s - t.sizes.getD i 0) / (t.sizes.getD (i + 1) 0 - t.sizes.getD i 0) = q at *
    omega
  · rw [← h, atV_at t hT i (by omega)]
    omega
end Tk
end Go.Proofs.Ytfocjagkhoonmaa
