/- Layer 27 (trak): the value of a size, in plain words. -/
import Derived.Test.YtfocjagkhoonmaaTrakTake
namespace Go.Proofs.Ytfocjagkhoonmaa
open Go.RowKit
namespace Tk
open Vw

/-- How many sizes at the front are below one. -/
def firstGE : List Int → Int → Nat
  | [], _ => 0
  | x :: l, s => if x < s then firstGE l s + 1 else 0

theorem firstGE_eq : ∀ (l : List Int) (s : Int) (k : Nat), k ≤ l.length → (∀ j, j < k → l.getD j 0 < s) → (k < l.length → s ≤ l.getD k 0) → firstGE l s = k
  | [], s, k, h, _, _ => by simp at h; subst h; rfl
  | x :: l, s, 0, _, _, h2 => by
    have : s ≤ x := by simpa using h2 (by simp)
    unfold firstGE; rw [if_neg (by omega)]
  | x :: l, s, k + 1, h, h1, h2 => by
    have h0 : x < s := by simpa using h1 0 (by omega)
    unfold firstGE; rw [if_pos h0, firstGE_eq l s k (by simpa using h) (fun j hj => by simpa using h1 (j + 1) (by omega)) (fun hk => by simpa using h2 (by simpa using hk))]

/-- Of a track the value of a size. -/
def atV (t : TrackD) (size : Int) : Int :=
  if t.vals.length = 0 then 0
  else if firstGE t.sizes size = 0 then t.vals.getD 0 0
  else if firstGE t.sizes size = t.vals.length then t.vals.getD (t.vals.length - 1) 0
  else t.vals.getD (firstGE t.sizes size - 1) 0 + ((t.vals.getD (firstGE t.sizes size) 0 - t.vals.getD (firstGE t.sizes size - 1) 0) * (size - t.sizes.getD (firstGE t.sizes size - 1) 0)) / (t.sizes.getD (firstGE t.sizes size) 0 - t.sizes.getD (firstGE t.sizes size - 1) 0)

/-- What is said of a table's value. -/
def valueV (t : TrackD × TrackD) (direction size : Int) : Int := if direction = 2 then atV t.2 size else if direction = 0 ∨ direction = 1 then atV t.1 size else 0

structure TrkV (t : TrackD) : Prop where
  len : t.sizes.length = t.vals.length
  rise : ∀ i j, i < j → j < t.sizes.length → t.sizes.getD i 0 < t.sizes.getD j 0
  sb : ∀ i, -2147483648 ≤ t.sizes.getD i 0 ∧ t.sizes.getD i 0 ≤ 2147483647
  vb : ∀ i, -32768 ≤ t.vals.getD i 0 ∧ t.vals.getD i 0 ≤ 32767
  few : t.vals.length ≤ 65535

theorem s32_bd (x : Int) (h0 : 0 ≤ x) (h1 : x ≤ 4294967295) : -2147483648 ≤ s32 x ∧ s32 x ≤ 2147483647 := by unfold s32; split <;> omega
theorem s16_bd (x : Int) (h0 : 0 ≤ x) (h1 : x ≤ 65535) : -32768 ≤ s16 x ∧ s16 x ≤ 32767 := by unfold s16; split <;> omega

theorem sizesL_getD (bs : List Int) (f n i : Nat) (h : i < n) : (sizesL bs f n).getD i 0 = s32 (be bs (f + 4 * i) 4) := by
  rw [List.getD_eq_getElem?_getD, sizesL_get bs f n i h]; rfl
theorem valsL_getD (bs : List Int) (f n i : Nat) (h : i < n) : (valsL bs f n).getD i 0 = s16 (be bs (f + 2 * i) 2) := by
  unfold valsL; rw [List.getD_eq_getElem?_getD, List.getElem?_map, List.getElem?_range h]; rfl

theorem rising_adj (bs : List Int) (f : Nat) : ∀ (n : Nat), risingTo bs f n = true → ∀ i, i + 1 < n → s32 (be bs (f + 4 * i) 4) < s32 (be bs (f + 4 * (i + 1)) 4)
  | 0, _, i, h => by omega
  | 1, _, i, h => by omega
  | n + 2, hr, i, h => by
    simp only [risingTo, Bool.and_eq_true, decide_eq_true_eq] at hr
    by_cases hi : i = n
    · subst hi; exact hr.2
    · exact rising_adj bs f (n + 1) hr.1 i (by omega)
theorem rising_all (bs : List Int) (f n : Nat) (hr : risingTo bs f n = true) (i : Nat) : ∀ d, i + (d + 1) < n → s32 (be bs (f + 4 * i) 4) < s32 (be bs (f + 4 * (i + (d + 1))) 4)
  | 0, h => rising_adj bs f n hr i h
  | d + 1, h => Int.lt_trans (rising_all bs f n hr i d (by omega)) (rising_adj bs f n hr (i + (d + 1)) (by omega))

/-- What the rows' values are, if there are such. -/
theorem rowsD_some (bs : List Int) (at' many : Nat) : ∀ (k i : Nat) (fd : Option (List Int)) (r : Option (List Int)), rowsD bs at' many k i fd = some r → ∀ v, r = some v → fd = some v ∨ ∃ p, p + 2 * many ≤ bs.length ∧ v = valsL bs p many
  | 0, i, fd, r, h, v, hv => by simp only [rowsD, Option.some.injEq] at h; exact .inl (h.trans hv)
  | k + 1, i, fd, r, h, v, hv => by
    simp only [rowsD] at h
    split at h
    · rename_i hfit
      rcases rowsD_some bs at' many k (i + 1) _ r h v hv with h1 | h1
      · unfold nextF at h1
        cases fd with
        | some x => exact .inl h1
        | none =>
          simp only at h1
          split at h1
          · exact .inr ⟨_, hfit, (Option.some.inj h1).symm⟩
          · cases h1
      · exact .inr h1
    · cases h

theorem trkV_nil : TrkV ⟨[], []⟩ := ⟨rfl, fun i j _ h => by simp at h, fun i => by simp, fun i => by simp, by simp⟩

theorem dataAt_v (bs : List Int) (hb : ∀ x ∈ bs, 0 ≤ x ∧ x ≤ 255) (at' : Nat) (t : TrackD) (h : dataAt bs at' = some t) : TrkV t := by
  unfold dataAt at h
  split at h
  · cases h; exact trkV_nil
  · split at h
    · rename_i _ hc
      obtain ⟨h8, hsz, hrw, hris⟩ := hc
      have hmb := be2_bd bs hb (at' + 2) (by omega)
      generalize (be bs (at' + 4) 4).toNat = f at *
      obtain ⟨many, hm⟩ : ∃ n : Nat, be bs (at' + 2) 2 = n := ⟨(be bs (at' + 2) 2).toNat, by omega⟩
      rw [hm] at h hsz hris hmb
      simp only [Int.toNat_natCast] at h hsz hris
      cases hr : rowsD bs at' many (be bs at' 2).toNat 0 none with
      | none => rw [hr] at h; cases h
      | some r =>
        rw [hr] at h
        simp only [Option.map_some, Option.some.injEq] at h
        subst h
        cases r with
        | none => exact trkV_nil
        | some v =>
          rcases rowsD_some bs at' many _ 0 none _ hr v rfl with h1 | ⟨p, hp, rfl⟩
          · cases h1
          · refine ⟨by simp [trackOf, sizesL_len, valsL_len], fun i j hij hj => ?_, fun i => ?_, fun i => ?_, by simp [trackOf, valsL_len]; omega⟩
            · simp only [trackOf, sizesL_len] at hj ⊢
              rw [sizesL_getD _ _ _ _ (by omega), sizesL_getD _ _ _ _ hj]
              have := rising_all bs f many hris i (j - i - 1) (by omega)
              rwa [show i + (j - i - 1 + 1) = j by omega] at this
            · simp only [trackOf]
              by_cases hi : i < many
              · rw [sizesL_getD _ _ _ _ hi]
                have := be4_bd bs hb (f + 4 * i) (by omega)
                exact s32_bd _ this.1 this.2
              · rw [List.getD_eq_getElem?_getD, List.getElem?_eq_none (by rw [sizesL_len]; omega)]; simp
            · simp only [trackOf]
              by_cases hi : i < many
              · rw [valsL_getD _ _ _ _ hi]
                have := be2_bd bs hb (p + 2 * i) (by omega)
                exact s16_bd _ this.1 this.2
              · rw [List.getD_eq_getElem?_getD, List.getElem?_eq_none (by rw [valsL_len]; omega)]; simp
    · cases h

theorem tableAt_v (bs : List Int) (hb : ∀ x ∈ bs, 0 ≤ x ∧ x ≤ 255) (t : TrackD × TrackD) (h : tableAt bs = some t) : TrkV t.1 ∧ TrkV t.2 := by
  unfold tableAt at h
  split at h
  · cases h1 : dataAt bs (be bs 6 2).toNat with
    | none => rw [h1] at h; cases h
    | some t1 =>
      cases h2 : dataAt bs (be bs 8 2).toNat with
      | none => rw [h1, h2] at h; cases h
      | some t2 =>
        rw [h1, h2] at h
        cases h
        exact ⟨dataAt_v bs hb _ _ h1, dataAt_v bs hb _ _ h2⟩
  · cases h
end Tk
end Go.Proofs.Ytfocjagkhoonmaa
