/- The reference's value of a size (layer 27). -/
import Derived.Test.YtfocjagkhoonmaaTrakValue
namespace Go.Proofs.Ytfocjagkhoonmaa
open Go.RowKit
namespace Tk
open Vw

theorem ref_down (a b : Int) : a < Int.tdiv a b * b ↔ Int.tmod a b < 0 := by
  have h1 := Int.mul_tdiv_add_tmod a b
  rw [Int.mul_comm (Int.tdiv a b) b]
  omega

set_option maxRecDepth 100000 in
set_option maxHeartbeats 1000000 in
theorem rat_zero (v1 v2 : Option Addr) (S V : Nat → Int) (n1 : Nat) (size : Int) (w : World) (c1 c2 : Nat) :
    Calls Try.prog 43 #[.agg #[.slice v1 n1 c1, .slice v2 0 c2], .int .i64 size] w (AtP w S V size 0) := by
  have HB := Bas.hid ((Below.refl w.heap.size w).alloc (Nat.le_refl _) (.cells #[.slice v1 n1 c1, .slice v2 0 c2] 38))
  go_enter Try.func43, Try.ntmps43
  go_wp2_with (fail)
  go_ret
  exact ⟨0, Nat.le_refl _, fun j h => by omega, fun j _ h => by omega, rfl, HB.out⟩

set_option maxRecDepth 100000 in
set_option maxHeartbeats 8000000 in
theorem rat_core (n G1 G2 c1 c2 : Nat) (S V : Nat → Int) (size : Int) (w : World) (hn0 : 0 < n) (hn : n ≤ 65535) (hsz : -2147483648 ≤ size ∧ size ≤ 2147483647) (hG1 : G1 < w.heap.size) (hG2 : G2 < w.heap.size)
    (hS : ∀ j, j < n → w.cell? ⟨G1, j, none⟩ = some (.int .i64 (S j))) (hV : ∀ j, j < n → w.cell? ⟨G2, j, none⟩ = some (.int .i64 (V j)))
    (hrise : ∀ i j, i < j → j < n → S i < S j) (hsb : ∀ i, -2147483648 ≤ S i ∧ S i ≤ 2147483647) (hvb : ∀ i, -32768 ≤ V i ∧ V i ≤ 32767) :
    Calls Try.prog 43 #[.agg #[.slice (some ⟨G1, 0, none⟩) n c1, .slice (some ⟨G2, 0, none⟩) n c2], .int .i64 size] w (AtP w S V size n) := by
  have HR := Bas.hid hrise
  have HSB := Bas.hid hsb
  have HVB := Bas.hid hvb
  have HAL := Bas.hid ((Below.refl w.heap.size w).alloc (Nat.le_refl _) (.cells #[.slice (some ⟨G1, 0, none⟩) n c1, .slice (some ⟨G2, 0, none⟩) n c2] 38))
  have k1 := Bas.heap_new w (.cells #[.slice (some ⟨G1, 0, none⟩) n c1, .slice (some ⟨G2, 0, none⟩) n c2] 38)
  have HS : Hid (∀ j, j < n → (w.alloc (.cells #[.slice (some ⟨G1, 0, none⟩) n c1, .slice (some ⟨G2, 0, none⟩) n c2] 38)).cell? ⟨G1, j, none⟩ = some (.int .i64 (S j))) := fun j hj => (HAL.out.cell (p := ⟨G1, j, none⟩) hG1).trans (hS j hj)
  have HV : Hid (∀ j, j < n → (w.alloc (.cells #[.slice (some ⟨G1, 0, none⟩) n c1, .slice (some ⟨G2, 0, none⟩) n c2] 38)).cell? ⟨G2, j, none⟩ = some (.int .i64 (V j))) := fun j hj => (HAL.out.cell (p := ⟨G2, j, none⟩) hG2).trans (hV j hj)
  have hGs : w.heap.size < (w.alloc (.cells #[.slice (some ⟨G1, 0, none⟩) n c1, .slice (some ⟨G2, 0, none⟩) n c2] 38)).heap.size := heap_lt k1
  clear hS hV hrise hsb hvb
  go_enter Try.func43, Try.ntmps43
  go_wp2_with (fail)
  generalize w.alloc (.cells #[.slice (some ⟨G1, 0, none⟩) n c1, .slice (some ⟨G2, 0, none⟩) n c2] 38) = W at *
  have cx := cell_of_heap (i := 0) (v := .slice (some ⟨G1, 0, none⟩) n c1) k1 rfl
  have cy := cell_of_heap (i := 1) (v := .slice (some ⟨G2, 0, none⟩) n c2) k1 rfl
  have hnz : ((n : Int) == 0) = false := by simp; omega
  have hG1' : G1 < W.heap.size := by omega
  have hG2' : G2 < W.heap.size := by omega
  go_wp2_with (fail)
  go_loopw [6] (fun vi wr => ∃ i : Nat, i ≤ n ∧ vi = .int .i64 i ∧ wr = W ∧ ∀ j, j < i → S j < size) (fun vi _ => n - (intOf vi).toNat)
  case atStart => exact ⟨0, by omega, rfl, rfl, fun j h => by omega⟩
  case round =>
    obtain ⟨i, hi, rfl, rfl, hA⟩ := hrel
    have HA := Bas.hid hA
    clear hA
    rcases Nat.lt_or_ge i n with hin | hin
    · have e1 : decide ((i : Int) < (n : Int)) = true := by simp; omega
      have e2 : decide (i < n) = true := by simp; omega
      have cs := HS.out i hin
      have q2 := HSB.out i
      obtain ⟨s2, hs2⟩ : ∃ s, S i = s := ⟨_, rfl⟩
      have HS2 := Bas.hid hs2
      rw [hs2] at cs q2
      by_cases hlt : s2 < size
      · have d1 : decide (s2 < size) = true := by simpa using hlt
        have HA' : Hid (∀ j, j < i + 1 → S j < size) := fun j hj => by
          by_cases h : j = i
          · subst h; rw [hs2]; exact hlt
          · exact HA.out j (by omega)
        clear hs2 hlt
        go_wp2_with (fail)
        go_roundw
        case rel => exact ⟨i + 1, by omega, by go_num, trivial, HA'.out⟩
        case measure => simp [intOf]; omega
      · have d1 : decide (s2 < size) = false := by simp; omega
        have HBB : Hid (∀ j, i ≤ j → j < n → size ≤ S j) := fun j h1 h2 => by
          by_cases h : i = j
          · subst h; rw [hs2]; omega
          · have := HR.out i j (by omega) h2; rw [hs2] at this; omega
        by_cases hi0 : i = 0
        · subst hi0
          have cv := HV.out 0 hin
          have HK : Hid (atK S V size n 0 = V 0) := by unfold Hid atK; rw [if_neg (by omega), if_pos rfl]
          clear hs2 hlt
          go_wp2_with (fail)
          go_ret
          exact ⟨0, hi, HA.out, HBB.out, by rw [HK.out]; rfl, HAL.out⟩
        · have d2 : ((i : Int) == 0) = false := by simp; omega
          obtain ⟨m, hm⟩ : ∃ m, i = m + 1 := ⟨i - 1, by omega⟩
          have em : (i : Int) - 1 = (m : Int) := by omega
          have hmn : m < n := by omega
          have cv1 := HV.out m hmn
          have cv2 := HV.out i hin
          have cs1 := HS.out m hmn
          have q1 := HSB.out m
          have q3 := HVB.out m
          have q4 := HVB.out i
          have q5 := HR.out m i (by omega) hin
          have q6 := HA.out m (by omega)
          have q7 := HBB.out i (Nat.le_refl _) hin
          have q8 := mul_bd (V i - V m) (size - S m) (by omega) (by omega)
          have HK : Hid (atK S V size n i = V m + (V i - V m) * (size - S m) / (S i - S m)) := by unfold Hid atK; rw [if_neg (by omega), if_neg hi0, if_neg (by omega), show i - 1 = m by omega]
          rw [hs2] at q5 q7 HK
          by_cases heq : size = s2
          · have d3 : (size == s2) = true := by simpa using heq
            have HK2 : Hid (atK S V size n i = V i) := by
              unfold Hid
              rw [HK.out, heq, Int.mul_ediv_cancel _ (by omega)]; omega
            clear hi0 heq hm hs2 hlt
            generalize V i = vi at *
            go_wp2_with (fail)
            go_ret
            exact ⟨i, hi, HA.out, HBB.out, by rw [HK2.out]; rfl, HAL.out⟩
          · have d3 : (size == s2) = false := by simpa using heq
            have hwide : 0 < s2 - S m := by omega
            have hqa := ref_down ((V i - V m) * (size - S m)) (s2 - S m)
            have hqb := tdiv_down ((V i - V m) * (size - S m)) (s2 - S m) hwide
            have hqc := tdiv_even ((V i - V m) * (size - S m)) (s2 - S m) hwide
            have hqd : -281474976710656 ≤ Int.tdiv ((V i - V m) * (size - S m)) (s2 - S m) ∧ Int.tdiv ((V i - V m) * (size - S m)) (s2 - S m) ≤ 281474976710656 := by
              have := Int.natAbs_tdiv_le_natAbs ((V i - V m) * (size - S m)) (s2 - S m)
              omega
            have hqe : -562949953421312 ≤ Int.tdiv ((V i - V m) * (size - S m)) (s2 - S m) * (s2 - S m) ∧ Int.tdiv ((V i - V m) * (size - S m)) (s2 - S m) * (s2 - S m) ≤ 562949953421312 := by
              have h1 := Int.mul_tdiv_add_tmod ((V i - V m) * (size - S m)) (s2 - S m)
              rw [Int.mul_comm] at h1
              have h2 := Int.lt_tmod_of_pos ((V i - V m) * (size - S m)) hwide
              have h3 := Int.tmod_lt_of_pos ((V i - V m) * (size - S m)) hwide
              omega
            have hwz : (s2 - S m == 0) = false := by simp; omega
            generalize hvi : V i = vi at *
            generalize hvm : V m = vm at *
            generalize hsm : S m = sm at *
            clear hi0 heq hm hs2 hlt hvi hvm hsm
            go_wp2_with (fail)
            refine' Pl.region_v0 100 [] [0, 1, 2, 3, 4, 5, 6, 7, 8, 9, 10, 11, 12] [] _ (by kernel_rfl) (by kernel_rfl) (by simp) (fun _ _ _ _ e h => ⟨e ▸ h.1, h.2⟩) ?_ ?_
            rotate_left
            · intro I F hI hF
              simp only [Pl.selN, List.nil_append, List.drop_succ_cons, List.drop_zero]
              have x1 := fun i => hF.cell (heap_lt k1) cx i
              have x3 := fun i => hF.cell hG1' cs1 i
              have x4 := fun i => hF.cell hG1' cs i
              repeat (go_big_quiet_step (fail))
              refine wpQuiet_nil ?_
              rfl
            intro u hu
            simp only [Pl.selN]
            have HBU := Bas.hid (HAL.out.trans (hu.mono (by omega)))
            have y1 := (hu.cell (p := ⟨w.heap.size, 0, none⟩) (heap_lt k1)).trans cx
            have y2 := (hu.cell (p := ⟨w.heap.size, 1, none⟩) (heap_lt k1)).trans cy
            have y3 := (hu.cell (p := ⟨G2, m, none⟩) hG2').trans cv1
            have y4 := (hu.cell (p := ⟨G2, i, none⟩) hG2').trans cv2
            have y5 := (hu.cell (p := ⟨G1, m, none⟩) hG1').trans cs1
            have l1 : w.heap.size < u.heap.size := Nat.lt_of_lt_of_le (heap_lt k1) hu.size
            have l2 : G1 < u.heap.size := Nat.lt_of_lt_of_le hG1' hu.size
            have l3 : G2 < u.heap.size := Nat.lt_of_lt_of_le hG2' hu.size
            clear hu cx cy cs cs1 cv1 cv2 k1 HS HV HAL
            go_wp2_with (fail)
            refine' Pl.region_v0 100 [] [0, 1, 2, 3, 4, 5, 6, 7, 8, 9, 10, 11, 12, 13, 14, 15, 16, 17, 18, 19, 20, 21] [] _ (by kernel_rfl) (by kernel_rfl) (by simp) (fun _ _ _ _ e h => ⟨e ▸ h.1, h.2⟩) ?_ ?_
            rotate_left
            · intro I F hI hF
              simp only [Pl.selN, List.nil_append, List.drop_succ_cons, List.drop_zero]
              have x1 := fun i => hF.cell l1 y1 i
              have x2 := fun i => hF.cell l1 y2 i
              have x3 := fun i => hF.cell l3 y3 i
              have x4 := fun i => hF.cell l3 y4 i
              have x5 := fun i => hF.cell l2 y5 i
              repeat (go_big_quiet_step (fail))
              refine wpQuiet_nil ?_
              rfl
            intro u2 hu
            simp only [Pl.selN]
            have HBX := Bas.hid (HBU.out.trans (hu.mono HBU.out.size))
            have z2 := (hu.cell (p := ⟨w.heap.size, 1, none⟩) l1).trans y2
            have z3 := (hu.cell (p := ⟨G2, m, none⟩) l3).trans y3
            clear hu y1 y2 y3 y4 y5 HBU
            by_cases hn : Int.tmod ((vi - vm) * (size - sm)) (s2 - sm) < 0
            · have hgt : decide ((vi - vm) * (size - sm) < Int.tdiv ((vi - vm) * (size - sm)) (s2 - sm) * (s2 - sm)) = true := by
                rw [decide_eq_true_eq]; exact hqa.2 hn
              have HQ := Bas.hid (hqb hn)
              clear hqa hqb hqc hn
              go_wp2_with (fail)
              go_ret
              exact ⟨i, hi, HA.out, HBB.out, by rw [HK.out, ← HQ.out]; rfl, HBX.out⟩
            · have hgt : decide ((vi - vm) * (size - sm) < Int.tdiv ((vi - vm) * (size - sm)) (s2 - sm) * (s2 - sm)) = false := by
                rw [decide_eq_false_iff_not]; exact fun h => hn (hqa.1 h)
              have HQ := Bas.hid (hqc (by omega))
              clear hqa hqb hqc hn
              go_wp2_with (fail)
              go_ret
              exact ⟨i, hi, HA.out, HBB.out, by rw [HK.out, ← HQ.out]; rfl, HBX.out⟩
    · obtain rfl : i = n := by omega
      obtain ⟨m, rfl⟩ : ∃ m, i = m + 1 := ⟨i - 1, by omega⟩
      have cv := HV.out m (by omega)
      have HK : Hid (atK S V size (m + 1) (m + 1) = V m) := by unfold Hid atK; rw [if_neg (by omega), if_neg (by omega), if_pos rfl]; rfl
      clear hin
      go_wp2_with (fail)
      go_ret
      exact ⟨m + 1, hi, HA.out, fun j h1 h2 => by omega, by rw [HK.out]; rfl, HAL.out⟩

theorem rat_any (t : TrackD) (v1 v2 : Value) (base : Nat) (size : Int) (w : World) (ho : TrkOwn w base v1 v2 t) (hV : TrkV t) (hsz : -2147483648 ≤ size ∧ size ≤ 2147483647) :
    Calls Try.prog 43 #[.agg #[v1, v2], .int .i64 size] w fun e w' => e = .returned (.int .i64 (atV t size)) ∧ Below w.heap.size w w' := by
  obtain ⟨ad1, c1, rfl, h1⟩ := leads_cell ho.1
  obtain ⟨ad2, c2, rfl, h2⟩ := leads_cell ho.2
  have hl := hV.len
  rw [hl] at h1 ⊢
  rcases Nat.eq_zero_or_pos t.vals.length with h0 | h0
  · have hk0 := atK_atV t hV size 0 (Nat.zero_le _) (fun j h => by omega) (fun j _ h => by omega)
    rw [h0] at hk0 ⊢
    refine (rat_zero ad1 ad2 (fun i => t.sizes.getD i 0) (fun i => t.vals.getD i 0) 0 size w c1 c2).mono ?_
    rintro e w' ⟨k, hk, hA, hB, rfl, hb⟩
    obtain rfl : k = 0 := by omega
    exact ⟨by rw [hk0], hb⟩
  · obtain ⟨G1, rfl, hG1, _⟩ := h1 0 h0
    obtain ⟨G2, rfl, hG2, _⟩ := h2 0 h0
    refine (rat_core t.vals.length G1 G2 c1 c2 (fun i => t.sizes.getD i 0) (fun i => t.vals.getD i 0) size w h0 hV.few hsz hG1 hG2 (fun j hj => ?_) (fun j hj => ?_) (fun i j hij hj => hV.rise i j hij (by rw [hl]; exact hj)) hV.sb hV.vb).mono ?_
    · obtain ⟨G, e, _, h⟩ := h1 j hj; cases e; exact h
    · obtain ⟨G, e, _, h⟩ := h2 j hj; cases e; exact h
    · rintro e w' ⟨k, hk, hA, hB, rfl, hb⟩
      exact ⟨by rw [atK_atV t hV size k hk hA hB], hb⟩

set_option maxRecDepth 100000 in
set_option maxHeartbeats 4000000 in
theorem rvalue_any (t : TrackD × TrackD) (a1 v1 a2 v2 : Value) (base : Nat) (dir size : Int) (w : World) (h1 : TrkOwn w base a1 v1 t.1) (h2 : TrkOwn w base a2 v2 t.2) (hV1 : TrkV t.1) (hV2 : TrkV t.2) (hsz : -2147483648 ≤ size ∧ size ≤ 2147483647) (_hd : -9223372036854775808 ≤ dir ∧ dir ≤ 9223372036854775807) :
    Calls Try.prog 20 #[.agg #[a1, v1, a2, v2], .int .i64 dir, .int .i64 size] w fun e w' => e = .returned (.int .i64 (valueV t dir size)) ∧ Below w.heap.size w w' := by
  have HB0 := Bas.hid ((Below.refl w.heap.size w).alloc (Nat.le_refl _) (.cells #[a1, v1, a2, v2] 40))
  have hk := Bas.heap_new w (.cells #[a1, v1, a2, v2] 40)
  have HA1 := Bas.hid (rat_any t.1 a1 v1 base size _ ⟨Row.owned_below h1.1 ((Below.refl _ _).alloc (Nat.le_refl _) (.cells #[a1, v1, a2, v2] 40)), Row.owned_below h1.2 ((Below.refl _ _).alloc (Nat.le_refl _) _)⟩ hV1 hsz)
  have HA2 := Bas.hid (rat_any t.2 a2 v2 base size _ ⟨Row.owned_below h2.1 ((Below.refl _ _).alloc (Nat.le_refl _) (.cells #[a1, v1, a2, v2] 40)), Row.owned_below h2.2 ((Below.refl _ _).alloc (Nat.le_refl _) _)⟩ hV2 hsz)
  obtain ⟨ad1, c1, rfl⟩ := own_slice h1.1
  obtain ⟨ad2, c2, rfl⟩ := own_slice h1.2
  obtain ⟨ad3, c3, rfl⟩ := own_slice h2.1
  obtain ⟨ad4, c4, rfl⟩ := own_slice h2.2
  clear h1 h2 hV1 hV2
  by_cases h2 : dir = 2
  · have hdb : (dir == 2) = true := by simpa using h2
    have HV : Hid (valueV t dir size = atV t.2 size) := by unfold Hid valueV; rw [if_pos h2]
    clear h2 HA1
    go_enter Try.func20, Try.ntmps20
    go_wp2_with (fail)
    refine HA2.out.mono ?_
    rintro e w' ⟨rfl, hb⟩
    have HB := Bas.hid (Bas.on HB0.out hb)
    clear hb
    go_wp2_with (fail)
    go_ret
    exact ⟨by rw [HV.out]; rfl, HB.out⟩
  · have hdb : (dir == 2) = false := by simpa using h2
    by_cases h01 : dir = 0 ∨ dir = 1
    · have HV : Hid (valueV t dir size = atV t.1 size) := by unfold Hid valueV; rw [if_neg h2, if_pos h01]
      clear HA2
      rcases h01 with h01 | h01
      · have hdc : (dir == 0) = true := by simpa using h01
        clear h2 h01
        go_enter Try.func20, Try.ntmps20
        go_wp2_with (fail)
        refine HA1.out.mono ?_
        rintro e w' ⟨rfl, hb⟩
        have HB := Bas.hid (Bas.on HB0.out hb)
        clear hb
        go_wp2_with (fail)
        go_ret
        exact ⟨by rw [HV.out]; rfl, HB.out⟩
      · have hdc : (dir == 0) = false := by simp; omega
        have hdd : (dir == 1) = true := by simpa using h01
        clear h2 h01
        go_enter Try.func20, Try.ntmps20
        go_wp2_with (fail)
        refine HA1.out.mono ?_
        rintro e w' ⟨rfl, hb⟩
        have HB := Bas.hid (Bas.on HB0.out hb)
        clear hb
        go_wp2_with (fail)
        go_ret
        exact ⟨by rw [HV.out]; rfl, HB.out⟩
    · have HV : Hid (valueV t dir size = 0) := by unfold Hid valueV; rw [if_neg h2, if_neg h01]
      have hdc : (dir == 0) = false := by simp; omega
      have hdd : (dir == 1) = false := by simp; omega
      clear h2 h01 HA1 HA2
      go_enter Try.func20, Try.ntmps20
      go_wp2_with (fail)
      go_ret
      exact ⟨by rw [HV.out]; rfl, HB0.out⟩
end Tk
end Go.Proofs.Ytfocjagkhoonmaa
