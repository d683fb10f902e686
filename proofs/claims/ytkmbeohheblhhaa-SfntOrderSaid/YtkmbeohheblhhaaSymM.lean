/- slices.SortStableFunc at parts: two sorted rows become one. -/
import Derived.Test.YtkmbeohheblhhaaSymC
namespace Go.Proofs.Ytkmbeohheblhhaa
open Go.RowKit
namespace Sy
open Fo

set_option maxRecDepth 100000 in
set_option maxHeartbeats 8000000 in
theorem merge_left (base n a b : Nat) (sv : Value) (D : Nat → Pt) (w : World) (h : At w base n sv D) (hn : n ≤ 1000) (hab : a + 1 < b) (hb : b ≤ n) (hs : Srt ltP D (a + 1) b) :
    Calls Try.prog 48 #[sv, .int .i64 a, .int .i64 ((a + 1 : Nat) : Int), .int .i64 b, .func (.func 23) #[] #[]] w (SrtP base n a b sv D w) := by
  obtain ⟨g, cp, rfl, hlt0, -⟩ := h.cells (k := 0) (by omega)
  obtain ⟨m, hm⟩ : ∃ m, a + 1 = m := ⟨_, rfl⟩
  rw [hm]
  have H := Bas.hid h
  have HS := Bas.hid hs
  have HM := Bas.hid hm
  have hma : a < m := by omega
  have hmb : m < b := by omega
  have mixed : Try.prog.follows .mixedOrders = true := by kernel_rfl
  have z0 : IntKind.i64.wrap ((m : Int) - (a : Int)) = 1 := by rw [IntKind.wrap_i64]; omega
  have z00 : (m : Int) - (a : Int) = 1 := by omega
  clear h hs hm
  go_enter Try.func48, Try.ntmps48
  go_wp2_with (fail)
  go_loopw [10, 11] (fun vi vj wr => ∃ i j : Nat, m ≤ i ∧ i ≤ j ∧ j ≤ b ∧ vi = .int .i64 i ∧ vj = .int .i64 j ∧ (i = m ∨ ltP (D (i - 1)) (D a) = true) ∧ (j = b ∨ ltP (D j) (D a) = false) ∧ At wr base n (.slice (some ⟨g, 0, none⟩) n cp) D ∧ w.grownBy wr (some g)) (fun vi vj _ => (intOf vj).toNat - (intOf vi).toNat)
  case atStart => exact ⟨m, b, Nat.le_refl _, by omega, Nat.le_refl _, rfl, rfl, .inl rfl, .inl rfl, H.out, Bas.grefl _ _⟩
  case round =>
    obtain ⟨i, j, hmi, hij, hjb, rfl, rfl, hi, hj, ha, hg⟩ := hrel
    have HI := Bas.hid hi
    have HJ := Bas.hid hj
    have HA := Bas.hid ha
    have HG := Bas.hid hg
    clear hi hj hg
    by_cases hlt : i < j
    · have e1 : decide ((i : Int) < (j : Int)) = true := by simp; omega
      have e2 : decide (i < j) = true := by simp; omega
      obtain ⟨x, hx⟩ : ∃ x, (i + j) / 2 = x := ⟨_, rfl⟩
      have eh : ((i : Int) + (j : Int)) / 2 = (x : Int) := by omega
      have hx1 : i ≤ x := by omega
      have hx2 : x < j := by omega
      clear hx
      obtain ⟨g1, c1, hv1, hlt1, hbb, p0, p1, -⟩ := ha.cells (k := x) (by omega)
      cases hv1
      obtain ⟨g2, c2, hv2, _, _, q0, q1, -⟩ := ha.cells (k := a) (by omega)
      cases hv2
      obtain ⟨⟨s0, x0, l0, k0⟩, hd0⟩ : ∃ p, D (x) = p := ⟨_, rfl⟩
      obtain ⟨⟨s1, x1, l1, k1⟩, hd1⟩ : ∃ p, D (a) = p := ⟨_, rfl⟩
      rw [hd0] at p0 p1
      rw [hd1] at q0 q1
      have HD0 := Bas.hid hd0
      have HD1 := Bas.hid hd1
      have hcmp := fun u => cmp1_any (s0, x0, l0, k0) (s1, x1, l1, k1) u
      simp only at p0 p1 q0 q1 hcmp
      have HCM := Bas.hid hcmp
      have g5 : decide (((x : Nat) : Int) < (n : Int)) = true := by simp; omega
      have g6 : decide (((a : Nat) : Int) < (n : Int)) = true := by simp; omega
      clear ha hd0 hd1 hcmp
      cases hlv : ltS s0 s1
      case true =>
        have g7 : decide (cmpS s0 s1 < 0) = true := decide_eq_true ((cmpS_neg s0 s1).2 hlv)
        have HLV : Hid (ltP (D (x)) (D (a)) = true) := by unfold Hid; rw [HD0.out, HD1.out]; exact hlv
        clear hlv
        go_wp2_with (fail)
        refine' Pl.region_v0 220 [] [0, 1, 2, 3, 4, 5, 6, 7, 8, 9, 10] [] _ (by kernel_rfl) (by kernel_rfl) (by simp) (fun _ _ _ _ e h => ⟨e ▸ h.1, h.2⟩) ?_ ?_
        rotate_left
        · intro I F hI hF
          simp only [Pl.selN, List.nil_append, List.drop_succ_cons, List.drop_zero]
          have t0 := fun i => hF.cell hlt1 p0 i
          have t1 := fun i => hF.cell hlt1 p1 i
          have t2 := fun i => hF.cell hlt1 q0 i
          have t3 := fun i => hF.cell hlt1 q1 i
          repeat (go_big_quiet_step ((go_at_call 23; exact hF.call (HCM.out _))))
          refine wpQuiet_nil ?_
          rfl
        intro w5 hw5
        simp only [Pl.selN]
        have HA5 := Bas.hid (HA.out.below hw5)
        have HG5 := Bas.hid (Bas.gbelow HG.out hw5)
        clear p0 p1 q0 q1 hlt1 hw5 g7 g5 g6 
        go_wp2_with (fail)
        go_roundw
        case rel => exact ⟨x + 1, j, by omega, by omega, hjb, by go_num, rfl, .inr HLV.out, HJ.out, HA5.out, HG5.out⟩
        case measure => simp [intOf]; omega
      case false =>
        have g7 : decide (cmpS s0 s1 < 0) = false := (by rw [decide_eq_false_iff_not, cmpS_neg, hlv]; simp)
        have HLV : Hid (ltP (D (x)) (D (a)) = false) := by unfold Hid; rw [HD0.out, HD1.out]; exact hlv
        clear hlv
        go_wp2_with (fail)
        refine' Pl.region_v0 220 [] [0, 1, 2, 3, 4, 5, 6, 7, 8, 9, 10] [] _ (by kernel_rfl) (by kernel_rfl) (by simp) (fun _ _ _ _ e h => ⟨e ▸ h.1, h.2⟩) ?_ ?_
        rotate_left
        · intro I F hI hF
          simp only [Pl.selN, List.nil_append, List.drop_succ_cons, List.drop_zero]
          have t0 := fun i => hF.cell hlt1 p0 i
          have t1 := fun i => hF.cell hlt1 p1 i
          have t2 := fun i => hF.cell hlt1 q0 i
          have t3 := fun i => hF.cell hlt1 q1 i
          repeat (go_big_quiet_step ((go_at_call 23; exact hF.call (HCM.out _))))
          refine wpQuiet_nil ?_
          rfl
        intro w5 hw5
        simp only [Pl.selN]
        have HA5 := Bas.hid (HA.out.below hw5)
        have HG5 := Bas.hid (Bas.gbelow HG.out hw5)
        clear p0 p1 q0 q1 hlt1 hw5 g7 g5 g6 
        go_wp2_with (fail)
        go_roundw
        case rel => exact ⟨i, x, hmi, hx1, by omega, rfl, rfl, HI.out, .inr HLV.out, HA5.out, HG5.out⟩
        case measure => simp [intOf]; omega
    · obtain rfl : i = j := by omega
      have e1 : decide ((i : Int) < (i : Int)) = false := by simp
      have z1 : IntKind.i64.wrap ((i : Int) - 1) = ((i - 1 : Nat) : Int) := by rw [IntKind.wrap_i64]; omega
      have z2 : (i : Int) - 1 = ((i - 1 : Nat) : Int) := by omega
      clear ha
      go_wp2_with (fail)
      go_loopw [13] (fun vk w2 => ∃ k : Nat, a ≤ k ∧ k ≤ i - 1 ∧ vk = .int .i64 k ∧ At w2 base n (.slice (some ⟨g, 0, none⟩) n cp) (rot D a m (k + 1)) ∧ w.grownBy w2 (some g)) (fun vk _ => i - (intOf vk).toNat)
      case atStart => exact ⟨a, Nat.le_refl _, by omega, rfl, by rw [HM.out, rot_none D (.inr rfl) (by omega) (Nat.le_refl _)]; exact HA.out, HG.out⟩
      case round =>
        obtain ⟨k, hak, hki, rfl, ha, hg⟩ := hrel
        have HA2 := Bas.hid ha
        have HG := Bas.hid hg
        clear hg
        by_cases hk : k < i - 1
        · have f1 : decide ((k : Int) < ((i - 1 : Nat) : Int)) = true := by simp; omega
          have f2 : decide (k < i - 1) = true := by simp; omega
          have HRD : Hid (sw (rot D a m (k + 1)) k (k + 1) = rot D a m (k + 2)) := by unfold Hid; rw [← HM.out]; exact rot_up D hak
          obtain ⟨_, _, hv3, _, _, p0, p1, hfr⟩ := ha.cells (k := k) (by omega)
          cases hv3
          obtain ⟨_, _, hv4, _, _, q0, q1, _⟩ := ha.cells (k := k + 1) (by omega)
          cases hv4
          have f4 := hfr ((k) * 2)
          have f5 := hfr ((k) * 2 + 1)
          have f6 := hfr ((k + 1) * 2)
          have f7 := hfr ((k + 1) * 2 + 1)
          have HSW := Bas.hid (At.swap ha (i := k) (j := k + 1) (by omega) (by omega))
          obtain ⟨⟨s0, x0, l0, k0⟩, hd0⟩ : ∃ p, rot D a m (k + 1) (k) = p := ⟨_, rfl⟩
          obtain ⟨⟨s1, x1, l1, k1⟩, hd1⟩ : ∃ p, rot D a m (k + 1) (k + 1) = p := ⟨_, rfl⟩
          rw [hd0] at p0 p1 HSW
          rw [hd1] at q0 q1 HSW
          simp only at p0 p1 q0 q1 HSW
          have g5 : decide (((k : Nat) : Int) < (n : Int)) = true := by simp; omega
          have g6 : decide (((k + 1 : Nat) : Int) < (n : Int)) = true := by simp; omega
          clear ha hfr hd0 hd1
          go_wp2_with (fail)
          go_big_region_o
          have HG6 := Bas.hid (Bas.gset (Bas.gset (Bas.gset (Bas.gset HG.out ((k) * 2) (.string s1)) ((k) * 2 + 1) (.slice x1 l1 k1)) ((k + 1) * 2) (.string s0)) ((k + 1) * 2 + 1) (.slice x0 l0 k0))
          clear p0 p1 q0 q1 f4 f5 f6 f7 g5 g6
          go_wp2_with (fail)
          go_roundw
          case rel => exact ⟨k + 1, by omega, by omega, by go_num, by rw [← HRD.out]; exact HSW.out, Bas.gbelow HG6.out ((Below.refl _ _).drew)⟩
          case measure => simp [intOf]; omega
        · obtain rfl : k = i - 1 := by omega
          have f1 : decide (((i - 1 : Nat) : Int) < ((i - 1 : Nat) : Int)) = false := by simp
          have HIN : Hid (Srt ltP (rot D a m (i - 1 + 1)) a b ∧ Pm a b D (rot D a m (i - 1 + 1))) := by
            have h := HS.out
            unfold Hid
            rw [show i - 1 + 1 = i by omega, ← HM.out]
            exact insert_srt2 ordP h (by have := HM.out; omega) hjb HJ.out (HI.out.imp (fun h => by have := HM.out; omega) id)
          clear ha
          go_wp2_with (fail)
          go_end0
          exact ⟨rfl, _, HA2.out, HIN.out.1, HIN.out.2, HG.out⟩

set_option maxRecDepth 100000 in
set_option maxHeartbeats 8000000 in
theorem merge_right (base n a m : Nat) (sv : Value) (D : Nat → Pt) (w : World) (h : At w base n sv D) (hn : n ≤ 1000) (ham : a + 1 < m) (hb : m + 1 ≤ n) (hs : Srt ltP D a m) :
    Calls Try.prog 48 #[sv, .int .i64 a, .int .i64 m, .int .i64 ((m + 1 : Nat) : Int), .func (.func 23) #[] #[]] w (SrtP base n a (m + 1) sv D w) := by
  obtain ⟨g, cp, rfl, hlt0, -⟩ := h.cells (k := 0) (by omega)
  obtain ⟨b, hm⟩ : ∃ b, m + 1 = b := ⟨_, rfl⟩
  rw [hm]
  have H := Bas.hid h
  have HS := Bas.hid hs
  have HM := Bas.hid hm
  have hmb : m < b := by omega
  have hbn : b ≤ n := by omega
  have mixed : Try.prog.follows .mixedOrders = true := by kernel_rfl
  have z00 : ((m : Int) - (a : Int) == 1) = false := by simp; omega
  have z0 : (b : Int) - (m : Int) = 1 := by omega
  clear h hs hm
  go_enter Try.func48, Try.ntmps48
  go_wp2_with (fail)
  go_loopw [14, 15] (fun vi vj wr => ∃ i j : Nat, a ≤ i ∧ i ≤ j ∧ j ≤ m ∧ vi = .int .i64 i ∧ vj = .int .i64 j ∧ (i = a ∨ ltP (D m) (D (i - 1)) = false) ∧ (j = m ∨ ltP (D m) (D j) = true) ∧ At wr base n (.slice (some ⟨g, 0, none⟩) n cp) D ∧ w.grownBy wr (some g)) (fun vi vj _ => (intOf vj).toNat - (intOf vi).toNat)
  case atStart => exact ⟨a, m, Nat.le_refl _, by omega, Nat.le_refl _, rfl, rfl, .inl rfl, .inl rfl, H.out, Bas.grefl _ _⟩
  case round =>
    obtain ⟨i, j, hmi, hij, hjb, rfl, rfl, hi, hj, ha, hg⟩ := hrel
    have HI := Bas.hid hi
    have HJ := Bas.hid hj
    have HA := Bas.hid ha
    have HG := Bas.hid hg
    clear hi hj hg
    by_cases hlt : i < j
    · have e1 : decide ((i : Int) < (j : Int)) = true := by simp; omega
      have e2 : decide (i < j) = true := by simp; omega
      obtain ⟨x, hx⟩ : ∃ x, (i + j) / 2 = x := ⟨_, rfl⟩
      have eh : ((i : Int) + (j : Int)) / 2 = (x : Int) := by omega
      have hx1 : i ≤ x := by omega
      have hx2 : x < j := by omega
      clear hx
      obtain ⟨g1, c1, hv1, hlt1, hbb, p0, p1, -⟩ := ha.cells (k := m) (by omega)
      cases hv1
      obtain ⟨g2, c2, hv2, _, _, q0, q1, -⟩ := ha.cells (k := x) (by omega)
      cases hv2
      obtain ⟨⟨s0, x0, l0, k0⟩, hd0⟩ : ∃ p, D (m) = p := ⟨_, rfl⟩
      obtain ⟨⟨s1, x1, l1, k1⟩, hd1⟩ : ∃ p, D (x) = p := ⟨_, rfl⟩
      rw [hd0] at p0 p1
      rw [hd1] at q0 q1
      have HD0 := Bas.hid hd0
      have HD1 := Bas.hid hd1
      have hcmp := fun u => cmp1_any (s0, x0, l0, k0) (s1, x1, l1, k1) u
      simp only at p0 p1 q0 q1 hcmp
      have HCM := Bas.hid hcmp
      have g5 : decide (((m : Nat) : Int) < (n : Int)) = true := by simp; omega
      have g6 : decide (((x : Nat) : Int) < (n : Int)) = true := by simp; omega
      clear ha hd0 hd1 hcmp
      cases hlv : ltS s0 s1
      case true =>
        have g7 : decide (cmpS s0 s1 < 0) = true := decide_eq_true ((cmpS_neg s0 s1).2 hlv)
        have HLV : Hid (ltP (D (m)) (D (x)) = true) := by unfold Hid; rw [HD0.out, HD1.out]; exact hlv
        clear hlv
        go_wp2_with (fail)
        refine' Pl.region_v0 220 [] [0, 1, 2, 3, 4, 5, 6, 7, 8, 9, 10, 11] [] _ (by kernel_rfl) (by kernel_rfl) (by simp) (fun _ _ _ _ e h => ⟨e ▸ h.1, h.2⟩) ?_ ?_
        rotate_left
        · intro I F hI hF
          simp only [Pl.selN, List.nil_append, List.drop_succ_cons, List.drop_zero]
          have t0 := fun i => hF.cell hlt1 p0 i
          have t1 := fun i => hF.cell hlt1 p1 i
          have t2 := fun i => hF.cell hlt1 q0 i
          have t3 := fun i => hF.cell hlt1 q1 i
          repeat (go_big_quiet_step ((go_at_call 23; exact hF.call (HCM.out _))))
          refine wpQuiet_nil ?_
          rfl
        intro w5 hw5
        simp only [Pl.selN]
        have HA5 := Bas.hid (HA.out.below hw5)
        have HG5 := Bas.hid (Bas.gbelow HG.out hw5)
        clear p0 p1 q0 q1 hlt1 hw5 g7 g5 g6 
        go_wp2_with (fail)
        go_roundw
        case rel => exact ⟨i, x, hmi, hx1, by omega, rfl, rfl, HI.out, .inr HLV.out, HA5.out, HG5.out⟩
        case measure => simp [intOf]; omega
      case false =>
        have g7 : decide (cmpS s0 s1 < 0) = false := (by rw [decide_eq_false_iff_not, cmpS_neg, hlv]; simp)
        have HLV : Hid (ltP (D (m)) (D (x)) = false) := by unfold Hid; rw [HD0.out, HD1.out]; exact hlv
        clear hlv
        go_wp2_with (fail)
        refine' Pl.region_v0 220 [] [0, 1, 2, 3, 4, 5, 6, 7, 8, 9, 10, 11] [] _ (by kernel_rfl) (by kernel_rfl) (by simp) (fun _ _ _ _ e h => ⟨e ▸ h.1, h.2⟩) ?_ ?_
        rotate_left
        · intro I F hI hF
          simp only [Pl.selN, List.nil_append, List.drop_succ_cons, List.drop_zero]
          have t0 := fun i => hF.cell hlt1 p0 i
          have t1 := fun i => hF.cell hlt1 p1 i
          have t2 := fun i => hF.cell hlt1 q0 i
          have t3 := fun i => hF.cell hlt1 q1 i
          repeat (go_big_quiet_step ((go_at_call 23; exact hF.call (HCM.out _))))
          refine wpQuiet_nil ?_
          rfl
        intro w5 hw5
        simp only [Pl.selN]
        have HA5 := Bas.hid (HA.out.below hw5)
        have HG5 := Bas.hid (Bas.gbelow HG.out hw5)
        clear p0 p1 q0 q1 hlt1 hw5 g7 g5 g6 
        go_wp2_with (fail)
        go_roundw
        case rel => exact ⟨x + 1, j, by omega, by omega, hjb, by go_num, rfl, .inr HLV.out, HJ.out, HA5.out, HG5.out⟩
        case measure => simp [intOf]; omega
    · obtain rfl : i = j := by omega
      have e1 : decide ((i : Int) < (i : Int)) = false := by simp
      clear ha
      go_wp2_with (fail)
      go_loopw [17] (fun vk w2 => ∃ k : Nat, i ≤ k ∧ k ≤ m ∧ vk = .int .i64 k ∧ At w2 base n (.slice (some ⟨g, 0, none⟩) n cp) (rot D k m b) ∧ w.grownBy w2 (some g)) (fun vk _ => (intOf vk).toNat)
      case atStart => exact ⟨m, hjb, Nat.le_refl _, rfl, by rw [rot_none D (.inl rfl) (Nat.le_refl _) (by omega)]; exact HA.out, HG.out⟩
      case round =>
        obtain ⟨k, hak, hki, rfl, ha, hg⟩ := hrel
        have HA2 := Bas.hid ha
        have HG := Bas.hid hg
        clear hg
        by_cases hk : i < k
        · have f1 : decide ((i : Int) < (k : Int)) = true := by simp; omega
          have f2 : decide (i < k) = true := by simp; omega
          have z1 : IntKind.i64.wrap ((k : Int) - 1) = ((k - 1 : Nat) : Int) := by rw [IntKind.wrap_i64]; omega
          have z2 : (k : Int) - 1 = ((k - 1 : Nat) : Int) := by omega
          have HRD : Hid (sw (rot D k m b) k (k - 1) = rot D (k - 1) m b) := by unfold Hid; rw [← HM.out]; exact rot_down D (by omega) hki
          obtain ⟨_, _, hv3, _, _, p0, p1, hfr⟩ := ha.cells (k := k) (by omega)
          cases hv3
          obtain ⟨_, _, hv4, _, _, q0, q1, _⟩ := ha.cells (k := k - 1) (by omega)
          cases hv4
          have f4 := hfr ((k) * 2)
          have f5 := hfr ((k) * 2 + 1)
          have f6 := hfr ((k - 1) * 2)
          have f7 := hfr ((k - 1) * 2 + 1)
          have HSW := Bas.hid (At.swap ha (i := k) (j := k - 1) (by omega) (by omega))
          obtain ⟨⟨s0, x0, l0, k0⟩, hd0⟩ : ∃ p, rot D k m b (k) = p := ⟨_, rfl⟩
          obtain ⟨⟨s1, x1, l1, k1⟩, hd1⟩ : ∃ p, rot D k m b (k - 1) = p := ⟨_, rfl⟩
          rw [hd0] at p0 p1 HSW
          rw [hd1] at q0 q1 HSW
          simp only at p0 p1 q0 q1 HSW
          have g5 : decide (((k : Nat) : Int) < (n : Int)) = true := by simp; omega
          have g6 : decide (((k - 1 : Nat) : Int) < (n : Int)) = true := by simp; omega
          clear ha hfr hd0 hd1
          go_wp2_with (fail)
          go_big_region_o
          have HG6 := Bas.hid (Bas.gset (Bas.gset (Bas.gset (Bas.gset HG.out ((k) * 2) (.string s1)) ((k) * 2 + 1) (.slice x1 l1 k1)) ((k - 1) * 2) (.string s0)) ((k - 1) * 2 + 1) (.slice x0 l0 k0))
          clear p0 p1 q0 q1 f4 f5 f6 f7 g5 g6
          go_wp2_with (fail)
          go_roundw
          case rel => exact ⟨k - 1, by omega, by omega, rfl, by rw [← HRD.out]; exact HSW.out, Bas.gbelow HG6.out ((Below.refl _ _).drew)⟩
          case measure => simp [intOf]; omega
        · obtain rfl : k = i := by omega
          have f1 : decide ((k : Int) < (k : Int)) = false := by simp
          have HIN : Hid (Srt ltP (rot D k m b) a b ∧ Pm a b D (rot D k m b)) := by
            unfold Hid
            rw [← HM.out]
            exact insert_srt ordP HS.out hmi hjb HI.out HJ.out
          clear ha
          go_wp2_with (fail)
          go_end0
          exact ⟨rfl, _, HA2.out, HIN.out.1, HIN.out.2, HG.out⟩
end Sy
end Go.Proofs.Ytkmbeohheblhhaa
