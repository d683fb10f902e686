/- slices.SortStableFunc at parts: two sorted rows become one, whole. -/
import Derived.Test.YtkmbeohheblhhaaSymM
namespace Go.Proofs.Ytkmbeohheblhhaa
open Go.RowKit
namespace Sy
open Fo

set_option maxRecDepth 100000 in
set_option maxHeartbeats 16000000 in
theorem merge_mid (base n a m b : Nat) (sv : Value) (D : Nat → Pt) (w : World) (h : At w base n sv D) (hn : n ≤ 1000) (ham : a + 1 < m) (hmb : m + 1 < b) (hb : b ≤ n) (hs1 : Srt ltP D a m) (hs2 : Srt ltP D m b)
    (ih : ∀ (a' m' b' : Nat) (D' : Nat → Pt) (w' : World), At w' base n sv D' → b' - a' < b - a → a' < m' → m' < b' → b' ≤ n → Srt ltP D' a' m' → Srt ltP D' m' b' → Calls Try.prog 48 #[sv, .int .i64 a', .int .i64 m', .int .i64 b', .func (.func 23) #[] #[]] w' (SrtP base n a' b' sv D' w')) :
    Calls Try.prog 48 #[sv, .int .i64 a, .int .i64 m, .int .i64 b, .func (.func 23) #[] #[]] w (SrtP base n a b sv D w) := by
  obtain ⟨g, cp, rfl, hlt0, -⟩ := h.cells (k := 0) (by omega)
  have H := Bas.hid h
  have HS1 := Bas.hid hs1
  have HS2 := Bas.hid hs2
  have mixed : Try.prog.follows .mixedOrders = true := by kernel_rfl
  have z00 : ((m : Int) - (a : Int) == 1) = false := by simp; omega
  have z01 : ((b : Int) - (m : Int) == 1) = false := by simp; omega
  obtain ⟨mid, hmid⟩ : ∃ mid, (a + b) / 2 = mid := ⟨_, rfl⟩
  have z02 : ((a : Int) + (b : Int)) / 2 = (mid : Int) := by omega
  have hm1 : 2 * mid ≤ a + b := by omega
  have hm2 : a + b ≤ 2 * mid + 1 := by omega
  obtain ⟨N1, hN1⟩ : ∃ N1, mid + m = N1 := ⟨_, rfl⟩
  have z03 : (mid : Int) + (m : Int) = (N1 : Int) := by omega
  obtain ⟨P, hP⟩ : ∃ P, N1 - 1 = P := ⟨_, rfl⟩
  have z04 : IntKind.i64.wrap ((N1 : Int) - 1) = (P : Int) := by rw [IntKind.wrap_i64]; omega
  have z05 : (N1 : Int) - 1 = (P : Int) := by omega
  have hN2 : N1 ≤ mid + m := by omega
  have hN3 : mid + m ≤ N1 := by omega
  have hP2 : P + 1 ≤ N1 := by omega
  have hP3 : N1 ≤ P + 1 := by omega
  clear h hs1 hs2 hmid hN1 hP
  by_cases hmm : mid < m
  · have y1 : decide ((m : Int) > (mid : Int)) = true := by simp; omega
    have y2 : decide ((mid : Int) < (m : Int)) = true := by simp; omega
    obtain ⟨q, hq⟩ : ∃ q, N1 - b = q := ⟨_, rfl⟩
    have y3 : IntKind.i64.wrap ((N1 : Int) - (b : Int)) = (q : Int) := by rw [IntKind.wrap_i64]; omega
    have y4 : (N1 : Int) - (b : Int) = (q : Int) := by omega
    have hq1 : q + b ≤ N1 := by omega
    have hq2 : N1 ≤ q + b := by omega
    clear hq
    go_enter Try.func48, Try.ntmps48
    go_wp2_with (fail)
    go_loopw [20, 21] (fun vi vj wr => ∃ s r : Nat, q ≤ s ∧ s ≤ r ∧ r ≤ mid ∧ vi = .int .i64 s ∧ vj = .int .i64 r ∧ (s = a ∨ N1 - s = b ∨ ltP (D (N1 - s)) (D (s - 1)) = false) ∧ (r = m ∨ N1 - r = m ∨ ltP (D (P - r)) (D r) = true) ∧ At wr base n (.slice (some ⟨g, 0, none⟩) n cp) D ∧ w.grownBy wr (some g)) (fun vi vj _ => (intOf vj).toNat - (intOf vi).toNat)
    case atStart => exact ⟨q, mid, Nat.le_refl _, by omega, Nat.le_refl _, rfl, rfl, .inr (.inl (by omega)), .inr (.inl (by omega)), H.out, Bas.grefl _ _⟩
    case round =>
      obtain ⟨s, r, hls, hsr, hrh, rfl, rfl, hi, hj, ha, hg⟩ := hrel
      have HI := Bas.hid hi
      have HJ := Bas.hid hj
      have HA := Bas.hid ha
      have HG := Bas.hid hg
      clear hi hj hg
      by_cases hlt : s < r
      · have e1 : decide ((s : Int) < (r : Int)) = true := by simp; omega
        have e2 : decide (s < r) = true := by simp; omega
        obtain ⟨x, hx⟩ : ∃ x, (s + r) / 2 = x := ⟨_, rfl⟩
        have eh : ((s : Int) + (r : Int)) / 2 = (x : Int) := by omega
        have hx1 : s ≤ x := by omega
        have hx2 : x < r := by omega
        have z3 : IntKind.i64.wrap ((P : Int) - (x : Int)) = ((P - x : Nat) : Int) := by rw [IntKind.wrap_i64]; omega
        have z4 : (P : Int) - (x : Int) = ((P - x : Nat) : Int) := by omega
        clear hx
        obtain ⟨g1, c1, hv1, hlt1, hbb, p0, p1, -⟩ := ha.cells (k := P - x) (by omega)
        cases hv1
        obtain ⟨g2, c2, hv2, _, _, q0, q1, -⟩ := ha.cells (k := x) (by omega)
        cases hv2
        obtain ⟨⟨s0, x0, l0, k0⟩, hd0⟩ : ∃ p, D (P - x) = p := ⟨_, rfl⟩
        obtain ⟨⟨s1, x1, l1, k1⟩, hd1⟩ : ∃ p, D (x) = p := ⟨_, rfl⟩
        rw [hd0] at p0 p1
        rw [hd1] at q0 q1
        have HD0 := Bas.hid hd0
        have HD1 := Bas.hid hd1
        have hcmp := fun u => cmp1_any (s0, x0, l0, k0) (s1, x1, l1, k1) u
        simp only at p0 p1 q0 q1 hcmp
        have HCM := Bas.hid hcmp
        have g5 : decide (((P - x : Nat) : Int) < (n : Int)) = true := by simp; omega
        have g6 : decide (((x : Nat) : Int) < (n : Int)) = true := by simp; omega
        clear ha hd0 hd1 hcmp
        cases hlv : ltS s0 s1
        case true =>
          have g7 : decide (cmpS s0 s1 < 0) = true := decide_eq_true ((cmpS_neg s0 s1).2 hlv)
          have HLV : Hid (ltP (D (P - x)) (D (x)) = true) := by unfold Hid; rw [HD0.out, HD1.out]; exact hlv
          clear hlv
          go_wp2_with (fail)
          refine' Pl.region_v0 220 [] [0, 1, 2, 3, 4, 5, 6, 7, 8, 9, 10, 11, 12, 13] [] _ (by kernel_rfl) (by kernel_rfl) (by simp) (fun _ _ _ _ e h => ⟨e ▸ h.1, h.2⟩) ?_ ?_
          rotate_left
          · intro I F hI hF
            simp only [Pl.selN, List.nil_append, List.drop_succ_cons, List.drop_zero]
            have t0 := fun i => hF.cell hlt1 p0 i
            have t1 := fun i => hF.cell hlt1 p1 i
            have t2 := fun i => hF.cell hlt1 q0 i
            have t3 := fun i => hF.cell hlt1 q1 i
            repeat (go_big_quiet_step ((go_at_call 23; exact hF.call (HCM.out _))))
            refine wpQuiet_nil ?_
            rfl
          intro w5 hw5
          simp only [Pl.selN]
          have HA5 := Bas.hid (HA.out.below hw5)
          have HG5 := Bas.hid (Bas.gbelow HG.out hw5)
          clear p0 p1 q0 q1 hlt1 hw5 g7 g5 g6 
          go_wp2_with (fail)
          go_roundw
          case rel => exact ⟨s, x, hls, hx1, by omega, rfl, rfl, HI.out, .inr (.inr HLV.out), HA5.out, HG5.out⟩
          case measure => simp [intOf]; omega
        case false =>
          have g7 : decide (cmpS s0 s1 < 0) = false := (by rw [decide_eq_false_iff_not, cmpS_neg, hlv]; simp)
          have HLV : Hid (ltP (D (P - x)) (D (x)) = false) := by unfold Hid; rw [HD0.out, HD1.out]; exact hlv
          clear hlv
          go_wp2_with (fail)
          refine' Pl.region_v0 220 [] [0, 1, 2, 3, 4, 5, 6, 7, 8, 9, 10, 11, 12, 13] [] _ (by kernel_rfl) (by kernel_rfl) (by simp) (fun _ _ _ _ e h => ⟨e ▸ h.1, h.2⟩) ?_ ?_
          rotate_left
          · intro I F hI hF
            simp only [Pl.selN, List.nil_append, List.drop_succ_cons, List.drop_zero]
            have t0 := fun i => hF.cell hlt1 p0 i
            have t1 := fun i => hF.cell hlt1 p1 i
            have t2 := fun i => hF.cell hlt1 q0 i
            have t3 := fun i => hF.cell hlt1 q1 i
            repeat (go_big_quiet_step ((go_at_call 23; exact hF.call (HCM.out _))))
            refine wpQuiet_nil ?_
            rfl
          intro w5 hw5
          simp only [Pl.selN]
          have HA5 := Bas.hid (HA.out.below hw5)
          have HG5 := Bas.hid (Bas.gbelow HG.out hw5)
          clear p0 p1 q0 q1 hlt1 hw5 g7 g5 g6 
          go_wp2_with (fail)
          go_roundw
          case rel => exact ⟨x + 1, r, by omega, by omega, hrh, by go_num, rfl, .inr (.inr (by have h := HLV.out; rw [show N1 - (x + 1) = P - x by omega]; exact h)), HJ.out, HA5.out, HG5.out⟩
          case measure => simp [intOf]; omega
      · obtain rfl : s = r := by omega
        have e1 : decide ((s : Int) < (s : Int)) = false := by simp
        obtain ⟨e, he⟩ : ∃ e, N1 - s = e := ⟨_, rfl⟩
        have z5 : IntKind.i64.wrap ((N1 : Int) - (s : Int)) = (e : Int) := by rw [IntKind.wrap_i64]; omega
        have z6 : (N1 : Int) - (s : Int) = (e : Int) := by omega
        have has : a ≤ s := by omega
        have hsm' : s ≤ m := by omega
        have hme : m ≤ e := by omega
        have heb : e ≤ b := by omega
        have HLO : Hid (s = a ∨ e = b ∨ ltP (D e) (D (s - 1)) = false) := by have h := HI.out; rw [he] at h; exact h
        have HHI : Hid (s = m ∨ e = m ∨ ltP (D (e - 1)) (D s) = true) := by have h := HJ.out; rw [he, show P - s = e - 1 by omega] at h; exact h
        clear HI HJ e1
        have e1 : decide ((s : Int) < (s : Int)) = false := by simp
        by_cases hsm : s = m
        · by_cases hem : e = m
          · exfalso; omega
          · exfalso; omega
        · by_cases hem : e = m
          · obtain rfl : e = m := hem
            obtain rfl : mid = s := by omega
            have f1 : decide ((mid : Int) < (e : Int)) = true := by simp; omega
            have f2 : decide ((e : Int) < (e : Int)) = false := by simp
            have f3 : decide ((a : Int) < (mid : Int)) = true := by simp; omega
            have f4 : decide ((mid : Int) < (mid : Int)) = false := by simp
            have f6 : decide ((e : Int) < (b : Int)) = true := by simp; omega
            have HC := Bas.hid (ih mid e b D wr ha (by omega) (by omega) (by omega) (by omega) (HS1.out.part (by omega) (Nat.le_refl _)) HS2.out)
            clear ha
            go_wp2_with (fail)
            refine HC.out.mono ?_
            rintro e7 w7 ⟨rfl, E2, ha7, hs7, hp7, hg7⟩
            have HA7 := Bas.hid ha7
            have HG7 := Bas.hid (Bas.gtrans HG.out hg7)
            have HX : Hid (Srt ltP E2 a b ∧ Pm a b D E2) := by
              have hr : rot D mid e e = D := rot_none D (.inr rfl) (by omega) (by omega)
              exact merge_srt (s := mid) (e := e) (d2 := D) ordP HS1.out HS2.out has hsm' hme heb HLO.out (.inr (.inl rfl)) (by omega) (by rw [hr]; exact Pm.refl _ _ _) (HS1.out.part (Nat.le_refl _) (by omega)) hp7 hs7
            clear ha7 hs7 hp7 hg7 HC
            go_wp2_with (fail)
            go_end0
            exact ⟨rfl, E2, HA7.out, HX.out.1, HX.out.2, HG7.out⟩
          · have hsm : s < m := by omega
            have hem : m < e := by omega
            by_cases has2 : a < s
            · by_cases heb2 : e < b
              · have f1 : decide ((s : Int) < (m : Int)) = true := by simp; omega
                have f2 : decide ((m : Int) < (e : Int)) = true := by simp; omega
                have f4 : decide ((s : Int) < (mid : Int)) = true := by simp; omega
                have f5 : decide ((mid : Int) < (e : Int)) = true := by simp; omega
                have HC := Bas.hid (rotate_any base n s m e _ D wr ha hn hsm hem (by omega))
                clear ha
                have hz : mid = s + (e - m) := by omega
                have HZ := Bas.hid hz
                clear hz
                have HD1 := Bas.hid (rot_srt1 (e := e) HS1.out hsm' hme)
                have HD2 : Hid (Srt ltP (rot D s m e) s mid) := by unfold Hid; rw [HZ.out]; exact rot_srt2 HS2.out hsm' heb
                have HD3 : Hid (Srt ltP (rot D s m e) mid e) := by unfold Hid; rw [HZ.out]; exact rot_srt3 HS1.out has hme
                have HD4 := Bas.hid (rot_srt4 (s := s) HS2.out hsm' hme)
                have f3 : decide ((a : Int) < (s : Int)) = true := by simp; omega
                have f6 : decide ((e : Int) < (b : Int)) = true := by simp; omega
                go_wp2_with (fail)
                refine HC.out.mono ?_
                rintro e6 w6 ⟨rfl, ha6, hg6⟩
                have HG6 := Bas.hid (Bas.gtrans HG.out hg6)
                clear hg6 HC
                have HC7 := Bas.hid (ih a s mid _ w6 ha6 (by omega) (by omega) (by omega) (by omega) HD1.out HD2.out)
                clear ha6
                go_wp2_with (fail)
                refine HC7.out.mono ?_
                rintro e7 w7 ⟨rfl, E2, ha7, hs7, hp7, hg7⟩
                have HG7 := Bas.hid (Bas.gtrans HG6.out hg7)
                have HS7 := Bas.hid hs7
                have HP7 := Bas.hid hp7
                clear hs7 hp7 hg7 HC7
                have HE3 : Hid (Srt ltP E2 mid e) := HD3.out.same fun i h1 _ => HP7.out.out (.inr h1)
                have HE4 : Hid (Srt ltP E2 e b) := HD4.out.same fun i h1 _ => HP7.out.out (.inr (by omega))
                have HC8 := Bas.hid (ih mid e b _ w7 ha7 (by omega) (by omega) (by omega) (by omega) HE3.out HE4.out)
                clear ha7
                go_wp2_with (fail)
                refine HC8.out.mono ?_
                rintro e8 w8 ⟨rfl, E3, ha8, hs8, hp8, hg8⟩
                have HA8 := Bas.hid ha8
                have HG8 := Bas.hid (Bas.gtrans HG7.out hg8)
                have HX : Hid (Srt ltP E3 a b ∧ Pm a b D E3) := merge_srt ordP HS1.out HS2.out has hsm' hme heb HLO.out HHI.out HZ.out HP7.out HS7.out hp8 hs8
                clear ha8 hs8 hp8 hg8 HC8
                go_wp2_with (fail)
                go_end0
                exact ⟨rfl, E3, HA8.out, HX.out.1, HX.out.2, HG8.out⟩
              · have f1 : decide ((s : Int) < (m : Int)) = true := by simp; omega
                have f2 : decide ((m : Int) < (e : Int)) = true := by simp; omega
                have f4 : decide ((s : Int) < (mid : Int)) = true := by simp; omega
                have f5 : decide ((mid : Int) < (e : Int)) = true := by simp; omega
                have HC := Bas.hid (rotate_any base n s m e _ D wr ha hn hsm hem (by omega))
                clear ha
                have hz : mid = s + (e - m) := by omega
                have HZ := Bas.hid hz
                clear hz
                have HD1 := Bas.hid (rot_srt1 (e := e) HS1.out hsm' hme)
                have HD2 : Hid (Srt ltP (rot D s m e) s mid) := by unfold Hid; rw [HZ.out]; exact rot_srt2 HS2.out hsm' heb
                have HD3 : Hid (Srt ltP (rot D s m e) mid e) := by unfold Hid; rw [HZ.out]; exact rot_srt3 HS1.out has hme
                have HD4 := Bas.hid (rot_srt4 (s := s) HS2.out hsm' hme)
                have f3 : decide ((a : Int) < (s : Int)) = true := by simp; omega
                have f6 : decide ((e : Int) < (b : Int)) = false := by simp; omega
                go_wp2_with (fail)
                refine HC.out.mono ?_
                rintro e6 w6 ⟨rfl, ha6, hg6⟩
                have HG6 := Bas.hid (Bas.gtrans HG.out hg6)
                clear hg6 HC
                have HC7 := Bas.hid (ih a s mid _ w6 ha6 (by omega) (by omega) (by omega) (by omega) HD1.out HD2.out)
                clear ha6
                go_wp2_with (fail)
                refine HC7.out.mono ?_
                rintro e7 w7 ⟨rfl, E2, ha7, hs7, hp7, hg7⟩
                have HG7 := Bas.hid (Bas.gtrans HG6.out hg7)
                have HS7 := Bas.hid hs7
                have HP7 := Bas.hid hp7
                clear hs7 hp7 hg7 HC7
                have HE3 : Hid (Srt ltP E2 mid e) := HD3.out.same fun i h1 _ => HP7.out.out (.inr h1)
                have HE4 : Hid (Srt ltP E2 e b) := HD4.out.same fun i h1 _ => HP7.out.out (.inr (by omega))
                have HA7 := Bas.hid ha7
                have HX : Hid (Srt ltP E2 a b ∧ Pm a b D E2) := merge_srt ordP HS1.out HS2.out has hsm' hme heb HLO.out HHI.out HZ.out HP7.out HS7.out (Pm.refl _ _ _) (by rw [show b = e by omega]; exact HE3.out)
                clear ha7
                go_wp2_with (fail)
                go_end0
                exact ⟨rfl, E2, HA7.out, HX.out.1, HX.out.2, HG7.out⟩
            · by_cases heb2 : e < b
              · exfalso; omega
              · have f1 : decide ((s : Int) < (m : Int)) = true := by simp; omega
                have f2 : decide ((m : Int) < (e : Int)) = true := by simp; omega
                have f4 : decide ((s : Int) < (mid : Int)) = true := by simp; omega
                have f5 : decide ((mid : Int) < (e : Int)) = true := by simp; omega
                have HC := Bas.hid (rotate_any base n s m e _ D wr ha hn hsm hem (by omega))
                clear ha
                have hz : mid = s + (e - m) := by omega
                have HZ := Bas.hid hz
                clear hz
                have HD1 := Bas.hid (rot_srt1 (e := e) HS1.out hsm' hme)
                have HD2 : Hid (Srt ltP (rot D s m e) s mid) := by unfold Hid; rw [HZ.out]; exact rot_srt2 HS2.out hsm' heb
                have HD3 : Hid (Srt ltP (rot D s m e) mid e) := by unfold Hid; rw [HZ.out]; exact rot_srt3 HS1.out has hme
                have HD4 := Bas.hid (rot_srt4 (s := s) HS2.out hsm' hme)
                have f3 : decide ((a : Int) < (s : Int)) = false := by simp; omega
                have f6 : decide ((e : Int) < (b : Int)) = false := by simp; omega
                go_wp2_with (fail)
                refine HC.out.mono ?_
                rintro e6 w6 ⟨rfl, ha6, hg6⟩
                have HG6 := Bas.hid (Bas.gtrans HG.out hg6)
                clear hg6 HC
                obtain ⟨E2, hE2⟩ : ∃ E2, rot D s m e = E2 := ⟨_, rfl⟩
                obtain ⟨w7, hw7⟩ : ∃ w7, w6 = w7 := ⟨_, rfl⟩
                have ha7 : At w6 base n (.slice (some ⟨g, 0, none⟩) n cp) E2 := hE2 ▸ ha6
                have HS7 : Hid (Srt ltP E2 a mid) := by unfold Hid; rw [← hE2, show a = s by omega]; exact HD2.out
                have HP7 : Hid (Pm a mid (rot D s m e) E2) := by unfold Hid; rw [hE2]; exact Pm.refl _ _ _
                have HG7 := HG6
                rw [hw7] at HG7 ha7 ⊢
                clear hE2 hw7 ha6
                have HE3 : Hid (Srt ltP E2 mid e) := HD3.out.same fun i h1 _ => HP7.out.out (.inr h1)
                have HE4 : Hid (Srt ltP E2 e b) := HD4.out.same fun i h1 _ => HP7.out.out (.inr (by omega))
                have HA7 := Bas.hid ha7
                have HX : Hid (Srt ltP E2 a b ∧ Pm a b D E2) := merge_srt ordP HS1.out HS2.out has hsm' hme heb HLO.out HHI.out HZ.out HP7.out HS7.out (Pm.refl _ _ _) (by rw [show b = e by omega]; exact HE3.out)
                clear ha7
                go_wp2_with (fail)
                go_end0
                exact ⟨rfl, E2, HA7.out, HX.out.1, HX.out.2, HG7.out⟩
  · have y1 : decide ((m : Int) > (mid : Int)) = false := by simp; omega
    have y2 : decide ((mid : Int) < (m : Int)) = false := by simp; omega
    go_enter Try.func48, Try.ntmps48
    go_wp2_with (fail)
    go_loopw [20, 21] (fun vi vj wr => ∃ s r : Nat, a ≤ s ∧ s ≤ r ∧ r ≤ m ∧ vi = .int .i64 s ∧ vj = .int .i64 r ∧ (s = a ∨ N1 - s = b ∨ ltP (D (N1 - s)) (D (s - 1)) = false) ∧ (r = m ∨ N1 - r = m ∨ ltP (D (P - r)) (D r) = true) ∧ At wr base n (.slice (some ⟨g, 0, none⟩) n cp) D ∧ w.grownBy wr (some g)) (fun vi vj _ => (intOf vj).toNat - (intOf vi).toNat)
    case atStart => exact ⟨a, m, Nat.le_refl _, by omega, Nat.le_refl _, rfl, rfl, .inl rfl, .inl rfl, H.out, Bas.grefl _ _⟩
    case round =>
      obtain ⟨s, r, hls, hsr, hrh, rfl, rfl, hi, hj, ha, hg⟩ := hrel
      have HI := Bas.hid hi
      have HJ := Bas.hid hj
      have HA := Bas.hid ha
      have HG := Bas.hid hg
      clear hi hj hg
      by_cases hlt : s < r
      · have e1 : decide ((s : Int) < (r : Int)) = true := by simp; omega
        have e2 : decide (s < r) = true := by simp; omega
        obtain ⟨x, hx⟩ : ∃ x, (s + r) / 2 = x := ⟨_, rfl⟩
        have eh : ((s : Int) + (r : Int)) / 2 = (x : Int) := by omega
        have hx1 : s ≤ x := by omega
        have hx2 : x < r := by omega
        have z3 : IntKind.i64.wrap ((P : Int) - (x : Int)) = ((P - x : Nat) : Int) := by rw [IntKind.wrap_i64]; omega
        have z4 : (P : Int) - (x : Int) = ((P - x : Nat) : Int) := by omega
        clear hx
        obtain ⟨g1, c1, hv1, hlt1, hbb, p0, p1, -⟩ := ha.cells (k := P - x) (by omega)
        cases hv1
        obtain ⟨g2, c2, hv2, _, _, q0, q1, -⟩ := ha.cells (k := x) (by omega)
        cases hv2
        obtain ⟨⟨s0, x0, l0, k0⟩, hd0⟩ : ∃ p, D (P - x) = p := ⟨_, rfl⟩
        obtain ⟨⟨s1, x1, l1, k1⟩, hd1⟩ : ∃ p, D (x) = p := ⟨_, rfl⟩
        rw [hd0] at p0 p1
        rw [hd1] at q0 q1
        have HD0 := Bas.hid hd0
        have HD1 := Bas.hid hd1
        have hcmp := fun u => cmp1_any (s0, x0, l0, k0) (s1, x1, l1, k1) u
        simp only at p0 p1 q0 q1 hcmp
        have HCM := Bas.hid hcmp
        have g5 : decide (((P - x : Nat) : Int) < (n : Int)) = true := by simp; omega
        have g6 : decide (((x : Nat) : Int) < (n : Int)) = true := by simp; omega
        clear ha hd0 hd1 hcmp
        cases hlv : ltS s0 s1
        case true =>
          have g7 : decide (cmpS s0 s1 < 0) = true := decide_eq_true ((cmpS_neg s0 s1).2 hlv)
          have HLV : Hid (ltP (D (P - x)) (D (x)) = true) := by unfold Hid; rw [HD0.out, HD1.out]; exact hlv
          clear hlv
          go_wp2_with (fail)
          refine' Pl.region_v0 220 [] [0, 1, 2, 3, 4, 5, 6, 7, 8, 9, 10, 11, 12, 13] [] _ (by kernel_rfl) (by kernel_rfl) (by simp) (fun _ _ _ _ e h => ⟨e ▸ h.1, h.2⟩) ?_ ?_
          rotate_left
          · intro I F hI hF
            simp only [Pl.selN, List.nil_append, List.drop_succ_cons, List.drop_zero]
            have t0 := fun i => hF.cell hlt1 p0 i
            have t1 := fun i => hF.cell hlt1 p1 i
            have t2 := fun i => hF.cell hlt1 q0 i
            have t3 := fun i => hF.cell hlt1 q1 i
            repeat (go_big_quiet_step ((go_at_call 23; exact hF.call (HCM.out _))))
            refine wpQuiet_nil ?_
            rfl
          intro w5 hw5
          simp only [Pl.selN]
          have HA5 := Bas.hid (HA.out.below hw5)
          have HG5 := Bas.hid (Bas.gbelow HG.out hw5)
          clear p0 p1 q0 q1 hlt1 hw5 g7 g5 g6 
          go_wp2_with (fail)
          go_roundw
          case rel => exact ⟨s, x, hls, hx1, by omega, rfl, rfl, HI.out, .inr (.inr HLV.out), HA5.out, HG5.out⟩
          case measure => simp [intOf]; omega
        case false =>
          have g7 : decide (cmpS s0 s1 < 0) = false := (by rw [decide_eq_false_iff_not, cmpS_neg, hlv]; simp)
          have HLV : Hid (ltP (D (P - x)) (D (x)) = false) := by unfold Hid; rw [HD0.out, HD1.out]; exact hlv
          clear hlv
          go_wp2_with (fail)
          refine' Pl.region_v0 220 [] [0, 1, 2, 3, 4, 5, 6, 7, 8, 9, 10, 11, 12, 13] [] _ (by kernel_rfl) (by kernel_rfl) (by simp) (fun _ _ _ _ e h => ⟨e ▸ h.1, h.2⟩) ?_ ?_
          rotate_left
          · intro I F hI hF
            simp only [Pl.selN, List.nil_append, List.drop_succ_cons, List.drop_zero]
            have t0 := fun i => hF.cell hlt1 p0 i
            have t1 := fun i => hF.cell hlt1 p1 i
            have t2 := fun i => hF.cell hlt1 q0 i
            have t3 := fun i => hF.cell hlt1 q1 i
            repeat (go_big_quiet_step ((go_at_call 23; exact hF.call (HCM.out _))))
            refine wpQuiet_nil ?_
            rfl
          intro w5 hw5
          simp only [Pl.selN]
          have HA5 := Bas.hid (HA.out.below hw5)
          have HG5 := Bas.hid (Bas.gbelow HG.out hw5)
          clear p0 p1 q0 q1 hlt1 hw5 g7 g5 g6 
          go_wp2_with (fail)
          go_roundw
          case rel => exact ⟨x + 1, r, by omega, by omega, hrh, by go_num, rfl, .inr (.inr (by have h := HLV.out; rw [show N1 - (x + 1) = P - x by omega]; exact h)), HJ.out, HA5.out, HG5.out⟩
          case measure => simp [intOf]; omega
      · obtain rfl : s = r := by omega
        have e1 : decide ((s : Int) < (s : Int)) = false := by simp
        obtain ⟨e, he⟩ : ∃ e, N1 - s = e := ⟨_, rfl⟩
        have z5 : IntKind.i64.wrap ((N1 : Int) - (s : Int)) = (e : Int) := by rw [IntKind.wrap_i64]; omega
        have z6 : (N1 : Int) - (s : Int) = (e : Int) := by omega
        have has : a ≤ s := by omega
        have hsm' : s ≤ m := by omega
        have hme : m ≤ e := by omega
        have heb : e ≤ b := by omega
        have HLO : Hid (s = a ∨ e = b ∨ ltP (D e) (D (s - 1)) = false) := by have h := HI.out; rw [he] at h; exact h
        have HHI : Hid (s = m ∨ e = m ∨ ltP (D (e - 1)) (D s) = true) := by have h := HJ.out; rw [he, show P - s = e - 1 by omega] at h; exact h
        clear HI HJ e1
        have e1 : decide ((s : Int) < (s : Int)) = false := by simp
        by_cases hsm : s = m
        · by_cases hem : e = m
          · obtain rfl : s = m := hsm
            subst hem
            have f1 : decide ((e : Int) < (e : Int)) = false := by simp
            have f3 : decide ((a : Int) < (e : Int)) = true := by simp; omega
            have f4 : decide ((e : Int) < (mid : Int)) = false := by simp; omega
            have f5 : decide ((mid : Int) < (e : Int)) = false := by simp; omega
            have hbb : mid < b := by omega
            go_wp2_with (fail)
            go_end0
            have hz : mid = e + (e - e) := by omega
            have HX := merge_srt ordP HS1.out HS2.out has hsm' hme heb HLO.out (.inl rfl) hz (Pm.refl _ _ _) (by rw [rot_none D (.inl rfl) (by omega) (by omega), show mid = e by omega]; exact HS1.out) (Pm.refl _ _ _) (by rw [rot_none D (.inl rfl) (by omega) (by omega), show mid = e by omega]; exact HS2.out)
            rw [rot_none D (.inl rfl) (by omega) (by omega)] at HX
            exact ⟨rfl, D, HA.out, HX.1, HX.2, HG.out⟩
          · obtain rfl : s = m := hsm
            obtain rfl : mid = e := by omega
            have f1 : decide ((s : Int) < (s : Int)) = false := by simp
            have f3 : decide ((a : Int) < (s : Int)) = true := by simp; omega
            have f4 : decide ((s : Int) < (mid : Int)) = true := by simp; omega
            have f5 : decide ((mid : Int) < (mid : Int)) = false := by simp
            have HC := Bas.hid (ih a s mid D wr ha (by omega) (by omega) (by omega) (by omega) HS1.out (HS2.out.part (Nat.le_refl _) (by omega)))
            clear ha
            go_wp2_with (fail)
            refine HC.out.mono ?_
            rintro e7 w7 ⟨rfl, E2, ha7, hs7, hp7, hg7⟩
            have HA7 := Bas.hid ha7
            have HG7 := Bas.hid (Bas.gtrans HG.out hg7)
            have HX : Hid (Srt ltP E2 a b ∧ Pm a b D E2) := by
              have hr : rot D s s mid = D := rot_none D (.inl rfl) (by omega) (by omega)
              exact merge_srt (s := s) (e := mid) ordP HS1.out HS2.out has hsm' hme heb HLO.out (.inl rfl) (by omega) (by rw [hr]; exact hp7) hs7 (Pm.refl _ _ _) ((HS2.out.part (by omega) (Nat.le_refl _)).same fun i h1 _ => hp7.out (.inr h1))
            clear ha7 hs7 hp7 hg7 HC
            go_wp2_with (fail)
            go_end0
            exact ⟨rfl, E2, HA7.out, HX.out.1, HX.out.2, HG7.out⟩
        · by_cases hem : e = m
          · exfalso; omega
          · have hsm : s < m := by omega
            have hem : m < e := by omega
            by_cases has2 : a < s
            · by_cases heb2 : e < b
              · have f1 : decide ((s : Int) < (m : Int)) = true := by simp; omega
                have f2 : decide ((m : Int) < (e : Int)) = true := by simp; omega
                have f4 : decide ((s : Int) < (mid : Int)) = true := by simp; omega
                have f5 : decide ((mid : Int) < (e : Int)) = true := by simp; omega
                have HC := Bas.hid (rotate_any base n s m e _ D wr ha hn hsm hem (by omega))
                clear ha
                have hz : mid = s + (e - m) := by omega
                have HZ := Bas.hid hz
                clear hz
                have HD1 := Bas.hid (rot_srt1 (e := e) HS1.out hsm' hme)
                have HD2 : Hid (Srt ltP (rot D s m e) s mid) := by unfold Hid; rw [HZ.out]; exact rot_srt2 HS2.out hsm' heb
                have HD3 : Hid (Srt ltP (rot D s m e) mid e) := by unfold Hid; rw [HZ.out]; exact rot_srt3 HS1.out has hme
                have HD4 := Bas.hid (rot_srt4 (s := s) HS2.out hsm' hme)
                have f3 : decide ((a : Int) < (s : Int)) = true := by simp; omega
                have f6 : decide ((e : Int) < (b : Int)) = true := by simp; omega
                go_wp2_with (fail)
                refine HC.out.mono ?_
                rintro e6 w6 ⟨rfl, ha6, hg6⟩
                have HG6 := Bas.hid (Bas.gtrans HG.out hg6)
                clear hg6 HC
                have HC7 := Bas.hid (ih a s mid _ w6 ha6 (by omega) (by omega) (by omega) (by omega) HD1.out HD2.out)
                clear ha6
                go_wp2_with (fail)
                refine HC7.out.mono ?_
                rintro e7 w7 ⟨rfl, E2, ha7, hs7, hp7, hg7⟩
                have HG7 := Bas.hid (Bas.gtrans HG6.out hg7)
                have HS7 := Bas.hid hs7
                have HP7 := Bas.hid hp7
                clear hs7 hp7 hg7 HC7
                have HE3 : Hid (Srt ltP E2 mid e) := HD3.out.same fun i h1 _ => HP7.out.out (.inr h1)
                have HE4 : Hid (Srt ltP E2 e b) := HD4.out.same fun i h1 _ => HP7.out.out (.inr (by omega))
                have HC8 := Bas.hid (ih mid e b _ w7 ha7 (by omega) (by omega) (by omega) (by omega) HE3.out HE4.out)
                clear ha7
                go_wp2_with (fail)
                refine HC8.out.mono ?_
                rintro e8 w8 ⟨rfl, E3, ha8, hs8, hp8, hg8⟩
                have HA8 := Bas.hid ha8
                have HG8 := Bas.hid (Bas.gtrans HG7.out hg8)
                have HX : Hid (Srt ltP E3 a b ∧ Pm a b D E3) := merge_srt ordP HS1.out HS2.out has hsm' hme heb HLO.out HHI.out HZ.out HP7.out HS7.out hp8 hs8
                clear ha8 hs8 hp8 hg8 HC8
                go_wp2_with (fail)
                go_end0
                exact ⟨rfl, E3, HA8.out, HX.out.1, HX.out.2, HG8.out⟩
              · exfalso; omega
            · by_cases heb2 : e < b
              · have f1 : decide ((s : Int) < (m : Int)) = true := by simp; omega
                have f2 : decide ((m : Int) < (e : Int)) = true := by simp; omega
                have f4 : decide ((s : Int) < (mid : Int)) = true := by simp; omega
                have f5 : decide ((mid : Int) < (e : Int)) = true := by simp; omega
                have HC := Bas.hid (rotate_any base n s m e _ D wr ha hn hsm hem (by omega))
                clear ha
                have hz : mid = s + (e - m) := by omega
                have HZ := Bas.hid hz
                clear hz
                have HD1 := Bas.hid (rot_srt1 (e := e) HS1.out hsm' hme)
                have HD2 : Hid (Srt ltP (rot D s m e) s mid) := by unfold Hid; rw [HZ.out]; exact rot_srt2 HS2.out hsm' heb
                have HD3 : Hid (Srt ltP (rot D s m e) mid e) := by unfold Hid; rw [HZ.out]; exact rot_srt3 HS1.out has hme
                have HD4 := Bas.hid (rot_srt4 (s := s) HS2.out hsm' hme)
                have f3 : decide ((a : Int) < (s : Int)) = false := by simp; omega
                have f6 : decide ((e : Int) < (b : Int)) = true := by simp; omega
                go_wp2_with (fail)
                refine HC.out.mono ?_
                rintro e6 w6 ⟨rfl, ha6, hg6⟩
                have HG6 := Bas.hid (Bas.gtrans HG.out hg6)
                clear hg6 HC
                obtain ⟨E2, hE2⟩ : ∃ E2, rot D s m e = E2 := ⟨_, rfl⟩
                obtain ⟨w7, hw7⟩ : ∃ w7, w6 = w7 := ⟨_, rfl⟩
                have ha7 : At w6 base n (.slice (some ⟨g, 0, none⟩) n cp) E2 := hE2 ▸ ha6
                have HS7 : Hid (Srt ltP E2 a mid) := by unfold Hid; rw [← hE2, show a = s by omega]; exact HD2.out
                have HP7 : Hid (Pm a mid (rot D s m e) E2) := by unfold Hid; rw [hE2]; exact Pm.refl _ _ _
                have HG7 := HG6
                rw [hw7] at HG7 ha7 ⊢
                clear hE2 hw7 ha6
                have HE3 : Hid (Srt ltP E2 mid e) := HD3.out.same fun i h1 _ => HP7.out.out (.inr h1)
                have HE4 : Hid (Srt ltP E2 e b) := HD4.out.same fun i h1 _ => HP7.out.out (.inr (by omega))
                have HC8 := Bas.hid (ih mid e b _ w7 ha7 (by omega) (by omega) (by omega) (by omega) HE3.out HE4.out)
                clear ha7
                go_wp2_with (fail)
                refine HC8.out.mono ?_
                rintro e8 w8 ⟨rfl, E3, ha8, hs8, hp8, hg8⟩
                have HA8 := Bas.hid ha8
                have HG8 := Bas.hid (Bas.gtrans HG7.out hg8)
                have HX : Hid (Srt ltP E3 a b ∧ Pm a b D E3) := merge_srt ordP HS1.out HS2.out has hsm' hme heb HLO.out HHI.out HZ.out HP7.out HS7.out hp8 hs8
                clear ha8 hs8 hp8 hg8 HC8
                go_wp2_with (fail)
                go_end0
                exact ⟨rfl, E3, HA8.out, HX.out.1, HX.out.2, HG8.out⟩
              · have f1 : decide ((s : Int) < (m : Int)) = true := by simp; omega
                have f2 : decide ((m : Int) < (e : Int)) = true := by simp; omega
                have f4 : decide ((s : Int) < (mid : Int)) = true := by simp; omega
                have f5 : decide ((mid : Int) < (e : Int)) = true := by simp; omega
                have HC := Bas.hid (rotate_any base n s m e _ D wr ha hn hsm hem (by omega))
                clear ha
                have hz : mid = s + (e - m) := by omega
                have HZ := Bas.hid hz
                clear hz
                have HD1 := Bas.hid (rot_srt1 (e := e) HS1.out hsm' hme)
                have HD2 : Hid (Srt ltP (rot D s m e) s mid) := by unfold Hid; rw [HZ.out]; exact rot_srt2 HS2.out hsm' heb
                have HD3 : Hid (Srt ltP (rot D s m e) mid e) := by unfold Hid; rw [HZ.out]; exact rot_srt3 HS1.out has hme
                have HD4 := Bas.hid (rot_srt4 (s := s) HS2.out hsm' hme)
                have f3 : decide ((a : Int) < (s : Int)) = false := by simp; omega
                have f6 : decide ((e : Int) < (b : Int)) = false := by simp; omega
                go_wp2_with (fail)
                refine HC.out.mono ?_
                rintro e6 w6 ⟨rfl, ha6, hg6⟩
                have HG6 := Bas.hid (Bas.gtrans HG.out hg6)
                clear hg6 HC
                obtain ⟨E2, hE2⟩ : ∃ E2, rot D s m e = E2 := ⟨_, rfl⟩
                obtain ⟨w7, hw7⟩ : ∃ w7, w6 = w7 := ⟨_, rfl⟩
                have ha7 : At w6 base n (.slice (some ⟨g, 0, none⟩) n cp) E2 := hE2 ▸ ha6
                have HS7 : Hid (Srt ltP E2 a mid) := by unfold Hid; rw [← hE2, show a = s by omega]; exact HD2.out
                have HP7 : Hid (Pm a mid (rot D s m e) E2) := by unfold Hid; rw [hE2]; exact Pm.refl _ _ _
                have HG7 := HG6
                rw [hw7] at HG7 ha7 ⊢
                clear hE2 hw7 ha6
                have HE3 : Hid (Srt ltP E2 mid e) := HD3.out.same fun i h1 _ => HP7.out.out (.inr h1)
                have HE4 : Hid (Srt ltP E2 e b) := HD4.out.same fun i h1 _ => HP7.out.out (.inr (by omega))
                have HA7 := Bas.hid ha7
                have HX : Hid (Srt ltP E2 a b ∧ Pm a b D E2) := merge_srt ordP HS1.out HS2.out has hsm' hme heb HLO.out HHI.out HZ.out HP7.out HS7.out (Pm.refl _ _ _) (by rw [show b = e by omega]; exact HE3.out)
                clear ha7
                go_wp2_with (fail)
                go_end0
                exact ⟨rfl, E2, HA7.out, HX.out.1, HX.out.2, HG7.out⟩

theorem symMerge_any (base n : Nat) (sv : Value) (hn : n ≤ 1000) : ∀ (N a m b : Nat) (D : Nat → Pt) (w : World), b - a ≤ N → At w base n sv D → a < m → m < b → b ≤ n → Srt ltP D a m → Srt ltP D m b →
    Calls Try.prog 48 #[sv, .int .i64 a, .int .i64 m, .int .i64 b, .func (.func 23) #[] #[]] w (SrtP base n a b sv D w)
  | 0, a, m, b, D, w, h, _, h1, h2, _, _, _ => by omega
  | N + 1, a, m, b, D, w, h, ha, h1, h2, h3, hs1, hs2 => by
    by_cases e1 : m = a + 1
    · subst e1
      exact merge_left base n a b sv D w ha hn h2 h3 hs2
    by_cases e2 : b = m + 1
    · subst e2
      exact merge_right base n a m sv D w ha hn (by omega) h3 hs1
    exact merge_mid base n a m b sv D w ha hn (by omega) (by omega) h3 hs1 hs2 fun a' m' b' D' w' ha' hl => symMerge_any base n sv hn N a' m' b' D' w' (by omega) ha'
end Sy
end Go.Proofs.Ytkmbeohheblhhaa
