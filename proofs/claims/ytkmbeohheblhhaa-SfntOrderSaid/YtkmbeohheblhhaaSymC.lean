/- slices.SortStableFunc at parts: the insertion sort. -/
import Derived.Test.YtkmbeohheblhhaaSymB
namespace Go.Proofs.Ytkmbeohheblhhaa
open Go.RowKit
namespace Sy
open Fo

def SrtP (base n a b : Nat) (sv : Value) (D : Nat → Pt) (w : World) (e : Ending) (w' : World) : Prop := e = .returned (.tuple #[]) ∧ ∃ E, At w' base n sv E ∧ Srt ltP E a b ∧ Pm a b D E ∧ w.grownBy w' sv.ownBlock

set_option maxRecDepth 100000 in
set_option maxHeartbeats 4000000 in
theorem insertion_none (base n a b : Nat) (sv : Value) (D : Nat → Pt) (w : World) (h : At w base n sv D) (ha1 : a ≤ 1000) (hab : b ≤ a + 1) :
    Calls Try.prog 47 #[sv, .int .i64 a, .int .i64 b, .func (.func 23) #[] #[]] w (SrtP base n a b sv D w) := by
  have H := Bas.hid h
  clear h
  have e1 : decide ((a : Int) + 1 < (b : Int)) = false := by simp; omega
  go_enter Try.func47, Try.ntmps47
  go_wp2_with (fail)
  go_loopw [8] (fun vi wr => vi = .int .i64 ((a : Int) + 1) ∧ wr = w) (fun _ _ => 0)
  case atStart => exact ⟨rfl, rfl⟩
  case round =>
    obtain ⟨rfl, rfl⟩ := hrel
    go_wp2_with (fail)
    go_end0
    exact ⟨rfl, D, H.out, fun i j h1 h2 h3 => by omega, Pm.refl _ _ _, Bas.grefl _ _⟩

set_option maxRecDepth 100000 in
set_option maxHeartbeats 8000000 in
theorem insertion_any (base n a b : Nat) (sv : Value) (D : Nat → Pt) (w : World) (h : At w base n sv D) (hn : n ≤ 1000) (hab : a < b) (hb : b ≤ n) :
    Calls Try.prog 47 #[sv, .int .i64 a, .int .i64 b, .func (.func 23) #[] #[]] w (SrtP base n a b sv D w) := by
  obtain ⟨g, cp, rfl, hlt0, -⟩ := h.cells (k := 0) (by omega)
  have H := Bas.hid h
  have mixed : Try.prog.follows .mixedOrders = true := by kernel_rfl
  clear h
  go_enter Try.func47, Try.ntmps47
  go_wp2_with (fail)
  go_loopw [8] (fun vi wr => ∃ (i : Nat) (E : Nat → Pt), a < i ∧ i ≤ b ∧ vi = .int .i64 i ∧ At wr base n (.slice (some ⟨g, 0, none⟩) n cp) E ∧ Srt ltP E a i ∧ Pm a b D E ∧ w.grownBy wr (some g)) (fun vi _ => b - (intOf vi).toNat)
  case atStart => exact ⟨a + 1, D, by omega, by omega, by go_num, H.out, fun i j h1 h2 h3 => by omega, Pm.refl _ _ _, Bas.grefl _ _⟩
  case round =>
    obtain ⟨i, E, hai, hib, rfl, ha, hs, hp, hg⟩ := hrel
    have HA := Bas.hid ha
    have HS := Bas.hid hs
    have HP := Bas.hid hp
    have HG := Bas.hid hg
    clear ha hs hp hg
    by_cases hlt : i < b
    · have e1 : decide ((i : Int) < (b : Int)) = true := by simp; omega
      have e2 : decide (i < b) = true := by simp; omega
      go_wp2_with (fail)
      go_loopw [9] (fun vj w2 => ∃ j : Nat, a ≤ j ∧ j ≤ i ∧ vj = .int .i64 j ∧ At w2 base n (.slice (some ⟨g, 0, none⟩) n cp) (rot E j i (i + 1)) ∧ (j = i ∨ ltP (E i) (E j) = true) ∧ w.grownBy w2 (some g)) (fun vj _ => (intOf vj).toNat)
      case atStart => exact ⟨i, by omega, Nat.le_refl _, rfl, by rw [rot_none E (.inl rfl) (Nat.le_refl _) (by omega)]; exact HA.out, .inl rfl, HG.out⟩
      case round =>
        obtain ⟨j, haj, hji, rfl, ha, hj, hg⟩ := hrel
        have HA2 := Bas.hid ha
        have HJ := Bas.hid hj
        have HG2 := Bas.hid hg
        clear hj hg
        by_cases hja : a < j
        · have f1 : decide ((j : Int) > (a : Int)) = true := by simp; omega
          have f2 : decide ((a : Int) < (j : Int)) = true := by simp; omega
          have f3 : decide (a < j) = true := by simp; omega
          have z1 : IntKind.i64.wrap ((j : Int) - 1) = ((j - 1 : Nat) : Int) := by rw [IntKind.wrap_i64]; omega
          have hc0 : rot E j i (i + 1) j = E i := by rw [rot_lo E (Nat.le_refl _) (by omega)]; congr 1; omega
          have hc1 : rot E j i (i + 1) (j - 1) = E (j - 1) := rot_out E (.inl (by omega)) hji (by omega)
          obtain ⟨g1, c1, hv1, hlt1, hbb, p0, p1, hfr⟩ := ha.cells (k := j) (by omega)
          cases hv1
          obtain ⟨g2, c2, hv2, _, _, q0, q1, _⟩ := ha.cells (k := j - 1) (by omega)
          cases hv2
          rw [hc0] at p0 p1
          rw [hc1] at q0 q1
          obtain ⟨⟨s0, x0, l0, k0⟩, hd0⟩ : ∃ p, E i = p := ⟨_, rfl⟩
          obtain ⟨⟨s1, x1, l1, k1⟩, hd1⟩ : ∃ p, E (j - 1) = p := ⟨_, rfl⟩
          rw [hd0] at p0 p1
          rw [hd1] at q0 q1
          have HD0 := Bas.hid hd0
          have HD1 := Bas.hid hd1
          have HC0 := Bas.hid hc0
          have HC1 := Bas.hid hc1
          have hcmp := fun u => cmp1_any (s0, x0, l0, k0) (s1, x1, l1, k1) u
          simp only at p0 p1 q0 q1 hcmp
          have HCM := Bas.hid hcmp
          have g5 : decide ((j : Int) < (n : Int)) = true := by simp; omega
          have g6 : decide (((j - 1 : Nat) : Int) < (n : Int)) = true := by simp; omega
          clear ha hd0 hd1 hc0 hc1 hcmp hfr
          cases hlv : ltS s0 s1
          case true =>
            have g7 : decide (cmpS s0 s1 < 0) = true := decide_eq_true ((cmpS_neg s0 s1).2 hlv)
            have HLV : Hid (ltP (E i) (E (j - 1)) = true) := by unfold Hid; rw [HD0.out, HD1.out]; exact hlv
            clear hlv
            go_wp2_with (fail)
            refine' Pl.region_v0 53 [] [0, 1, 2, 3, 4, 5, 6, 7, 8, 9, 10, 11, 12, 13, 14, 15, 16] [] _ (by kernel_rfl) (by kernel_rfl) (by simp) (fun _ _ _ _ e h => ⟨e ▸ h.1, h.2⟩) ?_ ?_
            rotate_left
            · intro I F hI hF
              simp only [Pl.selN, List.nil_append, List.drop_succ_cons, List.drop_zero]
              have t0 := fun i => hF.cell hlt1 p0 i
              have t1 := fun i => hF.cell hlt1 p1 i
              have t2 := fun i => hF.cell hlt1 q0 i
              have t3 := fun i => hF.cell hlt1 q1 i
              repeat (go_big_quiet_step ((go_at_call 23; exact hF.call (HCM.out _))))
              refine wpQuiet_nil ?_
              rfl
            intro w5 hw5
            simp only [Pl.selN]
            have ha5 := HA2.out.below hw5
            have HG5 := Bas.hid (Bas.gbelow HG2.out hw5)
            clear p0 p1 q0 q1 hlt1 hw5
            obtain ⟨_, _, hv3, _, _, p0, p1, hfr⟩ := ha5.cells (k := j) (by omega)
            cases hv3
            obtain ⟨_, _, hv4, _, _, q0, q1, _⟩ := ha5.cells (k := j - 1) (by omega)
            cases hv4
            have f4 := hfr (j * 2)
            have f5 := hfr (j * 2 + 1)
            have f6 := hfr ((j - 1) * 2)
            have f7 := hfr ((j - 1) * 2 + 1)
            have HSW := Bas.hid (At.swap ha5 (i := j) (j := j - 1) (by omega) (by omega))
            rw [HC0.out, HD0.out] at p0 p1 HSW
            rw [HC1.out, HD1.out] at q0 q1 HSW
            simp only at p0 p1 q0 q1 HSW
            clear ha5 hfr
            go_wp2_with (fail)
            go_big_region_o
            have HG6 := Bas.hid (Bas.gset (Bas.gset (Bas.gset (Bas.gset HG5.out (j * 2) (.string s1)) (j * 2 + 1) (.slice x1 l1 k1)) ((j - 1) * 2) (.string s0)) ((j - 1) * 2 + 1) (.slice x0 l0 k0))
            have HRD := Bas.hid (rot_down E (k := j) (m := i) (by omega) hji)
            clear p0 p1 q0 q1 f4 f5 f6 f7 g7
            go_wp2_with (fail)
            go_roundw
            case rel => exact ⟨j - 1, by omega, by omega, rfl, by rw [← HRD.out]; exact HSW.out, .inr HLV.out, Bas.gbelow HG6.out ((Below.refl _ _).drew)⟩
            case measure => simp [intOf]; omega
          case false =>
            have g7 : decide (cmpS s0 s1 < 0) = false := by
              rw [decide_eq_false_iff_not, cmpS_neg, hlv]; simp
            have HLV : Hid (ltP (E i) (E (j - 1)) = false) := by unfold Hid; rw [HD0.out, HD1.out]; exact hlv
            clear hlv
            go_wp2_with (fail)
            refine' Pl.region_v0 53 [] [0, 1, 2, 3, 4, 5, 6, 7, 8, 9, 10, 11, 12, 13, 14, 15, 16] [] _ (by kernel_rfl) (by kernel_rfl) (by simp) (fun _ _ _ _ e h => ⟨e ▸ h.1, h.2⟩) ?_ ?_
            rotate_left
            · intro I F hI hF
              simp only [Pl.selN, List.nil_append, List.drop_succ_cons, List.drop_zero]
              have t0 := fun i => hF.cell hlt1 p0 i
              have t1 := fun i => hF.cell hlt1 p1 i
              have t2 := fun i => hF.cell hlt1 q0 i
              have t3 := fun i => hF.cell hlt1 q1 i
              repeat (go_big_quiet_step ((go_at_call 23; exact hF.call (HCM.out _))))
              refine wpQuiet_nil ?_
              rfl
            intro w5 hw5
            simp only [Pl.selN]
            have HA5 := Bas.hid (HA2.out.below hw5)
            have HG5 := Bas.hid (Bas.gbelow HG2.out hw5)
            have HIN := Bas.hid (insert_srt ordP HS.out haj hji (.inr HLV.out) HJ.out)
            clear p0 p1 q0 q1 hlt1 hw5 g7
            go_wp2_with (fail)
            go_roundw
            case rel => exact ⟨i + 1, _, by omega, by omega, by go_num, HA5.out, HIN.out.1, HP.out.trans (HIN.out.2.wide (Nat.le_refl _) (by omega)), HG5.out⟩
            case measure => simp [intOf]; omega
        · obtain rfl : j = a := by omega
          have f1 : decide ((j : Int) > (j : Int)) = false := by simp
          have f2 : decide ((j : Int) < (j : Int)) = false := by simp
          have HIN := Bas.hid (insert_srt ordP HS.out (Nat.le_refl _) hji (.inl rfl) HJ.out)
          clear ha
          go_wp2_with (fail)
          go_big_region_o
          go_wp2_with (fail)
          go_roundw
          case rel => exact ⟨i + 1, _, by omega, by omega, by go_num, HA2.out.below ((Below.refl _ _).drew), HIN.out.1, HP.out.trans (HIN.out.2.wide (Nat.le_refl _) (by omega)), Bas.gbelow HG2.out ((Below.refl _ _).drew)⟩
          case measure => simp [intOf]; omega
    · obtain rfl : i = b := by omega
      have e1 : decide ((i : Int) < (i : Int)) = false := by simp
      go_wp2_with (fail)
      go_end0
      exact ⟨rfl, E, HA.out, HS.out, HP.out, HG.out⟩
end Sy
end Go.Proofs.Ytkmbeohheblhhaa
