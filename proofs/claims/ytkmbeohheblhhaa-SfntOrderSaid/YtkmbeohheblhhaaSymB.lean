/- slices.SortStableFunc at parts: comparing, exchanging rows, turning. -/
import Derived.Test.YtkmbeohheblhhaaSymA
namespace Go.Proofs.Ytkmbeohheblhhaa
open Go.RowKit
namespace Sy
open Fo

set_option maxHeartbeats 1000000 in
theorem cmp1_any (p q : Pt) (w : World) : Calls Try.prog 23 #[.agg #[.string p.1, slV p.2], .agg #[.string q.1, slV q.2]] w fun e w' => e = .returned (.int .i64 (cmpS p.1 q.1)) ∧ Below w.heap.size w w' := by
  obtain ⟨s, v1, v2, v3⟩ := p
  obtain ⟨t, u1, u2, u3⟩ := q
  have HB := Bas.hid (((Below.refl w.heap.size w).alloc (Nat.le_refl _) (.cells #[.string s, .slice v1 v2 v3] 37)).alloc (by simp) (.cells #[.string t, .slice u1 u2 u3] 37))
  go_enter Try.func23, Try.ntmps23
  go_wp2_with (go_at_call 24; refine (compare_any _ _ _).mono ?_; rintro e w' ⟨rfl, rfl⟩)
  go_ret
  exact ⟨rfl, HB.out⟩

set_option maxRecDepth 100000 in
set_option maxHeartbeats 4000000 in
theorem swapRange_any (base n a b k : Nat) (sv : Value) (D : Nat → Pt) (w : World) (h : At w base n sv D) (hn : n ≤ 1000) (hab : a + k ≤ b) (hb : b + k ≤ n) :
    Calls Try.prog 50 #[sv, .int .i64 a, .int .i64 b, .int .i64 k, .func (.func 23) #[] #[]] w fun e w' => e = .returned (.tuple #[]) ∧ At w' base n sv (swr D a b k) ∧ w.grownBy w' sv.ownBlock := by
  by_cases hk : k = 0
  · subst hk
    rw [swr_zero]
    have H := Bas.hid h
    clear h
    go_enter Try.func50, Try.ntmps50
    go_wp2_with (fail)
    go_loopw [10] (fun vi wr => vi = .int .i64 0 ∧ wr = w) (fun _ _ => 0)
    case atStart => exact ⟨rfl, rfl⟩
    case round =>
      obtain ⟨rfl, rfl⟩ := hrel
      go_wp2_with (fail)
      go_end0
      exact ⟨rfl, H.out, Bas.grefl _ _⟩
  obtain ⟨g, cp, rfl, hlt0, -⟩ := h.cells (k := 0) (by omega)
  have H := Bas.hid h
  clear h
  go_enter Try.func50, Try.ntmps50
  go_wp2_with (fail)
  go_loopw [10] (fun vi wr => ∃ i : Nat, i ≤ k ∧ vi = .int .i64 i ∧ At wr base n (.slice (some ⟨g, 0, none⟩) n cp) (swr D a b i) ∧ w.grownBy wr (some g)) (fun vi _ => k - (intOf vi).toNat)
  case atStart => exact ⟨0, Nat.zero_le _, rfl, by rw [swr_zero]; exact H.out, Bas.grefl _ _⟩
  case round =>
    obtain ⟨i, hi, rfl, ha, hg⟩ := hrel
    by_cases hik : i < k
    · have e1 : decide ((i : Int) < (k : Int)) = true := by simp; omega
      have e2 : decide (i < k) = true := by simp; omega
      have HA := Bas.hid ha
      have HG := Bas.hid hg
      have hai : a + i < n := by omega
      have hbi : b + i < n := by omega
      have z1 : IntKind.i64.wrap ((a : Int) + (i : Int)) = ((a + i : Nat) : Int) := by rw [IntKind.wrap_i64]; omega
      have z2 : IntKind.i64.wrap ((b : Int) + (i : Int)) = ((b + i : Nat) : Int) := by rw [IntKind.wrap_i64]; omega
      obtain ⟨g1, c1, hv1, hlt, hbb, p0, p1, hfr⟩ := ha.cells hai
      cases hv1
      obtain ⟨g2, c2, hv2, _, _, q0, q1, _⟩ := ha.cells hbi
      cases hv2
      have f0 := hfr ((a + i) * 2)
      have f1 := hfr ((a + i) * 2 + 1)
      have f2 := hfr ((b + i) * 2)
      have f3 := hfr ((b + i) * 2 + 1)
      have e5 : decide (((a + i : Nat) : Int) < (n : Int)) = true := by simp; omega
      have e6 : decide (((b + i : Nat) : Int) < (n : Int)) = true := by simp; omega
      have HS := Bas.hid (At.swap ha hai hbi)
      obtain ⟨⟨s0, x0, l0, k0⟩, hd0⟩ : ∃ p, swr D a b i (a + i) = p := ⟨_, rfl⟩
      obtain ⟨⟨s1, x1, l1, k1⟩, hd1⟩ : ∃ p, swr D a b i (b + i) = p := ⟨_, rfl⟩
      rw [hd0] at p0 p1 HS
      rw [hd1] at q0 q1 HS
      simp only at p0 p1 q0 q1 HS
      clear ha hg hfr hd0 hd1
      go_wp2_with (fail)
      have mixed : Try.prog.follows .mixedOrders = true := by kernel_rfl
      go_big_region_o
      have HG2 := Bas.hid (Bas.gset (Bas.gset (Bas.gset (Bas.gset HG.out ((a + i) * 2) (.string s1)) ((a + i) * 2 + 1) (.slice x1 l1 k1)) ((b + i) * 2) (.string s0)) ((b + i) * 2 + 1) (.slice x0 l0 k0))
      have HE := Bas.hid (swr_succ D a b i (by omega))
      clear p0 p1 q0 q1 f0 f1 f2 f3 e5 e6 z1 z2
      go_wp2_with (fail)
      go_roundw
      case rel => exact ⟨i + 1, by omega, by go_num, by rw [← HE.out]; exact HS.out, Bas.gbelow HG2.out ((Below.refl _ _).drew)⟩
      case measure => simp [intOf]; omega
    · obtain rfl : i = k := by omega
      have e1 : decide ((i : Int) < (i : Int)) = false := by simp
      have HA := Bas.hid ha
      have HG := Bas.hid hg
      clear ha hg
      go_wp2_with (fail)
      go_end0
      exact ⟨rfl, HA.out, HG.out⟩

theorem At.same {w : World} {base n : Nat} {sv : Value} {D E : Nat → Pt} (h : At w base n sv D) (he : D = E) : At w base n sv E := he ▸ h

set_option maxRecDepth 100000 in
set_option maxHeartbeats 4000000 in
theorem rotate_any (base n a m b : Nat) (sv : Value) (D : Nat → Pt) (w : World) (h : At w base n sv D) (hn : n ≤ 1000) (ham : a < m) (hmb : m < b) (hb : b ≤ n) :
    Calls Try.prog 49 #[sv, .int .i64 a, .int .i64 m, .int .i64 b, .func (.func 23) #[] #[]] w fun e w' => e = .returned (.tuple #[]) ∧ At w' base n sv (rot D a m b) ∧ w.grownBy w' sv.ownBlock := by
  obtain ⟨g, cp, rfl, hlt0, -⟩ := h.cells (k := 0) (by omega)
  have H := Bas.hid h
  obtain ⟨i0, hi0⟩ : ∃ i : Nat, m - a = i := ⟨_, rfl⟩
  obtain ⟨j0, hj0⟩ : ∃ j : Nat, b - m = j := ⟨_, rfl⟩
  have z1 : IntKind.i64.wrap ((m : Int) - (a : Int)) = (i0 : Int) := by rw [IntKind.wrap_i64]; omega
  have z2 : IntKind.i64.wrap ((b : Int) - (m : Int)) = (j0 : Int) := by rw [IntKind.wrap_i64]; omega
  have HI := Bas.hid hi0
  have HJ := Bas.hid hj0
  clear h hi0 hj0
  go_enter Try.func49, Try.ntmps49
  go_wp2_with (fail)
  go_loopw [10, 11] (fun vi vj wr => ∃ (i j : Nat) (E : Nat → Pt), 0 < i ∧ 0 < j ∧ i ≤ m ∧ m + j ≤ n ∧ a ≤ m - i ∧ vi = .int .i64 i ∧ vj = .int .i64 j ∧ At wr base n (.slice (some ⟨g, 0, none⟩) n cp) E ∧ rot E (m - i) m (m + j) = rot D a m b ∧ w.grownBy wr (some g)) (fun vi vj _ => (intOf vi).toNat + (intOf vj).toNat)
  case atStart => exact ⟨i0, j0, D, by have := HI.out; omega, by have := HJ.out; omega, by have := HI.out; omega, by have := HJ.out; omega, by have := HI.out; omega, rfl, rfl, H.out, by rw [← HI.out, ← HJ.out, show m - (m - a) = a by omega, show m + (b - m) = b by omega], Bas.grefl _ _⟩
  case round =>
    obtain ⟨i, j, E, hi, hj, him, hjn, hai, rfl, rfl, ha, he, hg⟩ := hrel
    have HE := Bas.hid he
    have HG := Bas.hid hg
    have z3 : IntKind.i64.wrap ((m : Int) - (i : Int)) = ((m - i : Nat) : Int) := by rw [IntKind.wrap_i64]; omega
    clear he hg
    rcases Nat.lt_trichotomy i j with hij | hij | hij
    · have e1 : ((i : Int) == (j : Int)) = false := by simp; omega
      have e2 : decide ((j : Int) < (i : Int)) = false := by simp; omega
      have e3 : decide (j < i) = false := by simp; omega
      have HC := Bas.hid (swapRange_any base n (m - i) (m + j - i) i _ E wr ha hn (by omega) (by omega))
      clear ha
      have z4 : (m : Int) + (j : Int) - (i : Int) = ((m + j - i : Nat) : Int) := by omega
      have z5 : IntKind.i64.wrap ((j : Int) - (i : Int)) = ((j - i : Nat) : Int) := by rw [IntKind.wrap_i64]; omega
      go_wp2_with (fail)
      refine HC.out.mono ?_
      rintro e w2 ⟨rfl, ha2, hg2⟩
      have HA2 := Bas.hid ha2
      have HG2 := Bas.hid (Bas.gtrans HG.out hg2)
      have HR := Bas.hid (rot_right E m i j hij him)
      clear ha2 hg2 HC HG
      go_wp2_with (fail)
      go_roundw
      case rel => exact ⟨i, j - i, _, hi, by omega, him, by omega, hai, rfl, rfl, HA2.out, by rw [HR.out]; exact HE.out, HG2.out⟩
      case measure => simp [intOf]; omega
    · subst hij
      have e1 : ((i : Int) == (i : Int)) = true := by simp
      have HC := Bas.hid (swapRange_any base n (m - i) m i _ E wr ha hn (by omega) (by omega))
      clear ha
      go_wp2_with (fail)
      refine HC.out.mono ?_
      rintro e w2 ⟨rfl, ha2, hg2⟩
      have HA2 := Bas.hid ha2
      have HG2 := Bas.hid (Bas.gtrans HG.out hg2)
      have HR := Bas.hid (rot_eq E m i him)
      clear ha2 hg2 HC HG
      go_wp2_with (fail)
      go_end0
      exact ⟨rfl, by rw [← HE.out, ← HR.out]; exact HA2.out, HG2.out⟩
    · have e1 : ((i : Int) == (j : Int)) = false := by simp; omega
      have e2 : decide ((j : Int) < (i : Int)) = true := by simp; omega
      have e3 : decide (j < i) = true := by simp; omega
      have HC := Bas.hid (swapRange_any base n (m - i) m j _ E wr ha hn (by omega) (by omega))
      have z5 : IntKind.i64.wrap ((i : Int) - (j : Int)) = ((i - j : Nat) : Int) := by rw [IntKind.wrap_i64]; omega
      clear ha
      go_wp2_with (fail)
      refine HC.out.mono ?_
      rintro e w2 ⟨rfl, ha2, hg2⟩
      have HA2 := Bas.hid ha2
      have HG2 := Bas.hid (Bas.gtrans HG.out hg2)
      have HR := Bas.hid (rot_left E m i j hij him)
      clear ha2 hg2 HC HG
      go_wp2_with (fail)
      go_roundw
      case rel => exact ⟨i - j, j, _, by omega, hj, by omega, by omega, by omega, rfl, rfl, HA2.out, by rw [HR.out]; exact HE.out, HG2.out⟩
      case measure => simp [intOf]; omega
end Sy
end Go.Proofs.Ytkmbeohheblhhaa
