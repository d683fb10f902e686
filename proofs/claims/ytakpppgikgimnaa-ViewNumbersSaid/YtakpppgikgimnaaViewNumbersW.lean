/- The walk of the law ViewNumbers. -/
import Derived.Test.YtakpppgikgimnaaViewGot
import Derived.Test.YtakpppgikgimnaaRef01
namespace Go.Proofs.Ytakpppgikgimnaa
open Go.RowKit
namespace Vw
open Ref01

theorem uval_yes (bs : List Int) (hb : ∀ x ∈ bs, 0 ≤ x ∧ x ≤ 255) (at' : Int) (n : Nat) (hn : n ≤ 4) (h : 0 ≤ at' ∧ at' + n ≤ bs.length) : uval bs at' n = be bs at'.toNat n ∧ 0 ≤ uval bs at' n := by
  rw [uval, if_pos h]
  exact ⟨rfl, (be_bd bs hb _ n hn).1⟩
theorem uval_no (bs : List Int) (at' : Int) (n : Nat) (h : ¬ (0 ≤ at' ∧ at' + n ≤ bs.length)) : uval bs at' n = -1 := by rw [uval, if_neg h]
theorem uval_bd (bs : List Int) (hb : ∀ x ∈ bs, 0 ≤ x ∧ x ≤ 255) (at' : Int) (n : Nat) (hn : n ≤ 4) : -1 ≤ uval bs at' n ∧ uval bs at' n ≤ 4294967295 := by
  unfold uval
  split
  · have := be_bd bs hb at'.toNat n hn; omega
  · omega

set_option maxHeartbeats 4000000 in
theorem viewNumbers_walk (a : Option Addr) (len cap : Nat) (z : List Int) (at' : Int) (w : World) (hz : Bas.IsRow .u8 w a len cap z) (_wa : (Lit.int .i64 at').wf = true) :
    Calls Try.prog 10 #[.slice a len cap, .int .i64 at'] w fun e w' => e = .returned (.bool true) ∧ Below w.heap.size w w' := by
  by_cases hbig : 1000 < len
  · have hlm : len ≤ 9223372036854775807 := by
      rcases hz with ⟨rfl, rfl, rfl, rfl⟩ | ⟨x, rfl, hl, hm, _⟩
      · omega
      · unfold maxLen at hm; omega
    clear hz
    go_enter Try.func10, Try.ntmps10
    go_wp2_with (fail)
    refine (speaks_any _).mono ?_
    rintro e w1 ⟨rfl, hb1⟩
    go_wp2_with (fail)
    go_ret
    exact ⟨rfl, hb1⟩
  obtain ⟨hv, hbl, hlc, hcm, hnil⟩ := VB_of_row hz (by omega)
  clear hz
  generalize z.take len = bs at hv hbl
  have hbb := hv.byte
  go_enter Try.func10, Try.ntmps10
  go_wp2_with (fail)
  refine (speaks_any _).mono ?_
  rintro e w1 ⟨rfl, hb1⟩
  have hv1 := hv.below hb1
  have U := fun n m hm hn => u_any a len cap bs at' n m hm w1 (by omega) hv1 hbl hn
  obtain ⟨y1, hy1⟩ : ∃ y, y = uval bs at' 1 := ⟨_, rfl⟩
  obtain ⟨y2, hy2⟩ : ∃ y, y = uval bs at' 2 := ⟨_, rfl⟩
  obtain ⟨y4, hy4⟩ : ∃ y, y = uval bs at' 4 := ⟨_, rfl⟩
  have U1 := U 1 1 rfl (by omega)
  have U2 := U 2 2 rfl (by omega)
  have U4 := U 4 4 rfl (by omega)
  rw [← hy1] at U1
  rw [← hy2] at U2
  rw [← hy4] at U4
  have bd2 := uval_bd bs hbb at' 2 (by omega)
  have bd4 := uval_bd bs hbb at' 4 (by omega)
  rw [← hy2] at bd2
  rw [← hy4] at bd4
  have e1 : 0 ≤ at' ∧ at' + 1 ≤ len → y1 = be bs at'.toNat 1 ∧ 0 ≤ y1 := fun f => by rw [hy1]; exact uval_yes bs hbb at' 1 (by omega) (by rw [hbl]; exact f)
  have e2 : 0 ≤ at' ∧ at' + 2 ≤ len → y2 = be bs at'.toNat 2 ∧ 0 ≤ y2 := fun f => by rw [hy2]; exact uval_yes bs hbb at' 2 (by omega) (by rw [hbl]; exact f)
  have e4 : 0 ≤ at' ∧ at' + 4 ≤ len → y4 = be bs at'.toNat 4 ∧ 0 ≤ y4 := fun f => by rw [hy4]; exact uval_yes bs hbb at' 4 (by omega) (by rw [hbl]; exact f)
  have n1 : ¬ (0 ≤ at' ∧ at' + 1 ≤ len) → y1 = -1 := fun f => by rw [hy1]; exact uval_no bs at' 1 (by rw [hbl]; exact f)
  have n2 : ¬ (0 ≤ at' ∧ at' + 2 ≤ len) → y2 = -1 := fun f => by rw [hy2]; exact uval_no bs at' 2 (by rw [hbl]; exact f)
  have n4 : ¬ (0 ≤ at' ∧ at' + 4 ≤ len) → y4 = -1 := fun f => by rw [hy4]; exact uval_no bs at' 4 (by rw [hbl]; exact f)
  have E1 := Bas.hid e1
  have E2 := Bas.hid e2
  have E4 := Bas.hid e4
  have N1 := Bas.hid n1
  have N2 := Bas.hid n2
  have N4 := Bas.hid n4
  have HU1 := Bas.hid U1
  have HU2 := Bas.hid U2
  have HU4 := Bas.hid U4
  clear hy1 hy2 hy4 U U1 U2 U4 e1 e2 e4 n1 n2 n4
  go_wp2_with (fail)
  refine HU1.out.mono ?_
  rintro e w' ⟨rfl, rfl⟩
  go_wp2_with (fail)
  refine HU2.out.mono ?_
  rintro e w' ⟨rfl, rfl⟩
  go_wp2_with (fail)
  refine HU4.out.mono ?_
  rintro e w' ⟨rfl, rfl⟩
  go_wp2_with (fail)
  refine (s16_any y2 _ bd2.1 bd2.2).mono ?_
  rintro e w' ⟨rfl, rfl⟩
  go_wp2_with (fail)
  refine (s32_any y4 _ bd4.1 bd4.2).mono ?_
  rintro e w' ⟨rfl, rfl⟩
  clear HU1 HU2 HU4
  generalize hz2 : s16 y2 = z2
  generalize hz4 : s32 y4 = z4
  have HZ2 := Bas.hid hz2
  have HZ4 := Bas.hid hz4
  clear hz2 hz4
  go_wp2_with (fail)
  go_loopw [35] (fun i wr => ∃ k : Nat, k ≤ 5 ∧ i = .int .i64 k ∧ Below w1.heap.size w1 wr) (fun i _ => 5 - (intOf i).toNat)
  case atStart => exact ⟨0, by omega, rfl, Below.refl _ _⟩
  case round =>
    obtain ⟨k, hk, rfl, hbr⟩ := hrel
    have hvr := hv1.below hbr
    have i0 : ∀ w, (Instr.index 54 (.agg #[.int .i64 y1, .int .i64 y2, .int .i64 y4, .int .i64 z2, .int .i64 z4]) (.int .i64 0)).run Try.prog w = .ok (.int .i64 y1) w := fun _ => by kernel_rfl
    have i1 : ∀ w, (Instr.index 54 (.agg #[.int .i64 y1, .int .i64 y2, .int .i64 y4, .int .i64 z2, .int .i64 z4]) (.int .i64 1)).run Try.prog w = .ok (.int .i64 y2) w := fun _ => by kernel_rfl
    have i2 : ∀ w, (Instr.index 54 (.agg #[.int .i64 y1, .int .i64 y2, .int .i64 y4, .int .i64 z2, .int .i64 z4]) (.int .i64 2)).run Try.prog w = .ok (.int .i64 y4) w := fun _ => by kernel_rfl
    have i3 : ∀ w, (Instr.index 54 (.agg #[.int .i64 y1, .int .i64 y2, .int .i64 y4, .int .i64 z2, .int .i64 z4]) (.int .i64 3)).run Try.prog w = .ok (.int .i64 z2) w := fun _ => by kernel_rfl
    have i4 : ∀ w, (Instr.index 54 (.agg #[.int .i64 y1, .int .i64 y2, .int .i64 y4, .int .i64 z2, .int .i64 z4]) (.int .i64 4)).run Try.prog w = .ok (.int .i64 z4) w := fun _ => by kernel_rfl
    have j0 : ∀ w, (Instr.index 54 (.agg #[.int .i64 y1, .int .i64 y2, .int .i64 y4, .int .i64 y2, .int .i64 y4]) (.int .i64 0)).run Try.prog w = .ok (.int .i64 y1) w := fun _ => by kernel_rfl
    have j1 : ∀ w, (Instr.index 54 (.agg #[.int .i64 y1, .int .i64 y2, .int .i64 y4, .int .i64 y2, .int .i64 y4]) (.int .i64 1)).run Try.prog w = .ok (.int .i64 y2) w := fun _ => by kernel_rfl
    have j2 : ∀ w, (Instr.index 54 (.agg #[.int .i64 y1, .int .i64 y2, .int .i64 y4, .int .i64 y2, .int .i64 y4]) (.int .i64 2)).run Try.prog w = .ok (.int .i64 y4) w := fun _ => by kernel_rfl
    have j3 : ∀ w, (Instr.index 54 (.agg #[.int .i64 y1, .int .i64 y2, .int .i64 y4, .int .i64 y2, .int .i64 y4]) (.int .i64 3)).run Try.prog w = .ok (.int .i64 y2) w := fun _ => by kernel_rfl
    have j4 : ∀ w, (Instr.index 54 (.agg #[.int .i64 y1, .int .i64 y2, .int .i64 y4, .int .i64 y2, .int .i64 y4]) (.int .i64 4)).run Try.prog w = .ok (.int .i64 y4) w := fun _ => by kernel_rfl
    rcases (by omega : k = 0 ∨ k = 1 ∨ k = 2 ∨ k = 3 ∨ k = 4 ∨ k = 5) with rfl | rfl | rfl | rfl | rfl | rfl
    · by_cases f : 0 ≤ at' ∧ at' + 1 ≤ len
      · have hge := decide_eq_true (E1.out f).2
        go_wp2_with (fail)
        refine (got_0 a len cap bs at' wr hlc hcm hvr hbl true y1 (decide_eq_true f) (by first | exact (E1.out f).1.symm | (rw [← HZ1.out, (E1.out f).1]))).mono ?_
        rintro e w5 ⟨rfl, hb5⟩
        go_wp2_with (fail)
        go_roundw
        case rel => exact ⟨1, by omega, by go_num, hbr.trans (hb5.mono hbr.size)⟩
        case measure => simp [intOf]
      · have hge : decide (0 ≤ y1) = false := by rw [N1.out f]; rfl
        go_wp2_with (fail)
        refine (got_0 a len cap bs at' wr hlc hcm hvr hbl false _ (decide_eq_false f) rfl).mono ?_
        rintro e w5 ⟨rfl, hb5⟩
        go_wp2_with (fail)
        go_roundw
        case rel => exact ⟨1, by omega, by go_num, hbr.trans (hb5.mono hbr.size)⟩
        case measure => simp [intOf]
    · by_cases f : 0 ≤ at' ∧ at' + 2 ≤ len
      · have hge := decide_eq_true (E2.out f).2
        go_wp2_with (fail)
        refine (got_1 a len cap bs at' wr hlc hcm hvr hbl true y2 (decide_eq_true f) (by first | exact (E2.out f).1.symm | (rw [← HZ2.out, (E2.out f).1]))).mono ?_
        rintro e w5 ⟨rfl, hb5⟩
        go_wp2_with (fail)
        go_roundw
        case rel => exact ⟨2, by omega, by go_num, hbr.trans (hb5.mono hbr.size)⟩
        case measure => simp [intOf]
      · have hge : decide (0 ≤ y2) = false := by rw [N2.out f]; rfl
        go_wp2_with (fail)
        refine (got_1 a len cap bs at' wr hlc hcm hvr hbl false _ (decide_eq_false f) rfl).mono ?_
        rintro e w5 ⟨rfl, hb5⟩
        go_wp2_with (fail)
        go_roundw
        case rel => exact ⟨2, by omega, by go_num, hbr.trans (hb5.mono hbr.size)⟩
        case measure => simp [intOf]
    · by_cases f : 0 ≤ at' ∧ at' + 4 ≤ len
      · have hge := decide_eq_true (E4.out f).2
        go_wp2_with (fail)
        refine (got_2 a len cap bs at' wr hlc hcm hvr hbl true y4 (decide_eq_true f) (by first | exact (E4.out f).1.symm | (rw [← HZ4.out, (E4.out f).1]))).mono ?_
        rintro e w5 ⟨rfl, hb5⟩
        go_wp2_with (fail)
        go_roundw
        case rel => exact ⟨3, by omega, by go_num, hbr.trans (hb5.mono hbr.size)⟩
        case measure => simp [intOf]
      · have hge : decide (0 ≤ y4) = false := by rw [N4.out f]; rfl
        go_wp2_with (fail)
        refine (got_2 a len cap bs at' wr hlc hcm hvr hbl false _ (decide_eq_false f) rfl).mono ?_
        rintro e w5 ⟨rfl, hb5⟩
        go_wp2_with (fail)
        go_roundw
        case rel => exact ⟨3, by omega, by go_num, hbr.trans (hb5.mono hbr.size)⟩
        case measure => simp [intOf]
    · by_cases f : 0 ≤ at' ∧ at' + 2 ≤ len
      · have hge := decide_eq_true (E2.out f).2
        go_wp2_with (fail)
        refine (got_3 a len cap bs at' wr hlc hcm hvr hbl true z2 (decide_eq_true f) (by first | exact (E2.out f).1.symm | (rw [← HZ2.out, (E2.out f).1]))).mono ?_
        rintro e w5 ⟨rfl, hb5⟩
        go_wp2_with (fail)
        go_roundw
        case rel => exact ⟨4, by omega, by go_num, hbr.trans (hb5.mono hbr.size)⟩
        case measure => simp [intOf]
      · have hge : decide (0 ≤ y2) = false := by rw [N2.out f]; rfl
        go_wp2_with (fail)
        refine (got_3 a len cap bs at' wr hlc hcm hvr hbl false _ (decide_eq_false f) rfl).mono ?_
        rintro e w5 ⟨rfl, hb5⟩
        go_wp2_with (fail)
        go_roundw
        case rel => exact ⟨4, by omega, by go_num, hbr.trans (hb5.mono hbr.size)⟩
        case measure => simp [intOf]
    · by_cases f : 0 ≤ at' ∧ at' + 4 ≤ len
      · have hge := decide_eq_true (E4.out f).2
        go_wp2_with (fail)
        refine (got_4 a len cap bs at' wr hlc hcm hvr hbl true z4 (decide_eq_true f) (by first | exact (E4.out f).1.symm | (rw [← HZ4.out, (E4.out f).1]))).mono ?_
        rintro e w5 ⟨rfl, hb5⟩
        go_wp2_with (fail)
        go_roundw
        case rel => exact ⟨5, by omega, by go_num, hbr.trans (hb5.mono hbr.size)⟩
        case measure => simp [intOf]
      · have hge : decide (0 ≤ y4) = false := by rw [N4.out f]; rfl
        go_wp2_with (fail)
        refine (got_4 a len cap bs at' wr hlc hcm hvr hbl false _ (decide_eq_false f) rfl).mono ?_
        rintro e w5 ⟨rfl, hb5⟩
        go_wp2_with (fail)
        go_roundw
        case rel => exact ⟨5, by omega, by go_num, hbr.trans (hb5.mono hbr.size)⟩
        case measure => simp [intOf]
    · go_wp2_with (fail)
      go_ret
      exact ⟨rfl, hb1.trans (hbr.mono hb1.size)⟩
end Vw
end Go.Proofs.Ytakpppgikgimnaa
