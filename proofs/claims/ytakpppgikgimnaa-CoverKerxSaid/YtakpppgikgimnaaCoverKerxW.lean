/- The walk of the law CoverKerx. -/
import Derived.Test.YtakpppgikgimnaaCoverMorxW
namespace Go.Proofs.Ytakpppgikgimnaa
open Go.RowKit
namespace Cov

set_option maxHeartbeats 1000000 in
theorem coverKerx_walk (x d : Int) (w : World) (h0 : 0 ≤ x) (h1 : x ≤ 4294967295) :
    Calls Try.prog 4 #[.int .u32 x, .int .i64 d] w fun e w' => e = .returned (.bool true) ∧ Below w.heap.size w w' := by
  have e28 := bit_ne x 268435456 28 (by simp) (by omega) h0 h1
  have e29 := bit_ne x 536870912 29 (by simp) (by omega) h0 h1
  go_enter Try.func4, Try.ntmps4
  go_wp2_with (fail)
  refine (speaks_any _).mono ?_
  rintro e w1 ⟨rfl, hb1⟩
  go_wp2_with (fail)
  refine (ofKerx_any _ _ h0 h1).mono ?_
  rintro e w2 ⟨rfl, hb2⟩
  have HB2 := Bas.on hb1 hb2
  clear hb1 hb2
  go_wp2_with (fail)
  go_quiet ((first | (go_at_call 17; exact Bas.quiet_same (kind_any _ _ h0 h1)) | (go_at_call 18; exact Bas.quiet_same (vertical_any _ _ h0 h1)) | (go_at_call 25; exact Bas.quiet_same (cross_any _ _ h0 h1))))
  go_wp2_with (fail)
  have HB3 : Below w.heap.size w ((w2.alloc (.cells #[.int .i64 (x % 256), .bool (bitB x 31), .bool (bitB x 28), .bool (bitB x 30), .bool (bitB x 29)] 35)).drewN nq) := Bas.below_drewN (HB2.alloc HB2.size _) _
  have H2 := HB2.size
  go_loopw [52] (fun i wr => ∃ k : Nat, k ≤ 4 ∧ i = .int .i64 k ∧ Below w.heap.size w wr ∧ w2.heap.size < wr.heap.size ∧ wr.cell? ⟨w2.heap.size, 0, none⟩ = some (.int .i64 (x % 256)) ∧ wr.cell? ⟨w2.heap.size, 1, none⟩ = some (.bool (bitB x 31)) ∧ wr.cell? ⟨w2.heap.size, 2, none⟩ = some (.bool (bitB x 28)) ∧ wr.cell? ⟨w2.heap.size, 3, none⟩ = some (.bool (bitB x 30)) ∧ wr.cell? ⟨w2.heap.size, 4, none⟩ = some (.bool (bitB x 29))) (fun i _ => 4 - (intOf i).toNat)
  case atStart => exact ⟨0, by omega, rfl, HB3, by simp, by simp, by simp, by simp, by simp, by simp⟩
  case round =>
    obtain ⟨k, hk, rfl, hbw, hs, c0, c1, c2, c3, c4⟩ := hrel
    clear HB3 HB2 H2
    have step : ∀ (v v' : World), Below v.heap.size v v' → w2.heap.size < v.heap.size → w2.heap.size < v'.heap.size ∧ ∀ o, v'.cell? ⟨w2.heap.size, o, none⟩ = v.cell? ⟨w2.heap.size, o, none⟩ := fun v v' h hl => ⟨Nat.lt_of_lt_of_le hl h.size, fun o => h.cell (p := ⟨w2.heap.size, o, none⟩) hl⟩
    have STEP := Bas.hid step
    clear step
    have i0 : ∀ w, (Instr.index 31 (.agg #[.int .i64 0, .int .i64 1, .int .i64 2, .int .i64 d]) (.int .i64 0)).run Try.prog w = .ok (.int .i64 0) w := fun _ => by kernel_rfl
    have i1 : ∀ w, (Instr.index 31 (.agg #[.int .i64 0, .int .i64 1, .int .i64 2, .int .i64 d]) (.int .i64 1)).run Try.prog w = .ok (.int .i64 1) w := fun _ => by kernel_rfl
    have i2 : ∀ w, (Instr.index 31 (.agg #[.int .i64 0, .int .i64 1, .int .i64 2, .int .i64 d]) (.int .i64 2)).run Try.prog w = .ok (.int .i64 2) w := fun _ => by kernel_rfl
    have i3 : ∀ w, (Instr.index 31 (.agg #[.int .i64 0, .int .i64 1, .int .i64 2, .int .i64 d]) (.int .i64 3)).run Try.prog w = .ok (.int .i64 d) w := fun _ => by kernel_rfl
    rcases (by omega : k = 0 ∨ k = 1 ∨ k = 2 ∨ k = 3 ∨ k = 4) with rfl | rfl | rfl | rfl | rfl
    · go_wp2_with (fail)
      refine (kruns_any _ _ _ _ _ _ _).mono ?_
      rintro e v1 ⟨rfl, hv1⟩
      have S := STEP.out _ _ hv1 hs
      replace c0 := (S.2 0).trans c0; replace c1 := (S.2 1).trans c1; replace c2 := (S.2 2).trans c2; replace c3 := (S.2 3).trans c3; replace c4 := (S.2 4).trans c4
      have hs1 := S.1
      clear S
      go_wp2_with (fail)
      refine (rrunsk_any _ _ _ h0 h1).mono ?_
      rintro e w' ⟨rfl, rfl⟩
      go_wp2_with (fail)
      refine (kturned_any _ _ _ _ _ _ _).mono ?_
      rintro e v2 ⟨rfl, hv2⟩
      have S := STEP.out _ _ hv2 hs1
      replace c0 := (S.2 0).trans c0; replace c1 := (S.2 1).trans c1; replace c2 := (S.2 2).trans c2; replace c3 := (S.2 3).trans c3; replace c4 := (S.2 4).trans c4
      have hs2 := S.1
      clear S
      go_wp2_with (fail)
      refine (rturnedk_any _ _ _ h0 h1).mono ?_
      rintro e w' ⟨rfl, rfl⟩
      go_wp2_with (fail)
      go_roundw
      case rel => exact ⟨1, by omega, by go_num, (hbw.trans (hv1.mono hbw.size)).trans (hv2.mono (Nat.le_trans hbw.size hv1.size)), hs2, c0, c1, c2, c3, c4⟩
      case measure => simp [intOf]
    · go_wp2_with (fail)
      refine (kruns_any _ _ _ _ _ _ _).mono ?_
      rintro e v1 ⟨rfl, hv1⟩
      have S := STEP.out _ _ hv1 hs
      replace c0 := (S.2 0).trans c0; replace c1 := (S.2 1).trans c1; replace c2 := (S.2 2).trans c2; replace c3 := (S.2 3).trans c3; replace c4 := (S.2 4).trans c4
      have hs1 := S.1
      clear S
      go_wp2_with (fail)
      refine (rrunsk_any _ _ _ h0 h1).mono ?_
      rintro e w' ⟨rfl, rfl⟩
      go_wp2_with (fail)
      refine (kturned_any _ _ _ _ _ _ _).mono ?_
      rintro e v2 ⟨rfl, hv2⟩
      have S := STEP.out _ _ hv2 hs1
      replace c0 := (S.2 0).trans c0; replace c1 := (S.2 1).trans c1; replace c2 := (S.2 2).trans c2; replace c3 := (S.2 3).trans c3; replace c4 := (S.2 4).trans c4
      have hs2 := S.1
      clear S
      go_wp2_with (fail)
      refine (rturnedk_any _ _ _ h0 h1).mono ?_
      rintro e w' ⟨rfl, rfl⟩
      go_wp2_with (fail)
      go_roundw
      case rel => exact ⟨2, by omega, by go_num, (hbw.trans (hv1.mono hbw.size)).trans (hv2.mono (Nat.le_trans hbw.size hv1.size)), hs2, c0, c1, c2, c3, c4⟩
      case measure => simp [intOf]
    · go_wp2_with (fail)
      refine (kruns_any _ _ _ _ _ _ _).mono ?_
      rintro e v1 ⟨rfl, hv1⟩
      have S := STEP.out _ _ hv1 hs
      replace c0 := (S.2 0).trans c0; replace c1 := (S.2 1).trans c1; replace c2 := (S.2 2).trans c2; replace c3 := (S.2 3).trans c3; replace c4 := (S.2 4).trans c4
      have hs1 := S.1
      clear S
      go_wp2_with (fail)
      refine (rrunsk_any _ _ _ h0 h1).mono ?_
      rintro e w' ⟨rfl, rfl⟩
      go_wp2_with (fail)
      refine (kturned_any _ _ _ _ _ _ _).mono ?_
      rintro e v2 ⟨rfl, hv2⟩
      have S := STEP.out _ _ hv2 hs1
      replace c0 := (S.2 0).trans c0; replace c1 := (S.2 1).trans c1; replace c2 := (S.2 2).trans c2; replace c3 := (S.2 3).trans c3; replace c4 := (S.2 4).trans c4
      have hs2 := S.1
      clear S
      go_wp2_with (fail)
      refine (rturnedk_any _ _ _ h0 h1).mono ?_
      rintro e w' ⟨rfl, rfl⟩
      go_wp2_with (fail)
      go_roundw
      case rel => exact ⟨3, by omega, by go_num, (hbw.trans (hv1.mono hbw.size)).trans (hv2.mono (Nat.le_trans hbw.size hv1.size)), hs2, c0, c1, c2, c3, c4⟩
      case measure => simp [intOf]
    · go_wp2_with (fail)
      refine (kruns_any _ _ _ _ _ _ _).mono ?_
      rintro e v1 ⟨rfl, hv1⟩
      have S := STEP.out _ _ hv1 hs
      replace c0 := (S.2 0).trans c0; replace c1 := (S.2 1).trans c1; replace c2 := (S.2 2).trans c2; replace c3 := (S.2 3).trans c3; replace c4 := (S.2 4).trans c4
      have hs1 := S.1
      clear S
      go_wp2_with (fail)
      refine (rrunsk_any _ _ _ h0 h1).mono ?_
      rintro e w' ⟨rfl, rfl⟩
      go_wp2_with (fail)
      refine (kturned_any _ _ _ _ _ _ _).mono ?_
      rintro e v2 ⟨rfl, hv2⟩
      have S := STEP.out _ _ hv2 hs1
      replace c0 := (S.2 0).trans c0; replace c1 := (S.2 1).trans c1; replace c2 := (S.2 2).trans c2; replace c3 := (S.2 3).trans c3; replace c4 := (S.2 4).trans c4
      have hs2 := S.1
      clear S
      go_wp2_with (fail)
      refine (rturnedk_any _ _ _ h0 h1).mono ?_
      rintro e w' ⟨rfl, rfl⟩
      go_wp2_with (fail)
      go_roundw
      case rel => exact ⟨4, by omega, by go_num, (hbw.trans (hv1.mono hbw.size)).trans (hv2.mono (Nat.le_trans hbw.size hv1.size)), hs2, c0, c1, c2, c3, c4⟩
      case measure => simp [intOf]
    · go_wp2_with (fail)
      go_ret
      exact ⟨rfl, hbw⟩

theorem coverKerx_law (x d : Int) (w : World) (wx : (Lit.int .u32 x).wf = true) (_wd : (Lit.int .i64 d).wf = true) :
    Calls Try.prog 4 #[.int .u32 x, .int .i64 d] w fun e w' => e = .returned (.bool true) ∧ Below w.heap.size w w' :=
  coverKerx_walk x d w (Bas.wf_u32 wx).1 (Bas.wf_u32 wx).2
end Cov
end Go.Proofs.Ytakpppgikgimnaa
