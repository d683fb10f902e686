/- Contracts of layer 10 (cover), second part. -/
import Derived.Test.YtakpppgikgimnaaCoverA
namespace Go.Proofs.Ytakpppgikgimnaa
open Go.RowKit
namespace Cov

theorem fits_eq (kind : Int) (v back : Bool) (d : Int) (b : Bool) (hb : fits v d = b) (w : World) :
    Calls Try.prog 30 #[.agg #[.int .i64 kind, .bool v, .bool back], .int .i64 d] w fun e w' => e = .returned (.bool b) ∧ Below w.heap.size w w' := hb ▸ fits_any kind v back d w

set_option maxHeartbeats 400000 in
theorem mruns_any (kind : Int) (v back both logical : Bool) (d : Int) (w : World) :
    Calls Try.prog 19 #[.agg #[.int .i64 kind, .bool v, .bool back, .bool both, .bool logical], .int .i64 d] w fun e w' => e = .returned (.bool (runsM v both d)) ∧ Below w.heap.size w w' := by
  cases hf : fits v d <;> cases hi : isDir d <;> cases both
  all_goals
    go_enter Try.func19, Try.ntmps19
    go_wp2_with (first | (go_at_call 30; refine (fits_eq _ _ _ _ _ hf _).mono ?_; rintro e w1 ⟨rfl, hb1⟩; obtain ⟨hc1, hf1⟩ := Bas.bcell hb1) | (go_at_call 23; refine (is_eq _ _ hi _).mono ?_; rintro e w' ⟨rfl, rfl⟩))
    go_ret
    exact ⟨by simp [runsM, hf, hi], ((Below.refl _ _).alloc (Nat.le_refl _) _).trans (hb1.mono (by simp))⟩

set_option maxHeartbeats 400000 in
theorem mturned_any (kind : Int) (v back both logical : Bool) (d : Int) (w : World) :
    Calls Try.prog 21 #[.agg #[.int .i64 kind, .bool v, .bool back, .bool both, .bool logical], .int .i64 d] w fun e w' => e = .returned (.bool (turnedM back logical d)) ∧ Below w.heap.size w w' := by
  cases logical
  all_goals
    go_enter Try.func21, Try.ntmps21
    go_wp2
    go_ret
    exact ⟨by cases back <;> simp [turnedM], ((Below.refl _ _).alloc (Nat.le_refl _) _)⟩

set_option maxHeartbeats 400000 in
theorem kruns_any (kind : Int) (v back cross vari : Bool) (d : Int) (w : World) :
    Calls Try.prog 26 #[.agg #[.int .i64 kind, .bool v, .bool back, .bool cross, .bool vari], .int .i64 d] w fun e w' => e = .returned (.bool (runsK v vari d)) ∧ Below w.heap.size w w' := by
  cases hf : fits v d <;> cases vari
  all_goals
    go_enter Try.func26, Try.ntmps26
    go_wp2_with (first | (go_at_call 30; refine (fits_eq _ _ _ _ _ hf _).mono ?_; rintro e w1 ⟨rfl, hb1⟩; obtain ⟨hc1, hf1⟩ := Bas.bcell hb1) | (go_at_call 23; refine (is_eq _ _ hi _).mono ?_; rintro e w' ⟨rfl, rfl⟩))
    go_ret
    exact ⟨by simp [runsK, hf], ((Below.refl _ _).alloc (Nat.le_refl _) _).trans (hb1.mono (by simp))⟩

set_option maxHeartbeats 400000 in
theorem kturned_any (kind : Int) (v back cross vari : Bool) (d : Int) (w : World) :
    Calls Try.prog 28 #[.agg #[.int .i64 kind, .bool v, .bool back, .bool cross, .bool vari], .int .i64 d] w fun e w' => e = .returned (.bool (turnedK back d)) ∧ Below w.heap.size w w' := by
  go_enter Try.func28, Try.ntmps28
  go_wp2
  go_ret
  exact ⟨by cases back <;> simp [turnedK], ((Below.refl _ _).alloc (Nat.le_refl _) _)⟩

theorem bit_eq (x : Int) (n : Nat) (b : Bool) (hb : bitB x n = b) (w : World) (h0 : 0 ≤ x) (h1 : x ≤ 4294967295) (hn : n ≤ 40) :
    Calls Try.prog 54 #[.int .u32 x, .int .i64 n] w fun e w' => e = .returned (.bool b) ∧ w = w' := hb ▸ bit_any x n w h0 h1 hn

theorem bit_c (x m : Int) (n : Nat) (hm : m = n) (w : World) (h0 : 0 ≤ x) (h1 : x ≤ 4294967295) (hn : n ≤ 40) :
    Calls Try.prog 54 #[.int .u32 x, .int .i64 m] w fun e w' => e = .returned (.bool (bitB x n)) ∧ w = w' := hm ▸ bit_any x n w h0 h1 hn

set_option maxHeartbeats 400000 in
theorem vertical_any (x : Int) (w : World) (h0 : 0 ≤ x) (h1 : x ≤ 4294967295) :
    Calls Try.prog 18 #[.int .u32 x] w fun e w' => e = .returned (.bool (bitB x 31)) ∧ w = w' := by
  go_enter Try.func18, Try.ntmps18
  go_wp2_with ((go_at_call 54; refine (bit_c _ 31 31 rfl _ h0 h1 (by omega)).mono ?_; rintro e w' ⟨rfl, rfl⟩))
  go_ret
  exact ⟨by rfl, rfl⟩

set_option maxHeartbeats 400000 in
theorem cross_any (x : Int) (w : World) (h0 : 0 ≤ x) (h1 : x ≤ 4294967295) :
    Calls Try.prog 25 #[.int .u32 x] w fun e w' => e = .returned (.bool (bitB x 30)) ∧ w = w' := by
  go_enter Try.func25, Try.ntmps25
  go_wp2_with ((go_at_call 54; refine (bit_c _ 30 30 rfl _ h0 h1 (by omega)).mono ?_; rintro e w' ⟨rfl, rfl⟩))
  go_ret
  exact ⟨by rfl, rfl⟩

theorem bit_i (x m : Int) (w : World) (h0 : 0 ≤ x) (h1 : x ≤ 4294967295) (h2 : 0 ≤ m) (hn : m ≤ 40) :
    Calls Try.prog 54 #[.int .u32 x, .int .i64 m] w fun e w' => e = .returned (.bool (bitB x m.toNat)) ∧ w = w' := by
  obtain ⟨n, rfl⟩ := Int.eq_ofNat_of_zero_le h2
  exact bit_any x n w h0 h1 (by omega)

set_option maxHeartbeats 400000 in
theorem rruns_any (x d : Int) (w : World) (h0 : 0 ≤ x) (h1 : x ≤ 4294967295) :
    Calls Try.prog 20 #[.int .u32 x, .int .i64 d] w fun e w' => e = .returned (.bool (runsM (bitB x 31) (bitB x 29) d)) ∧ w = w' := by
  rcases (by omega : d < 0 ∨ (¬ d < 0 ∧ 2 < d) ∨ (0 ≤ d ∧ d ≤ 2)) with ha | ⟨ha, hb⟩ | ⟨ha, hb⟩ <;> cases hc : bitB x 29
  all_goals
    go_enter Try.func20, Try.ntmps20
    go_wp2_with (go_at_call 54; refine (bit_i _ _ _ h0 h1 (by omega) (by omega)).mono ?_; rintro e w' ⟨rfl, rfl⟩)
    all_goals
      go_ret
      exact ⟨by simp [runsM, fits, isDir, *] <;> omega, rfl⟩

set_option maxHeartbeats 400000 in
theorem rturned_any (x d : Int) (w : World) (h0 : 0 ≤ x) (h1 : x ≤ 4294967295) :
    Calls Try.prog 22 #[.int .u32 x, .int .i64 d] w fun e w' => e = .returned (.bool (turnedM (bitB x 30) (bitB x 28) d)) ∧ w = w' := by
  rcases (by omega : d = 1 ∨ d ≠ 1) with ha | ha <;> cases hc : bitB x 28 <;> cases hd : bitB x 30
  all_goals
    go_enter Try.func22, Try.ntmps22
    go_wp2_with (go_at_call 54; refine (bit_i _ _ _ h0 h1 (by omega) (by omega)).mono ?_; rintro e w' ⟨rfl, rfl⟩)
    all_goals
      go_ret
      exact ⟨by simp [turnedM, *], rfl⟩

set_option maxHeartbeats 400000 in
theorem rrunsk_any (x d : Int) (w : World) (h0 : 0 ≤ x) (h1 : x ≤ 4294967295) :
    Calls Try.prog 27 #[.int .u32 x, .int .i64 d] w fun e w' => e = .returned (.bool (runsK (bitB x 31) (bitB x 29) d)) ∧ w = w' := by
  rcases (by omega : d < 0 ∨ (¬ d < 0 ∧ 2 < d) ∨ (0 ≤ d ∧ d ≤ 2)) with ha | ⟨ha, hb⟩ | ⟨ha, hb⟩ <;> cases hc : bitB x 29
  all_goals
    go_enter Try.func27, Try.ntmps27
    go_wp2_with (go_at_call 54; refine (bit_i _ _ _ h0 h1 (by omega) (by omega)).mono ?_; rintro e w' ⟨rfl, rfl⟩)
    all_goals
      go_ret
      exact ⟨by simp [runsK, fits, isDir, *] <;> omega, rfl⟩

set_option maxHeartbeats 400000 in
theorem rturnedk_any (x d : Int) (w : World) (h0 : 0 ≤ x) (h1 : x ≤ 4294967295) :
    Calls Try.prog 29 #[.int .u32 x, .int .i64 d] w fun e w' => e = .returned (.bool (turnedK (bitB x 28) d)) ∧ w = w' := by
  rcases (by omega : d = 1 ∨ d ≠ 1) with ha | ha <;> cases hd : bitB x 28
  all_goals
    go_enter Try.func29, Try.ntmps29
    go_wp2_with (go_at_call 54; refine (bit_i _ _ _ h0 h1 (by omega) (by omega)).mono ?_; rintro e w' ⟨rfl, rfl⟩)
    all_goals
      go_ret
      exact ⟨by simp [turnedK, *], rfl⟩

end Cov
end Go.Proofs.Ytakpppgikgimnaa
