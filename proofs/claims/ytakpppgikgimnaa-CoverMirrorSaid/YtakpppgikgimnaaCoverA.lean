/- Contracts of layer 10 (cover) and of its reference: plain functions. -/
import Derived.Test.YtakpppgikgimnaaBase
namespace Go.Proofs.Ytakpppgikgimnaa
open Go.RowKit
namespace Cov

/-- bit n of a word. -/
def bitB (w : Int) (n : Nat) : Bool := w / 2 ^ n % 2 == 1

theorem div_pow (w : Int) (k : Nat) : w / 2 ^ k / 2 = w / 2 ^ (k + 1) := by
  rw [Int.pow_succ, Int.ediv_ediv_of_nonneg (Int.le_of_lt (Int.pow_pos (by omega)))]

set_option maxHeartbeats 400000 in
theorem bit_any (x : Int) (n : Nat) (w : World) (h0 : 0 ≤ x) (h1 : x ≤ 4294967295) (hn : n ≤ 40) :
    Calls Try.prog 54 #[.int .u32 x, .int .i64 n] w fun e w' => e = .returned (.bool (bitB x n)) ∧ w = w' := by
  go_enter Try.func54, Try.ntmps54
  go_wp2
  go_loop [0, 5] (fun v i => ∃ k : Nat, k ≤ n ∧ i = .int .i64 k ∧ v = .int .u32 (x / 2 ^ k)) (fun _ i => n - (intOf i).toNat)
  case atStart => exact ⟨0, Nat.zero_le _, rfl, by simp⟩
  case round =>
    obtain ⟨k, hk, rfl, rfl⟩ := hrel
    have hb0 : 0 ≤ x / 2 ^ k := Int.ediv_nonneg h0 (Int.le_of_lt (Int.pow_pos (by omega)))
    have hb1 : x / 2 ^ k ≤ 4294967295 := Int.le_trans (Int.ediv_le_self _ h0) h1
    have hd := div_pow x k
    have HD := Bas.hid hd
    clear hd
    go_wp2
    · go_round
      case rel => exact ⟨k + 1, by omega, by go_num, by rw [← HD.out]⟩
      case measure => simp [intOf]; omega
    · have hkn : k = n := by omega
      subst hkn
      go_ret
      exact ⟨rfl, rfl⟩

set_option maxHeartbeats 400000 in
theorem kind_any (x : Int) (w : World) (h0 : 0 ≤ x) (h1 : x ≤ 4294967295) :
    Calls Try.prog 17 #[.int .u32 x] w fun e w' => e = .returned (.int .i64 (x % 256)) ∧ w = w' := by
  go_enter Try.func17, Try.ntmps17
  go_wp2
  go_ret
  exact ⟨rfl, rfl⟩

theorem shr1 (x : Int) (k : Nat) (m : Int) (hm : m = ((2 ^ k : Nat) : Int)) (h0 : 0 ≤ x) (h1 : x ≤ 4294967295) : (bits .and .u32 (x / m) 1 == 1) = bitB x k := by
  have h2 : 0 ≤ x / m := Int.ediv_nonneg h0 (by rw [hm]; exact Int.natCast_nonneg _)
  have h3 : x / m ≤ 4294967295 := Int.le_trans (Int.ediv_le_self _ h0) h1
  rw [Bas.u32_mask _ 1 1 (by simp) (by omega) h2 h3, hm]
  simp [bitB]

set_option maxHeartbeats 400000 in
theorem ofMorx_any (x : Int) (w : World) (h0 : 0 ≤ x) (h1 : x ≤ 4294967295) :
    Calls Try.prog 16 #[.int .u32 x] w fun e w' => e = .returned (.agg #[.int .i64 (x % 256), .bool (bitB x 31), .bool (bitB x 30), .bool (bitB x 29), .bool (bitB x 28)]) ∧ Below w.heap.size w w' := by
  have e0 : wrap64 (bits .and .u32 x 255) = x % 256 := by rw [Bas.u32_mask _ 255 8 (by simp) (by omega) h0 h1]; unfold wrap64; omega
  have e31 := shr1 x 31 2147483648 (by simp) h0 h1
  have e30 := shr1 x 30 1073741824 (by simp) h0 h1
  have e29 := shr1 x 29 536870912 (by simp) h0 h1
  have e28 := shr1 x 28 268435456 (by simp) h0 h1
  go_enter Try.func16, Try.ntmps16
  go_wp2
  exact bodyPost_ret (v := .agg #[.int .i64 (x % 256), .bool (bitB x 31), .bool (bitB x 30), .bool (bitB x 29), .bool (bitB x 28)]) (by simp [results, Try.results16, go_sem]) rfl ⟨rfl, (Below.refl _ _).alloc (Nat.le_refl _) _⟩

set_option maxHeartbeats 400000 in
theorem ofKerx_any (x : Int) (w : World) (h0 : 0 ≤ x) (h1 : x ≤ 4294967295) :
    Calls Try.prog 24 #[.int .u32 x] w fun e w' => e = .returned (.agg #[.int .i64 (x % 256), .bool (bitB x 31), .bool (bitB x 28), .bool (bitB x 30), .bool (bitB x 29)]) ∧ Below w.heap.size w w' := by
  have e0 : wrap64 (bits .and .u32 x 255) = x % 256 := by rw [Bas.u32_mask _ 255 8 (by simp) (by omega) h0 h1]; unfold wrap64; omega
  have e31 := shr1 x 31 2147483648 (by simp) h0 h1
  have e30 := shr1 x 30 1073741824 (by simp) h0 h1
  have e29 := shr1 x 29 536870912 (by simp) h0 h1
  have e28 := shr1 x 28 268435456 (by simp) h0 h1
  go_enter Try.func24, Try.ntmps24
  go_wp2
  exact bodyPost_ret (v := .agg #[.int .i64 (x % 256), .bool (bitB x 31), .bool (bitB x 28), .bool (bitB x 30), .bool (bitB x 29)]) (by simp [results, Try.results24, go_sem]) rfl ⟨rfl, (Below.refl _ _).alloc (Nat.le_refl _) _⟩

/-- is it a direction? -/
def isDir (d : Int) : Bool := decide (0 ≤ d) && decide (d ≤ 2)

set_option maxHeartbeats 400000 in
theorem is_any (d : Int) (w : World) :
    Calls Try.prog 23 #[.int .i64 d] w fun e w' => e = .returned (.bool (isDir d)) ∧ w = w' := by
  by_cases hd : 0 ≤ d
  · have hd' : decide (0 ≤ d) = true := by simpa using hd
    go_enter Try.func23, Try.ntmps23
    go_wp2
    go_ret
    exact ⟨by simp [isDir, hd], rfl⟩
  · have hd' : decide (0 ≤ d) = false := by simpa using hd
    go_enter Try.func23, Try.ntmps23
    go_wp2
    go_ret
    exact ⟨by simp [isDir]; omega, rfl⟩

theorem is_eq (d : Int) (b : Bool) (hb : isDir d = b) (w : World) :
    Calls Try.prog 23 #[.int .i64 d] w fun e w' => e = .returned (.bool b) ∧ w = w' := hb ▸ is_any d w

def fits (v : Bool) (d : Int) : Bool := isDir d && (v == (d == 2))
def runsM (v both : Bool) (d : Int) : Bool := fits v d || both && isDir d
def turnedM (back logical : Bool) (d : Int) : Bool := back != (!logical && d == 1)
def runsK (v variation : Bool) (d : Int) : Bool := fits v d && !variation
def turnedK (back : Bool) (d : Int) : Bool := back != (d == 1)

set_option maxHeartbeats 400000 in
theorem fits_any (kind : Int) (v back : Bool) (d : Int) (w : World) :
    Calls Try.prog 30 #[.agg #[.int .i64 kind, .bool v, .bool back], .int .i64 d] w fun e w' => e = .returned (.bool (fits v d)) ∧ Below w.heap.size w w' := by
  cases hb : isDir d
  all_goals
    go_enter Try.func30, Try.ntmps30
    go_wp2_with ((go_at_call 23; refine (is_eq _ _ hb _).mono ?_; rintro e w' ⟨rfl, rfl⟩))
    go_ret
    exact ⟨by simp [fits, hb], (Below.refl _ _).alloc (Nat.le_refl _) _⟩

end Cov
end Go.Proofs.Ytakpppgikgimnaa
