/- Contracts of the reference of layer 1: Rows. -/
import Derived.Test.YtdmhenlfhbigbaaRef01
namespace Go.Proofs.Ytdmhenlfhbigbaa
open Go.RowKit
namespace Ref01
open Vw

/-- What the reference asks. -/
def rowsR (size at' n row : Int) : Prop := 0 ≤ at' ∧ 0 ≤ n ∧ 0 ≤ row ∧ at' ≤ size ∧ (row = 0 ∨ n ≤ (size - at') / row)

theorem rowsR_iff (len : Nat) (at' n row : Int) : rowsR len at' n row ↔ rowsB len at' n row := by
  constructor
  · rintro ⟨h1, h2, h3, h4, h5⟩
    rcases h5 with h5 | h5
    · subst h5
      exact ⟨h2, h3, .inl rfl, h1, by rw [Int.mul_zero]; omega⟩
    · by_cases hr : row = 0
      · subst hr
        exact ⟨h2, h3, .inl rfl, h1, by rw [Int.mul_zero]; omega⟩
      · have h6 : n * row ≤ len - at' := (Int.le_ediv_iff_mul_le (by omega)).1 h5
        exact ⟨h2, h3, .inr ((Int.le_ediv_iff_mul_le (by omega)).2 (by omega)), h1, by omega⟩
  · rintro ⟨h1, h2, h3, h4, h5⟩
    have h6 : 0 ≤ n * row := Int.mul_nonneg h1 h2
    refine ⟨h4, h1, h2, by omega, ?_⟩
    by_cases hr : row = 0
    · exact .inl hr
    · exact .inr ((Int.le_ediv_iff_mul_le (by omega)).2 (by omega))

set_option maxHeartbeats 1000000 in
theorem rows_yes (len : Nat) (at' n row : Int) (w : World) (hs : len ≤ 140737488355328) (hn : n ≤ 9223372036854775807) (hr : row ≤ 9223372036854775807) (h : rowsB len at' n row) :
    Calls Try.prog 32 #[.int .i64 len, .int .i64 at', .int .i64 n, .int .i64 row] w fun e w' => e = .returned (.bool true) ∧ w = w' := by
  obtain ⟨h1, h2, h3, h4, h5⟩ := (rowsR_iff len at' n row).2 h
  clear h
  by_cases hz : row = 0
  · subst hz
    go_enter Try.func32, Try.ntmps32
    go_wp2
    go_ret
    exact ⟨by first | rfl | (simp; done) | (simp; omega), rfl⟩
  · have h6 : n ≤ ((len : Int) - at') / row := by omega
    have q : (row == 0) = false := by simpa using hz
    have p1 : 1 ≤ row := by omega
    have hd0 : 0 ≤ ((len : Int) - at') / row := Int.ediv_nonneg (by omega) h3
    have hd1 : ((len : Int) - at') / row ≤ (len : Int) - at' := Int.ediv_le_self _ (by omega)
    clear h5
    go_enter Try.func32, Try.ntmps32
    go_wp2
    go_ret
    exact ⟨by first | rfl | (simp; done) | (simp; omega), rfl⟩

set_option maxHeartbeats 1000000 in
theorem rows_no (len : Nat) (at' n row : Int) (w : World) (hs : len ≤ 140737488355328) (hn : n ≤ 9223372036854775807) (hr : row ≤ 9223372036854775807) (h : ¬ rowsB len at' n row) :
    Calls Try.prog 32 #[.int .i64 len, .int .i64 at', .int .i64 n, .int .i64 row] w fun e w' => e = .returned (.bool false) ∧ w = w' := by
  have h' : ¬ rowsR len at' n row := fun h' => h ((rowsR_iff len at' n row).1 h')
  by_cases h1 : 0 ≤ at'
  · by_cases h2 : 0 ≤ n
    · by_cases h3 : 0 ≤ row
      · by_cases h4 : at' ≤ len
        · have h5 : row ≠ 0 := fun e => h' ⟨h1, h2, h3, h4, .inl e⟩
          have h6 : ¬ n ≤ ((len : Int) - at') / row := fun e => h' ⟨h1, h2, h3, h4, .inr e⟩
          have q : (row == 0) = false := by simpa using h5
          have p1 : 1 ≤ row := by omega
          have hd0 : 0 ≤ ((len : Int) - at') / row := Int.ediv_nonneg (by omega) h3
          have hd1 : ((len : Int) - at') / row ≤ (len : Int) - at' := Int.ediv_le_self _ (by omega)
          clear h h'
          go_enter Try.func32, Try.ntmps32
          go_wp2
          go_ret
          exact ⟨by first | rfl | (simp; done) | (simp; omega), rfl⟩
        · clear h h'
          go_enter Try.func32, Try.ntmps32
          go_wp2
          go_ret
          exact ⟨rfl, rfl⟩
      · clear h h'
        go_enter Try.func32, Try.ntmps32
        go_wp2
        go_ret
        exact ⟨rfl, rfl⟩
    · clear h h'
      go_enter Try.func32, Try.ntmps32
      go_wp2
      go_ret
      exact ⟨rfl, rfl⟩
  · clear h h'
    go_enter Try.func32, Try.ntmps32
    go_wp2
    go_ret
    exact ⟨rfl, rfl⟩

theorem uval_bd (bs : List Int) (hb : ∀ x ∈ bs, 0 ≤ x ∧ x ≤ 255) (at' : Int) (k : Nat) (hk : k ≤ 4) : -1 ≤ uval bs at' k ∧ uval bs at' k ≤ 4294967295 := by
  unfold uval
  split
  · have := be_bd bs hb at'.toNat k hk; omega
  · omega
theorem uval_nat (bs : List Int) (p k : Nat) (h : p + k ≤ bs.length) : uval bs (p : Int) k = be bs p k := by
  unfold uval
  rw [if_pos ⟨by omega, by omega⟩, Int.toNat_natCast]
end Ref01
end Go.Proofs.Ytdmhenlfhbigbaa
