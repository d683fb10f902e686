/- Plain: numbers that were written are read. -/
import Derived.Test.YtkmbeohheblhhaaPut
namespace Go.Proofs.Ytkmbeohheblhhaa
open Go.RowKit
namespace Wr
open Vw

theorem num_cons (x : Int) (l : List Int) : num (x :: l) = x * 256 ^ l.length + num l := by
  have key : ∀ (l : List Int) (a : Int), l.foldl (fun n b => 256 * n + b) a = a * 256 ^ l.length + l.foldl (fun n b => 256 * n + b) 0 := by
    intro l
    induction l with
    | nil => intro a; simp
    | cons y l ih =>
      intro a
      simp only [List.foldl_cons, List.length_cons]
      rw [ih (256 * a + y), ih (256 * 0 + y)]
      rw [Int.pow_succ, Int.add_mul, Int.add_mul]
      have : 256 * a * 256 ^ l.length = a * (256 ^ l.length * 256) := by rw [Int.mul_comm 256 a, Int.mul_assoc, Int.mul_comm 256]
      omega
  unfold num
  simp only [List.foldl_cons]
  rw [key]
  simp

theorem num_putB (n : Int) (hn : 0 ≤ n) : ∀ k : Nat, num (putB n k) = n % 256 ^ k
  | 0 => by simp [putB, num]
  | k + 1 => by
    have ih := num_putB n hn k
    have hp : (0 : Int) < 256 ^ k := Int.pow_pos (by omega)
    rw [putB, num_cons, ih, putB_len, Int.pow_succ]
    have h1 := Int.mul_ediv_add_emod n (256 ^ k)
    have h2 := Int.mul_ediv_add_emod (n / 256 ^ k) 256
    have h3 := Int.emod_nonneg n (Int.ne_of_gt hp)
    have h4 := Int.emod_lt_of_pos n hp
    have h5 := Int.emod_nonneg (n / 256 ^ k) (show (256 : Int) ≠ 0 by omega)
    have h6 := Int.emod_lt_of_pos (n / 256 ^ k) (show (0 : Int) < 256 by omega)
    generalize n / 256 ^ k % 256 = r at *
    generalize n / 256 ^ k / 256 = q at *
    generalize n / 256 ^ k = d at *
    generalize n % 256 ^ k = t at *
    generalize (256 : Int) ^ k = P at *
    have e : n = (P * 256) * q + (r * P + t) := by
      rw [← h1, ← h2, Int.mul_add, ← Int.mul_assoc, Int.mul_comm P r]; omega
    have b1 : 0 ≤ r * P + t := Int.add_nonneg (Int.mul_nonneg h5 (Int.le_of_lt hp)) h3
    have b2 : r * P + t < P * 256 := by
      have h8 : r * P ≤ 255 * P := Int.mul_le_mul_of_nonneg_right (by omega) (Int.le_of_lt hp)
      omega
    rw [e, Int.mul_add_emod_self_left, Int.emod_eq_of_lt b1 b2]

/-- What stands behind 'pre', as it was written. -/
theorem be_mid (pre post : List Int) (n : Int) (k p : Nat) (hp : p = pre.length) (h0 : 0 ≤ n) (h1 : n < 256 ^ k) : be (pre ++ (putB n k ++ post)) p k = n := by
  subst hp
  unfold be
  rw [List.drop_left]
  have : (putB n k ++ post).take k = putB n k := by
    rw [List.take_append_of_le_length (by rw [putB_len]; exact Nat.le_refl _), List.take_of_length_le (by rw [putB_len]; exact Nat.le_refl _)]
  rw [this, num_putB n h0, Int.emod_eq_of_lt h0 h1]

/-- A list's beginning reads as the list. -/
theorem be_take (bs : List Int) (m p k : Nat) (h : p + k ≤ m) : be (bs.take m) p k = be bs p k := by
  unfold be
  rw [List.drop_take, List.take_take, Nat.min_eq_left (by omega)]
end Wr
end Go.Proofs.Ytkmbeohheblhhaa
