/- Contracts of the reference of layer 1. -/
import Derived.Test.YtdmhenlfhbigbaaVArg
namespace Go.Proofs.Ytdmhenlfhbigbaa
open Go.RowKit
namespace Ref01
open Vw

set_option maxHeartbeats 400000 in
theorem in_yes (size at' n : Int) (w : World) (hs : size ≤ 9223372036854775807) (h0 : 0 ≤ at') (h1 : 0 ≤ n) (h2 : at' + n ≤ size) :
    Calls Try.prog 48 #[.int .i64 size, .int .i64 at', .int .i64 n] w fun e w' => e = .returned (.bool true) ∧ w = w' := by
  have h3 : n ≤ size - at' := by omega
  go_enter Try.func48, Try.ntmps48
  go_wp2
  go_ret
  exact ⟨by first | rfl | (simp; done) | (simp; omega), rfl⟩

set_option maxHeartbeats 400000 in
theorem in_no (size at' n : Int) (w : World) (hs0 : 0 ≤ size) (hs : size ≤ 9223372036854775807) (h : ¬ (0 ≤ at' ∧ 0 ≤ n ∧ at' + n ≤ size)) :
    Calls Try.prog 48 #[.int .i64 size, .int .i64 at', .int .i64 n] w fun e w' => e = .returned (.bool false) ∧ w = w' := by
  rcases (by omega : at' < 0 ∨ (0 ≤ at' ∧ n < 0) ∨ (0 ≤ at' ∧ 0 ≤ n ∧ size < at') ∨ (0 ≤ at' ∧ 0 ≤ n ∧ at' ≤ size ∧ size - at' < n)) with h' | ⟨h', h''⟩ | ⟨h', h'', h3⟩ | ⟨h', h'', h3, h4⟩
  all_goals
    clear h
    go_enter Try.func48, Try.ntmps48
    go_wp2
    go_ret
    exact ⟨by first | rfl | (simp; done) | (simp; omega), rfl⟩

theorem num_snoc (l : List Int) (b : Int) : num (l ++ [b]) = 256 * num l + b := by simp [num]

theorem num_bd_aux : ∀ (n : Nat) (l : List Int), l.length = n → (∀ x ∈ l, 0 ≤ x ∧ x ≤ 255) → 0 ≤ num l ∧ num l < 256 ^ n
  | 0, l, hl, _ => by
    have : l = [] := List.length_eq_zero_iff.1 hl
    subst this
    simp [num]
  | n + 1, l, hl, hb => by
    rcases List.eq_nil_or_concat l with rfl | ⟨l', b, rfl⟩
    · simp at hl
    · have h1 := num_bd_aux n l' (by simpa using hl) (fun x hx => hb x (by simp [hx]))
      have h2 := hb b (by simp)
      rw [List.concat_eq_append, num_snoc, Int.pow_succ]
      omega

theorem num_bd (l : List Int) (hb : ∀ x ∈ l, 0 ≤ x ∧ x ≤ 255) : 0 ≤ num l ∧ num l < 256 ^ l.length := num_bd_aux _ l rfl hb

theorem be_succ (bs : List Int) (p k : Nat) (h : p + k < bs.length) : be bs p (k + 1) = 256 * be bs p k + bs.getD (p + k) 0 := by
  unfold be
  rw [List.take_add_one, ← num_snoc]
  congr 2
  rw [List.getElem?_drop, List.getD_eq_getElem?_getD, List.getElem?_eq_getElem h]
  rfl

theorem be_bd (bs : List Int) (hb : ∀ x ∈ bs, 0 ≤ x ∧ x ≤ 255) (p k : Nat) (hk : k ≤ 4) : 0 ≤ be bs p k ∧ be bs p k < 4294967296 := by
  have h := num_bd ((bs.drop p).take k) (fun x hx => hb x (List.mem_of_mem_drop (List.mem_of_mem_take hx)))
  have hl : ((bs.drop p).take k).length ≤ k := List.length_take_le _ _
  have h2 : (256 : Nat) ^ ((bs.drop p).take k).length ≤ 256 ^ 4 := Nat.pow_le_pow_right (by omega) (by omega)
  have h3 : (256 : Int) ^ ((bs.drop p).take k).length = ((256 ^ ((bs.drop p).take k).length : Nat) : Int) := by simp
  exact ⟨h.1, by unfold be; omega⟩

set_option maxHeartbeats 400000 in
theorem u_ok (a : Option Addr) (len cap : Nat) (bs : List Int) (at' : Int) (n : Nat) (w : World) (hlm : len ≤ 140737488355328) (hv : VB w a bs) (hbl : bs.length = len) (hn : n ≤ 4) (h0 : 0 ≤ at') (h2 : at' + n ≤ len) :
    Calls Try.prog 31 #[.slice a len cap, .int .i64 at', .int .i64 n] w fun e w' => e = .returned (.int .i64 (be bs at'.toNat n)) ∧ w = w' := by
  obtain ⟨p, rfl⟩ := Int.eq_ofNat_of_zero_le h0
  rw [Int.toNat_natCast]
  have hbd := fun k hk => be_bd bs hv.byte p k hk
  have hcell := hv.cell
  have hsucc := be_succ bs p
  have hbyte := fun i => getD_byte hv.byte i
  have HBD := Bas.hid hbd
  have HC := Bas.hid hcell
  have HS := Bas.hid hsucc
  have HY := Bas.hid hbyte
  clear hbd hcell hsucc hbyte hv
  go_enter Try.func31, Try.ntmps31
  go_wp2_with (go_at_call 48; refine (in_yes _ _ _ _ (by omega) (by omega) (by omega) (by omega)).mono ?_; rintro e w' ⟨rfl, rfl⟩)
  go_loop [7, 8] (fun v i => ∃ k : Nat, k ≤ n ∧ i = .int .i64 k ∧ v = .int .i64 (be bs p k)) (fun _ i => n - (intOf i).toNat)
  case atStart => exact ⟨0, by omega, rfl, by simp [be, num]⟩
  case round =>
    obtain ⟨k, hk, rfl, rfl⟩ := hrel
    by_cases hkn : k < n
    · obtain ⟨b, o, rfl, hc⟩ := HC.out (p + k) (by omega)
      have hb1 := HBD.out k (by omega)
      have hs1 := HS.out k (by omega)
      have hy1 := HY.out (p + k)
      generalize bs.getD (p + k) 0 = y at hc hs1 hy1
      generalize be bs p k = x at hb1 hs1 ⊢
      obtain ⟨y1, y2⟩ := hy1
      obtain ⟨x1, x2⟩ := hb1
      have HS1 := Bas.hid hs1
      clear hs1
      go_wp2
      go_round
      case rel => exact ⟨k + 1, by omega, by go_num, by rw [HS1.out]⟩
      case measure => simp [intOf]; omega
    · have hkk : k = n := by omega
      subst hkk
      go_wp2
      go_ret
      exact ⟨rfl, rfl⟩

set_option maxHeartbeats 400000 in
theorem u_no (a : Option Addr) (len cap : Nat) (at' n : Int) (w : World) (hlm : len ≤ 140737488355328) (h : ¬ (0 ≤ at' ∧ 0 ≤ n ∧ at' + n ≤ len)) :
    Calls Try.prog 31 #[.slice a len cap, .int .i64 at', .int .i64 n] w fun e w' => e = .returned (.int .i64 (-1)) ∧ w = w' := by
  go_enter Try.func31, Try.ntmps31
  go_wp2_with (go_at_call 48; refine (in_no _ _ _ _ (by omega) (by omega) (by omega)).mono ?_; rintro e w' ⟨rfl, rfl⟩)
  go_ret
  exact ⟨rfl, rfl⟩

/-- What U answers. -/
def uval (bs : List Int) (at' : Int) (n : Nat) : Int := if 0 ≤ at' ∧ at' + n ≤ bs.length then be bs at'.toNat n else -1

theorem u_any (a : Option Addr) (len cap : Nat) (bs : List Int) (at' : Int) (n : Nat) (m : Int) (hm : m = n) (w : World) (hlm : len ≤ 140737488355328) (hv : VB w a bs) (hbl : bs.length = len) (hn : n ≤ 4) :
    Calls Try.prog 31 #[.slice a len cap, .int .i64 at', .int .i64 m] w fun e w' => e = .returned (.int .i64 (uval bs at' n)) ∧ w = w' := by
  subst hm
  unfold uval
  rw [hbl]
  by_cases f : 0 ≤ at' ∧ at' + n ≤ len
  · rw [if_pos f]
    exact u_ok a len cap bs at' n w hlm hv hbl hn f.1 f.2
  · rw [if_neg f]
    exact u_no a len cap at' n w hlm (by omega)

end Ref01
end Go.Proofs.Ytdmhenlfhbigbaa
