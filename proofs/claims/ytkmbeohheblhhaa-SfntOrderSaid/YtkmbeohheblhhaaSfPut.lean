/- sfnt.put and sfnt.sum: some bytes, some number. -/
import Derived.Test.YtkmbeohheblhhaaFontMkD
import Derived.Test.YtkmbeohheblhhaaTwoRows
namespace Go.Proofs.Ytkmbeohheblhhaa
open Go.RowKit
namespace Sy
open Fo Vw Wr

set_option maxRecDepth 20000 in
set_option maxHeartbeats 2000000 in
theorem sput_any (n : Int) (size : Nat) (base : Nat) (v : Value) (xs : List Int) (w : World) (hn : 0 ≤ n) (_hn2 : n ≤ 9223372036854775807) (hs : size ≤ 8) (hxs : xs.length ≤ 1000000000) (hbase : base ≤ w.heap.size)
    (hown : w.ownsRow base 5 1 v xs.length (xs.map (Value.int .u8))) :
    Calls Try.prog 26 #[v, .int .i64 n, .int .i64 size] w (PutPost w base v (xs ++ putB n size)) := by
  have HG := Bas.hid (Grown.refl hown)
  clear hown
  go_enter Try.func26, Try.ntmps26
  go_wp2_with (fail)
  go_loopw [0, 7] (fun cv c wr => ∃ (k : Nat) (cur : List Int), k ≤ size ∧ c = .int .i64 ((k : Int) - 1) ∧ cur ++ putB n k = xs ++ putB n size ∧ Grown w base v cur cv wr) (fun _ c _ => (intOf c + 1).toNat)
  case atStart => exact ⟨size, xs, Nat.le_refl _, rfl, rfl, HG.out⟩
  case round =>
    obtain ⟨k, cur, hk, rfl, hcur, hg⟩ := hrel
    have hcl : cur.length ≤ 1000000008 := by
      have := congrArg List.length hcur
      simp [putB_len] at this
      omega
    have HC := Bas.hid hcur
    have HGR := Bas.hid hg
    clear hcur hg
    by_cases hk0 : 0 < k
    · obtain ⟨j, rfl⟩ : ∃ j, k = j + 1 := ⟨k - 1, by omega⟩
      have e1 : ((j + 1 : Nat) : Int) - 1 = (j : Int) := by omega
      rw [e1]
      clear e1
      obtain ⟨b1, b2⟩ := quo_bd n j hn
      have hp : Hid (putB n (j + 1) = (n / 2 ^ (8 * j)) % 256 :: putB n j) := by unfold Hid; rw [Int.pow_mul]; rfl
      have hq : n / 2 ^ (8 * j) = n / 256 ^ j := by rw [Int.pow_mul]; rfl
      rw [← hq] at b1 b2
      clear hq
      have b3 : 0 ≤ n / 2 ^ (8 * j) % 256 := by omega
      have b4 : n / 2 ^ (8 * j) % 256 ≤ 255 := by omega
      go_wp2_with (at_builtin; refine Row.append_at rfl _ _ 22 5 rfl (.int .u8 0) 1 1 Try.underlying22 info8 rfl (by decide) base _ cur.length (cur.map (Value.int .u8)) rfl (HGR.out.own.alloc _) (.slice (some ⟨wr.heap.size, 0, none⟩) 1 1) 1 [.int .u8 (n / 2 ^ (8 * j) % 256)] rfl (Row.leads_one _ _ _) rfl (by simp; rfl) (by unfold maxLen; omega) (by omega) (by have := HGR.out.grow.size; simp; omega) ?_)
      intro v' w2 hown2 hg2 _ hat
      generalize n / 2 ^ (8 * j) % 256 = q at *
      have HG2 := Bas.hid (HGR.out.add [q] (by simpa using hown2) (Bas.galloc (Bas.grefl _ _) _) hg2 (hat.imp id fun h => ⟨_, h, by omega⟩))
      clear hown2 hg2 hat
      go_wp2_with (fail)
      go_roundw
      case rel => exact ⟨j, cur ++ [q], by omega, by go_num, by rw [← HC.out, hp.out]; simp, HG2.out⟩
      case measure => simp [intOf]
    · have hk00 : k = 0 := by omega
      subst hk00
      go_wp2_with (fail)
      go_ret
      have h1 := HGR.out
      have h2 := HC.out
      simp only [putB, List.append_nil] at h2
      rw [h2] at h1
      exact ⟨_, rfl, h1⟩

/-- A table's checksum: some number of its bytes. -/
def sumS : List Int → Nat → Int → Int
  | [], _, n => n
  | x :: l, i, n => sumS l (i + 1) ((n + x * 2 ^ (24 - 8 * (i % 4)) % 4294967296) % 4294967296)
theorem sumS_snoc (x : Int) : ∀ (l : List Int) (i : Nat) (n : Int), sumS (l ++ [x]) i n = (sumS l i n + x * 2 ^ (24 - 8 * ((i + l.length) % 4)) % 4294967296) % 4294967296
  | [], i, n => rfl
  | y :: l, i, n => by
    show sumS (l ++ [x]) (i + 1) _ = _
    rw [sumS_snoc x l (i + 1), List.length_cons, show i + 1 + l.length = i + (l.length + 1) by omega]
    rfl
theorem sumS_bd : ∀ (l : List Int) (i : Nat) (n : Int), 0 ≤ n ∧ n < 4294967296 → 0 ≤ sumS l i n ∧ sumS l i n < 4294967296
  | [], _, _, h => h
  | x :: l, i, n, _ => sumS_bd l (i + 1) _ (by omega)

set_option maxRecDepth 20000 in
set_option maxHeartbeats 2000000 in
theorem ssum_any (a : Option Addr) (len cap : Nat) (bs : List Int) (w : World) (hv : VB w a bs) (hbl : bs.length = len) (hsmall : len ≤ 1000000000) :
    Calls Try.prog 27 #[.slice a len cap] w fun e w' => e = .returned (.int .i64 (sumS bs 0 0)) ∧ w = w' := by
  have HV := Bas.hid hv
  have HL := Bas.hid hbl
  clear hv hbl
  go_enter Try.func27, Try.ntmps27
  go_wp2_with (fail)
  go_loop [3, 8] (fun vn vi => ∃ i : Nat, i ≤ len ∧ vi = .int .i64 i ∧ vn = .int .u32 (sumS (bs.take i) 0 0)) (fun _ vi => len - (intOf vi).toNat)
  case atStart => exact ⟨0, Nat.zero_le _, rfl, rfl⟩
  case round =>
    obtain ⟨i, hi, rfl, rfl⟩ := hrel
    by_cases hlt : i < len
    · have e1 : decide ((i : Int) < (len : Int)) = true := by simp; omega
      have e2 : decide (i < len) = true := by simp; omega
      obtain ⟨bo, o, ha, hc⟩ := HV.out.cell i (by rw [HL.out]; exact hlt)
      subst ha
      have hb := HV.out.byte (bs.getD i 0) (by rw [List.getD_eq_getElem?_getD, List.getElem?_eq_getElem (by rw [HL.out]; exact hlt)]; exact List.getElem_mem _)
      have HS : Hid (sumS (bs.take (i + 1)) 0 0 = (sumS (bs.take i) 0 0 + bs.getD i 0 * 2 ^ (24 - 8 * (i % 4)) % 4294967296) % 4294967296) := by
        unfold Hid
        rw [List.take_add_one, List.getElem?_eq_getElem (by rw [HL.out]; exact hlt)]
        show sumS (bs.take i ++ [_]) 0 0 = _
        rw [sumS_snoc, List.length_take, Nat.min_eq_left (by rw [HL.out]; omega), Nat.zero_add, List.getD_eq_getElem?_getD, List.getElem?_eq_getElem (by rw [HL.out]; exact hlt)]
        rfl
      obtain ⟨s1, s2⟩ := sumS_bd (bs.take i) 0 0 (by omega)
      generalize bs.getD i 0 = x at *
      generalize sumS (bs.take i) 0 0 = y at *
      go_wp2_with (fail)
      go_round
      case rel => exact ⟨i + 1, by omega, by go_num, by rw [HS.out]⟩
      case measure => simp [intOf]; omega
    · obtain rfl : i = len := by omega
      have e1 : decide ((i : Int) < (i : Int)) = false := by simp
      have HT : Hid (bs.take i = bs) := List.take_of_length_le (by rw [HL.out]; exact Nat.le_refl _)
      rw [HT.out]
      obtain ⟨s1, s2⟩ := sumS_bd bs 0 0 (by omega)
      obtain ⟨y, hy⟩ : ∃ y, sumS bs 0 0 = y := ⟨_, rfl⟩
      rw [hy] at s1 s2 ⊢
      have HY := Bas.hid hy
      clear hy
      go_wp2_with (fail)
      go_ret
      exact ⟨by show Ending.returned (Value.int .i64 y) = _; rw [HY.out], rfl⟩
end Sy
end Go.Proofs.Ytkmbeohheblhhaa
