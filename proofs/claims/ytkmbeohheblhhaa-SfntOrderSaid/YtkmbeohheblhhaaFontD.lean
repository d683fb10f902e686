/- Layer 2 (the reference's Make): a table's sum. -/
import Derived.Test.YtkmbeohheblhhaaRegV
import Derived.Test.YtkmbeohheblhhaaRowC
import Derived.Test.YtkmbeohheblhhaaRowB
import Derived.Test.YtkmbeohheblhhaaOwn
import Derived.Test.YtkmbeohheblhhaaPut
import Derived.Test.YtkmbeohheblhhaaPlanG
namespace Go.Proofs.Ytkmbeohheblhhaa
open Go.RowKit
namespace Fo
open Vw

theorem cell_of_heap {w : World} {b i : Nat} {cs : Array Value} {t : TypeId} {v : Value} (h : w.heap[b]? = some (.cells cs t (0, 0))) (hi : cs[i]? = some v) : w.cell? ⟨b, i, none⟩ = some v := by
  simp [World.cell?, h, hi]
theorem free_of_heap {w : World} {b i : Nat} {cs : Array Value} {t : TypeId} (h : w.heap[b]? = some (.cells cs t (0, 0))) : w.frozen? ⟨b, i, none⟩ = false := by
  simp [World.frozen?, h]
theorem heap_set {w : World} {b i : Nat} {cs : Array Value} {t : TypeId} (h : w.heap[b]? = some (.cells cs t (0, 0))) (v : Value) : (w.setCell ⟨b, i, none⟩ v).heap[b]? = some (.cells (cs.setIfInBounds i v) t (0, 0)) := by
  simp [World.setCell, Array.getElem?_modify, h]
theorem heap_lt {w : World} {b : Nat} {o : Obj} (h : w.heap[b]? = some o) : b < w.heap.size := (Array.getElem?_eq_some_iff.1 h).1
theorem leads_heap {w : World} {g n c : Nat} {cs : List Value} {t : TypeId} (h : w.heap[g]? = some (.cells cs.toArray t (0, 0))) : Row.Leads w (.slice (some ⟨g, 0, none⟩) n c) n cs :=
  .inr ⟨_, c, rfl, fun j u hu => by rw [Addr.add_lit, Nat.zero_add]; exact cell_of_heap h (by simpa using hu)⟩
theorem own_slice {w : World} {base size : Nat} {e : TypeId} {v : Value} {n : Nat} {xs : List Value} (h : w.ownsRow base e size v n xs) : ∃ ad cp, v = .slice ad n cp := by
  rcases Row.owned_parts h with ⟨rfl, rfl, _⟩ | ⟨_, _, h, _⟩
  · exact ⟨_, _, rfl⟩
  · exact ⟨_, _, h⟩
theorem own_ty {w : World} {base : Nat} {v : Value} {n g size : Nat} {xs : List Value} {e t : TypeId} {cs : Array Value} (h : w.ownsRow base e size v n xs) (ho : w.heap[g]? = some (.cells cs t (0, 0))) (hne : e ≠ t) : v.ownBlock ≠ some g := by
  intro e'
  obtain ⟨_, ⟨rfl, _⟩ | ⟨g', cp, cur, rfl, _, hh, _⟩⟩ := h
  · cases e'
  · cases e'
    rw [hh] at ho
    simp at ho
    exact hne ho.2
theorem be_sub (bs : List Int) (q m i k : Nat) (h : i + k ≤ m) : be ((bs.drop q).take m) i k = be bs (q + i) k := by
  unfold be
  rw [List.drop_take, List.take_take, List.drop_drop, Nat.min_eq_left (by omega)]

/-- A part: its tag, and its bytes. -/
structure PartD where
  tag : ByteArray
  data : List Int

def pC (x : PartD × Value) : List Value := [.string x.1.tag, x.2]
theorem pC_len (x : PartD × Value) : (pC x).length = 2 := rfl
def u8C (x : Int) : List Value := [.int .u8 x]

/-- The number of (up to) four bytes, noughts behind. -/
def x4 (bs : List Int) (i : Nat) : Nat → Int
  | 0 => 0
  | k + 1 => x4 bs i k * 256 + (if i + k < bs.length then bs.getD (i + k) 0 else 0)
def sumTo (bs : List Int) : Nat → Int
  | 0 => 0
  | m + 1 => (sumTo bs m + x4 bs (4 * m) 4) % 4294967296
def sumL (bs : List Int) : Int := sumTo bs ((bs.length + 3) / 4)

def topB : Nat → Int
  | 0 => 0
  | k + 1 => topB k * 256 + 255
theorem x4_bd (bs : List Int) (hb : ∀ x ∈ bs, 0 ≤ x ∧ x ≤ 255) (i : Nat) : ∀ k, 0 ≤ x4 bs i k ∧ x4 bs i k ≤ topB k
  | 0 => by simp [x4, topB]
  | k + 1 => by
    have h := x4_bd bs hb i k
    have hy := getD_byte hb (i + k)
    unfold x4 topB
    split <;> omega
theorem topB_le (k : Nat) (h : k < 4) : topB k ≤ 16777215 := by
  match k, h with
  | 0, _ => decide
  | 1, _ => decide
  | 2, _ => decide
  | 3, _ => decide
theorem sumTo_bd (bs : List Int) : ∀ m, 0 ≤ sumTo bs m ∧ sumTo bs m ≤ 4294967295
  | 0 => by simp [sumTo]
  | m + 1 => by unfold sumTo; omega

set_option maxHeartbeats 2000000 in
theorem sum_any (a : Option Addr) (len cap : Nat) (bs : List Int) (w : World) (hv : VB w a bs) (hbl : bs.length = len) (hsmall : len ≤ 1000000000) :
    Calls Try.prog 17 #[.slice a len cap] w fun e w' => e = .returned (.int .i64 (sumL bs)) ∧ w = w' := by
  have HC := Bas.hid hv.cell
  have HX := Bas.hid (x4_bd bs hv.byte)
  have HSB := Bas.hid (sumTo_bd bs)
  have HY := Bas.hid (fun i => getD_byte hv.byte i)
  have HL := Bas.hid hbl
  clear hv hbl
  go_enter Try.func17, Try.ntmps17
  go_wp2_with (fail)
  go_loop [3, 4] (fun vn vi => ∃ m : Nat, 4 * m ≤ len + 3 ∧ vi = .int .i64 (4 * (m : Int)) ∧ vn = .int .i64 (sumTo bs m)) (fun _ vi => len + 4 - (intOf vi).toNat)
  case atStart => exact ⟨0, by omega, rfl, rfl⟩
  case round =>
    obtain ⟨m, hm, rfl, rfl⟩ := hrel
    have hsb := HSB.out m
    have HS1 : Hid (sumTo bs (m + 1) = (sumTo bs m + x4 bs (4 * m) 4) % 4294967296) := rfl
    obtain ⟨n, hn⟩ : ∃ n, sumTo bs m = n := ⟨_, rfl⟩
    rw [hn] at hsb HS1 ⊢
    obtain ⟨hs0, hs1⟩ := hsb
    have HN := Bas.hid hn
    clear hn
    by_cases hml : 4 * m < len
    · have d1 : decide (4 * (m : Int) < (len : Int)) = true := by simp; omega
      have d2 : decide (4 * m < len) = true := by simp; omega
      go_wp2_with (fail)
      go_loop [5, 6] (fun vx vk => ∃ k : Nat, k ≤ 4 ∧ vk = .int .i64 k ∧ vx = .int .i64 (x4 bs (4 * m) k)) (fun _ vk => 4 - (intOf vk).toNat)
      case atStart => exact ⟨0, by omega, rfl, rfl⟩
      case round =>
        obtain ⟨k, hk, rfl, rfl⟩ := hrel
        have hxb := HX.out (4 * m) k
        by_cases hk4 : k < 4
        · have htop := topB_le k hk4
          have HXS : Hid (x4 bs (4 * m) (k + 1) = x4 bs (4 * m) k * 256 + (if 4 * m + k < bs.length then bs.getD (4 * m + k) 0 else 0)) := rfl
          obtain ⟨x, hx⟩ : ∃ x, x4 bs (4 * m) k = x := ⟨_, rfl⟩
          rw [hx] at hxb HXS ⊢
          clear hx
          obtain ⟨hx0, hx1⟩ := hxb
          have e1 : decide ((k : Int) < 4) = true := by simp; omega
          have e2 : decide (k < 4) = true := by simp; omega
          by_cases hin : 4 * m + k < len
          · have f1 : decide (4 * (m : Int) + (k : Int) < (len : Int)) = true := by simp; omega
            have f2 : decide (4 * m + k < len) = true := by simp; omega
            obtain ⟨b, o, rfl, hc⟩ := HC.out (4 * m + k) (by rw [HL.out]; exact hin)
            have hy := HY.out (4 * m + k)
            have HXE : Hid (x4 bs (4 * m) (k + 1) = x * 256 + bs.getD (4 * m + k) 0) := by unfold Hid; rw [HXS.out, if_pos (by rw [HL.out]; exact hin)]
            generalize bs.getD (4 * m + k) 0 = y at *
            obtain ⟨hy0, hy1⟩ := hy
            go_wp2_with (fail)
            go_round
            case rel => exact ⟨k + 1, by omega, by go_num, by rw [HXE.out]⟩
            case measure => simp [intOf]; omega
          · have f1 : decide (4 * (m : Int) + (k : Int) < (len : Int)) = false := by simp; omega
            have f2 : decide (4 * m + k < len) = false := by simp; omega
            have HXE : Hid (x4 bs (4 * m) (k + 1) = x * 256) := by unfold Hid; rw [HXS.out, if_neg (by rw [HL.out]; exact hin)]; omega
            go_wp2_with (fail)
            go_round
            case rel => exact ⟨k + 1, by omega, by go_num, by rw [HXE.out]⟩
            case measure => simp [intOf]; omega
        · have hk5 : k = 4 := by omega
          subst hk5
          have ht4 : topB 4 = 4294967295 := by decide
          rw [ht4] at hxb
          generalize x4 bs (4 * m) 4 = x at *
          obtain ⟨hx0, hx1⟩ := hxb
          go_wp2_with (fail)
          go_round
          case rel => exact ⟨m + 1, by omega, by go_num, by rw [HS1.out]⟩
          case measure => simp [intOf]; omega
    · have d1 : decide (4 * (m : Int) < (len : Int)) = false := by simp; omega
      have d2 : decide (4 * m < len) = false := by simp; omega
      have HE : Hid (sumL bs = n) := by
        have : (bs.length + 3) / 4 = m := by rw [HL.out]; omega
        unfold Hid sumL; rw [this, HN.out]
      go_wp2_with (fail)
      go_ret
      exact ⟨by rw [HE.out]; rfl, rfl⟩
end Fo
end Go.Proofs.Ytkmbeohheblhhaa
