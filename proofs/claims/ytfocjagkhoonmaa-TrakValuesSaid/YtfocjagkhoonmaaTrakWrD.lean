/- The law's own Write (layer 27): what it is handed, and what it writes. -/
import Derived.Test.YtfocjagkhoonmaaTwoRows
import Derived.Test.YtfocjagkhoonmaaTrakValue
import Derived.Test.YtfocjagkhoonmaaNumB
namespace Go.Proofs.Ytfocjagkhoonmaa
open Go.RowKit
namespace Tk
open Vw Wr

structure PTrack where
  of : Int
  vals : List Int

def wTC (x : PTrack × Value) : List Value := [.int .i32 x.1.of, x.2]
def wI32 (x : Int) : List Value := [.int .i32 x]
def wI16 (x : Int) : List Value := [.int .i16 x]
theorem wTC_len (x : PTrack × Value) : (wTC x).length = 2 := rfl
theorem wI32_len (x : Int) : (wI32 x).length = 1 := rfl
theorem wI16_len (x : Int) : (wI16 x).length = 1 := rfl

def PTracks (w : World) (v : Value) (l : List PTrack) : Prop := ∃ rs : List Value, rs.length = l.length ∧ Row.Leads w v l.length ((l.zip rs).flatMap wTC) ∧
  ∀ (i : Nat) (c : PTrack) (r : Value), l[i]? = some c → rs[i]? = some r → Row.Leads w r c.vals.length (c.vals.flatMap wI16)
theorem PTracks.below {w w' : World} {v : Value} {l : List PTrack} (h : PTracks w v l) (hb : Below w.heap.size w w') : PTracks w' v l := by
  obtain ⟨rs, h1, h2, h3⟩ := h
  exact ⟨rs, h1, Row.leads_below h2 hb, fun i c r hc hr => Row.leads_below (h3 i c r hc hr) hb⟩
def PSizes (w : World) (v : Value) (l : List Int) : Prop := Row.Leads w v l.length (l.flatMap wI32)

def rgTrack (p : PTrack) : Prop := (-2147483648 ≤ p.of ∧ p.of ≤ 2147483647) ∧ ∀ s ∈ p.vals, -32768 ≤ s ∧ s ≤ 32767
def rgSizes (l : List Int) : Prop := ∀ s ∈ l, -2147483648 ≤ s ∧ s ≤ 2147483647

def valN (t : PTrack) (i : Nat) : Int := if i < t.vals.length then t.vals.getD i 0 % 65536 else 0
def rowT (off : Nat) (t : PTrack) : List Int := putB (t.of % 4294967296) 4 ++ putB 7 2 ++ putB (off : Int) 2
def rowsT (m : Nat) : Nat → List PTrack → List Int
  | _, [] => []
  | off, t :: l => rowT off t ++ rowsT m (off + 2 * m) l
def valsTo (t : PTrack) (m : Nat) : List Int := (List.range m).flatMap fun i => putB (valN t i) 2
def insT (m : Nat) (l : List PTrack) : List Int := l.flatMap fun t => valsTo t m
def szB (s : Int) : List Int := putB (s % 4294967296) 4
def headT (n m at' : Nat) : List Int := putB (n : Int) 2 ++ putB (m : Int) 2 ++ putB ((at' + 8 + 8 * n : Nat) : Int) 4
def dataW (S : List Int) (l : List PTrack) (at' : Nat) : List Int :=
  headT l.length S.length at' ++ rowsT S.length (at' + 8 + 8 * l.length + 4 * S.length) l ++ S.flatMap szB ++ insT S.length l

theorem headT_len (n m a : Nat) : (headT n m a).length = 8 := by simp [headT, putB_len]
theorem rowT_len (off : Nat) (t : PTrack) : (rowT off t).length = 8 := by simp [rowT, putB_len]
theorem rowsT_len (m : Nat) : ∀ (l : List PTrack) (off : Nat), (rowsT m off l).length = 8 * l.length
  | [], _ => rfl
  | p :: l, off => by rw [rowsT, List.length_append, rowT_len, rowsT_len m l, List.length_cons]; omega
theorem flat_len {α : Type} (f : α → List Int) (c : Nat) (hf : ∀ x, (f x).length = c) : ∀ (l : List α), (l.flatMap f).length = c * l.length
  | [] => by simp
  | x :: l => by rw [List.flatMap_cons, List.length_append, hf, flat_len f c hf l, List.length_cons, Nat.mul_succ]; omega
theorem valsTo_len (t : PTrack) (m : Nat) : (valsTo t m).length = 2 * m := by
  unfold valsTo; rw [flat_len _ 2 (fun i => by simp [putB_len]), List.length_range]
theorem insT_len (m : Nat) (l : List PTrack) : (insT m l).length = 2 * m * l.length := flat_len _ (2 * m) (fun t => valsTo_len t m) l
theorem szB_len (s : Int) : (szB s).length = 4 := by simp [szB, putB_len]
theorem sizeB_len (l : List Int) : (l.flatMap szB).length = 4 * l.length := flat_len _ 4 szB_len l
theorem dataW_len (S : List Int) (l : List PTrack) (a : Nat) : (dataW S l a).length = 8 + 8 * l.length + 4 * S.length + 2 * S.length * l.length := by
  simp only [dataW, List.length_append, headT_len, rowsT_len, sizeB_len, insT_len]
theorem rowsT_snoc (m : Nat) (p : PTrack) : ∀ (l : List PTrack) (off : Nat), rowsT m off (l ++ [p]) = rowsT m off l ++ rowT (off + 2 * m * l.length) p
  | [], off => by simp [rowsT]
  | q :: l, off => by
    rw [List.cons_append, rowsT, rowsT_snoc m p l, rowsT, List.length_cons, Nat.mul_succ, List.append_assoc, Nat.add_assoc, Nat.add_comm (2 * m)]
theorem rowsT_take (m off : Nat) (l : List PTrack) (k : Nat) (p : PTrack) (h : l[k]? = some p) : rowsT m off (l.take (k + 1)) = rowsT m off (l.take k) ++ rowT (off + 2 * m * k) p := by
  have hk : k < l.length := (List.getElem?_eq_some_iff.1 h).1
  rw [List.take_add_one, h]
  have := rowsT_snoc m p (l.take k) off
  rw [List.length_take, Nat.min_eq_left (Nat.le_of_lt hk)] at this
  exact this
theorem insT_take (m : Nat) (l : List PTrack) (k : Nat) (p : PTrack) (h : l[k]? = some p) : insT m (l.take (k + 1)) = insT m (l.take k) ++ valsTo p m := Row.take_flat _ l k p h
theorem valsTo_succ (t : PTrack) (j : Nat) : valsTo t (j + 1) = valsTo t j ++ putB (valN t j) 2 := by
  unfold valsTo; rw [List.range_succ, List.flatMap_append]; simp
end Tk
end Go.Proofs.Ytfocjagkhoonmaa
