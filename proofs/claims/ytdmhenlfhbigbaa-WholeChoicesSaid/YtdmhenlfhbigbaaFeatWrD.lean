/- The law's own Write (layer 8): what it is handed, and what it writes. -/
import Derived.Test.YtdmhenlfhbigbaaTwoRows
import Derived.Test.YtdmhenlfhbigbaaFeatReadB
import Derived.Test.YtdmhenlfhbigbaaNumB
namespace Go.Proofs.Ytdmhenlfhbigbaa
open Go.RowKit
namespace Ft
open Vw Wr Ch

structure WPlan where
  type : Int
  flags : Int
  sets : List Int

def wPC (x : WPlan × Value) : List Value := [.int .u16 x.1.type, .int .u16 x.1.flags, x.2]
def wS (x : Int) : List Value := [.int .u16 x]
theorem wPC_len (x : WPlan × Value) : (wPC x).length = 3 := rfl
theorem wS_len (x : Int) : (wS x).length = 1 := rfl

def WPlans (w : World) (v : Value) (l : List WPlan) : Prop := ∃ rs : List Value, rs.length = l.length ∧ Row.Leads w v l.length ((l.zip rs).flatMap wPC) ∧
  ∀ (i : Nat) (c : WPlan) (r : Value), l[i]? = some c → rs[i]? = some r → Row.Leads w r c.sets.length (c.sets.flatMap wS)
theorem WPlans.below {w w' : World} {v : Value} {l : List WPlan} (h : WPlans w v l) (hb : Below w.heap.size w w') : WPlans w' v l := by
  obtain ⟨rs, h1, h2, h3⟩ := h
  exact ⟨rs, h1, Row.leads_below h2 hb, fun i c r hc hr => Row.leads_below (h3 i c r hc hr) hb⟩

def rgPlan (p : WPlan) : Prop := (0 ≤ p.type ∧ p.type ≤ 65535) ∧ (0 ≤ p.flags ∧ p.flags ≤ 65535) ∧ ∀ s ∈ p.sets, 0 ≤ s ∧ s ≤ 65535
def okPlan (p : WPlan) : Prop := rgPlan p ∧ p.sets.length ≤ 60

def sB (s : Int) : List Int := putB s 2 ++ putB 9 2
def setsW (l : List WPlan) : List Int := l.flatMap fun p => p.sets.flatMap sB
def rowW (n off : Nat) (p : WPlan) : List Int := putB p.type 2 ++ putB (p.sets.length : Int) 2 ++ putB (12 + 12 * (n : Int) + (off : Int)) 4 ++ putB p.flags 2 ++ putB 7 2
def rowsW (n : Nat) : Nat → List WPlan → List Int
  | _, [] => []
  | off, p :: l => rowW n off p ++ rowsW n (off + 4 * p.sets.length) l
def headW (n : Nat) : List Int := putB 65536 4 ++ putB (n : Int) 2 ++ [0, 0, 0, 0, 0, 0]
def featW (l : List WPlan) : List Int := headW l.length ++ rowsW l.length 0 l ++ setsW l

theorem headW_len (n : Nat) : (headW n).length = 12 := by simp [headW, putB_len]
theorem rowW_len (n off : Nat) (p : WPlan) : (rowW n off p).length = 12 := by simp [rowW, putB_len]
theorem sB_len (s : Int) : (sB s).length = 4 := by simp [sB, putB_len]
theorem setB_len (l : List Int) : (l.flatMap sB).length = 4 * l.length := by
  induction l with
  | nil => rfl
  | cons x l ih => rw [List.flatMap_cons, List.length_append, sB_len, ih, List.length_cons]; omega
theorem rowsW_len (n : Nat) : ∀ (l : List WPlan) (off : Nat), (rowsW n off l).length = 12 * l.length
  | [], _ => rfl
  | p :: l, off => by rw [rowsW, List.length_append, rowW_len, rowsW_len n l, List.length_cons]; omega
theorem setsW_cons (p : WPlan) (l : List WPlan) : (setsW (p :: l)).length = 4 * p.sets.length + (setsW l).length := by
  unfold setsW; rw [List.flatMap_cons, List.length_append, setB_len]
theorem rowsW_snoc (n : Nat) (p : WPlan) : ∀ (l : List WPlan) (off : Nat), rowsW n off (l ++ [p]) = rowsW n off l ++ rowW n (off + (setsW l).length) p
  | [], off => by simp [rowsW, setsW]
  | q :: l, off => by
    rw [List.cons_append, rowsW, rowsW_snoc n p l, rowsW, setsW_cons, List.append_assoc, Nat.add_assoc]
theorem rowsW_take (n : Nat) (l : List WPlan) (k : Nat) (p : WPlan) (h : l[k]? = some p) : rowsW n 0 (l.take (k + 1)) = rowsW n 0 (l.take k) ++ rowW n (setsW (l.take k)).length p := by
  rw [List.take_add_one, h]
  have := rowsW_snoc n p (l.take k) 0
  rw [Nat.zero_add] at this
  exact this
theorem setsW_take (l : List WPlan) (k : Nat) (p : WPlan) (h : l[k]? = some p) : setsW (l.take (k + 1)) = setsW (l.take k) ++ p.sets.flatMap sB := Row.take_flat _ l k p h
theorem setsW_le (l : List WPlan) (h : ∀ p ∈ l, okPlan p) (k : Nat) (hk : k ≤ l.length) : (setsW (l.take k)).length ≤ 240 * k :=
  Row.take_len_le _ 240 l k (fun p hp => by rw [setB_len]; have := (h p hp).2; omega) hk
end Ft
end Go.Proofs.Ytdmhenlfhbigbaa
