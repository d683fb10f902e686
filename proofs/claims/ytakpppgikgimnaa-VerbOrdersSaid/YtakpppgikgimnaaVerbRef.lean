/- The reference of layer 13: Order; the walk of the law VerbOrders. -/
import Derived.Test.YtakpppgikgimnaaVerbKeepsW
import Derived.Test.YtakpppgikgimnaaRowC
import Derived.Laws.BytesArg
namespace Go.Proofs.Ytakpppgikgimnaa
open Go.RowKit
namespace Vb

/-- The letters of a row's glyphs, and of what becomes of it. -/
def frS : Nat → ByteArray
  | 1 => ⟨#[65, 120]⟩
  | 2 => ⟨#[120, 68]⟩
  | 3 => ⟨#[65, 120, 68]⟩
  | 4 => ⟨#[65, 66, 120]⟩
  | 5 => ⟨#[65, 66, 120]⟩
  | 6 => ⟨#[120, 67, 68]⟩
  | 7 => ⟨#[120, 67, 68]⟩
  | 8 => ⟨#[65, 120, 67, 68]⟩
  | 9 => ⟨#[65, 120, 67, 68]⟩
  | 10 => ⟨#[65, 66, 120, 68]⟩
  | 11 => ⟨#[65, 66, 120, 68]⟩
  | 12 => ⟨#[65, 66, 120, 67, 68]⟩
  | 13 => ⟨#[65, 66, 120, 67, 68]⟩
  | 14 => ⟨#[65, 66, 120, 67, 68]⟩
  | 15 => ⟨#[65, 66, 120, 67, 68]⟩
  | _ => ⟨#[]⟩
def toS : Nat → ByteArray
  | 1 => ⟨#[120, 65]⟩
  | 2 => ⟨#[68, 120]⟩
  | 3 => ⟨#[68, 120, 65]⟩
  | 4 => ⟨#[120, 65, 66]⟩
  | 5 => ⟨#[120, 66, 65]⟩
  | 6 => ⟨#[67, 68, 120]⟩
  | 7 => ⟨#[68, 67, 120]⟩
  | 8 => ⟨#[67, 68, 120, 65]⟩
  | 9 => ⟨#[68, 67, 120, 65]⟩
  | 10 => ⟨#[68, 120, 65, 66]⟩
  | 11 => ⟨#[68, 120, 66, 65]⟩
  | 12 => ⟨#[67, 68, 120, 65, 66]⟩
  | 13 => ⟨#[67, 68, 120, 66, 65]⟩
  | 14 => ⟨#[68, 67, 120, 65, 66]⟩
  | 15 => ⟨#[68, 67, 120, 66, 65]⟩
  | _ => ⟨#[]⟩
def frL : Nat → List Int
  | 1 => [65, 120]
  | 2 => [120, 68]
  | 3 => [65, 120, 68]
  | 4 => [65, 66, 120]
  | 5 => [65, 66, 120]
  | 6 => [120, 67, 68]
  | 7 => [120, 67, 68]
  | 8 => [65, 120, 67, 68]
  | 9 => [65, 120, 67, 68]
  | 10 => [65, 66, 120, 68]
  | 11 => [65, 66, 120, 68]
  | 12 => [65, 66, 120, 67, 68]
  | 13 => [65, 66, 120, 67, 68]
  | 14 => [65, 66, 120, 67, 68]
  | 15 => [65, 66, 120, 67, 68]
  | _ => []
def toL : Nat → List Int
  | 1 => [120, 65]
  | 2 => [68, 120]
  | 3 => [68, 120, 65]
  | 4 => [120, 65, 66]
  | 5 => [120, 66, 65]
  | 6 => [67, 68, 120]
  | 7 => [68, 67, 120]
  | 8 => [67, 68, 120, 65]
  | 9 => [68, 67, 120, 65]
  | 10 => [68, 120, 65, 66]
  | 11 => [68, 120, 66, 65]
  | 12 => [67, 68, 120, 65, 66]
  | 13 => [67, 68, 120, 66, 65]
  | 14 => [68, 67, 120, 65, 66]
  | 15 => [68, 67, 120, 66, 65]
  | _ => []

/-- Which letter of the row stands i-th behind the verb. -/
def ixL : Nat → List Nat
  | 1 => [1, 0]
  | 2 => [1, 0]
  | 3 => [2, 1, 0]
  | 4 => [2, 0, 1]
  | 5 => [2, 1, 0]
  | 6 => [1, 2, 0]
  | 7 => [2, 1, 0]
  | 8 => [2, 3, 1, 0]
  | 9 => [3, 2, 1, 0]
  | 10 => [3, 2, 0, 1]
  | 11 => [3, 2, 1, 0]
  | 12 => [3, 4, 2, 0, 1]
  | 13 => [3, 4, 2, 1, 0]
  | 14 => [4, 3, 2, 0, 1]
  | 15 => [4, 3, 2, 1, 0]
  | _ => []

def atS (fs : Nat → Int) (m : Nat) : Nat → Nat
  | 0 => 0
  | k + 1 => atS fs m k + (if fs k = 120 then m else 1)
def partS (fs ts : Nat → Int) (ix : Nat → Nat) (m i j : Nat) : List Int := (List.range j).map fun (k : Nat) => ((atS fs m (ix i) + k : Nat) : Int)
def outS (fs ts : Nat → Int) (ix : Nat → Nat) (m : Nat) : Nat → List Int
  | 0 => []
  | i + 1 => outS fs ts ix m i ++ partS fs ts ix m i (if ts i = 120 then m else 1)

theorem atS_le (fs : Nat → Int) (m : Nat) (hm : m ≤ 1000) : ∀ k, atS fs m k ≤ 1000 * k + k
  | 0 => Nat.le_refl _
  | k + 1 => by
    have := atS_le fs m hm k
    unfold atS
    split <;> omega
theorem outS_le (fs ts : Nat → Int) (ix : Nat → Nat) (m : Nat) (hm : m ≤ 1000) : ∀ i, (outS fs ts ix m i).length ≤ 1000 * i + i
  | 0 => by simp [outS]
  | i + 1 => by
    have := outS_le fs ts ix m hm i
    unfold outS
    rw [List.length_append]
    unfold partS
    rw [List.length_map, List.length_range]
    split <;> omega
theorem partS_succ (fs ts : Nat → Int) (ix : Nat → Nat) (m i j : Nat) : partS fs ts ix m i (j + 1) = partS fs ts ix m i j ++ [((atS fs m (ix i) + j : Nat) : Int)] := by
  unfold partS; rw [List.range_succ, List.map_append]; rfl
theorem partS_len (fs ts : Nat → Int) (ix : Nat → Nat) (m i j : Nat) : (partS fs ts ix m i j).length = j := by simp [partS]

theorem cell_of_heap {w : World} {b i : Nat} {cs : Array Value} {t : TypeId} {v : Value} (h : w.heap[b]? = some (.cells cs t (0, 0))) (hi : cs[i]? = some v) : w.cell? ⟨b, i, none⟩ = some v := by
  simp [World.cell?, h, hi]

theorem own_ne_of {w : World} {base : Nat} {v : Value} {n : Nat} {xs : List Value} (h : w.ownsRow base 3 1 v n xs) : (base ≤ w.heap.size ∨ v.ownBlock = none) ∧ ∀ g, v.ownBlock = some g → base ≤ g := by
  refine ⟨?_, fun g hg => (Row.own_block h hg).1⟩
  rcases Row.owned_parts h with ⟨rfl, _, _⟩ | ⟨g, cp, rfl, h1, h2, _⟩
  · exact .inr rfl
  · exact .inl (Nat.le_trans h1 (Nat.le_of_lt h2))

set_option maxRecDepth 100000 in
set_option maxHeartbeats 8000000 in
theorem refOrder_gen (v n fl tl : Nat) (S T : ByteArray) (fs ts : Nat → Int) (ix : Nat → Nat) (w : World) (hv1 : 1 ≤ v) (hv2 : v ≤ 15)
    (hS : (#[.string ⟨#[]⟩, .string ⟨#[65, 120]⟩, .string ⟨#[120, 68]⟩, .string ⟨#[65, 120, 68]⟩, .string ⟨#[65, 66, 120]⟩, .string ⟨#[65, 66, 120]⟩, .string ⟨#[120, 67, 68]⟩, .string ⟨#[120, 67, 68]⟩, .string ⟨#[65, 120, 67, 68]⟩, .string ⟨#[65, 120, 67, 68]⟩, .string ⟨#[65, 66, 120, 68]⟩, .string ⟨#[65, 66, 120, 68]⟩, .string ⟨#[65, 66, 120, 67, 68]⟩, .string ⟨#[65, 66, 120, 67, 68]⟩, .string ⟨#[65, 66, 120, 67, 68]⟩, .string ⟨#[65, 66, 120, 67, 68]⟩] : Array Value)[v]? = some (.string S)) (hT : (#[.string ⟨#[]⟩, .string ⟨#[120, 65]⟩, .string ⟨#[68, 120]⟩, .string ⟨#[68, 120, 65]⟩, .string ⟨#[120, 65, 66]⟩, .string ⟨#[120, 66, 65]⟩, .string ⟨#[67, 68, 120]⟩, .string ⟨#[68, 67, 120]⟩, .string ⟨#[67, 68, 120, 65]⟩, .string ⟨#[68, 67, 120, 65]⟩, .string ⟨#[68, 120, 65, 66]⟩, .string ⟨#[68, 120, 66, 65]⟩, .string ⟨#[67, 68, 120, 65, 66]⟩, .string ⟨#[67, 68, 120, 66, 65]⟩, .string ⟨#[68, 67, 120, 65, 66]⟩, .string ⟨#[68, 67, 120, 66, 65]⟩] : Array Value)[v]? = some (.string T)) (hSl : S.size = fl) (hTl : T.size = tl)
    (hSg : ∀ (j : Nat) (h : j < S.size), ((S[j]'h).toNat : Int) = fs j) (hTg : ∀ (j : Nat) (h : j < T.size), ((T[j]'h).toNat : Int) = ts j)
    (hix : ∀ i, i < tl → ix i < fl ∧ fs (ix i) = ts i ∧ ∀ j, j < ix i → fs j ≠ ts i) (hfl : 1 ≤ fl ∧ fl ≤ 5) (htl : tl ≤ 5) (hn : fl ≤ n + 1) (hn2 : n ≤ 1000) :
    Calls Try.prog 53 #[.int .i64 v, .int .i64 n] w (NewIntsB w (outS fs ts ix (n + 1 - fl) tl)) := by
  have d0 : decide ((n : Int) < (fl : Int) - 1) = false := by simp; omega
  have em : (n : Int) - ((fl : Int) - 1) = ((n + 1 - fl : Nat) : Int) := by omega
  obtain ⟨m, hm⟩ : ∃ m, m = n + 1 - fl := ⟨_, rfl⟩
  have hm2 : m ≤ 1000 := by omega
  rw [← hm] at em ⊢
  have HIX := Bas.hid hix
  have HSG := Bas.hid hSg
  have HTG := Bas.hid hTg
  have ATL := Bas.hid (atS_le fs m hm2)
  have OUL := Bas.hid (outS_le fs ts ix m hm2)
  clear hix hm hSg hTg
  go_enter Try.func53, Try.ntmps53
  have kF : ((w.alloc (.cells #[.string ⟨#[]⟩, .string ⟨#[65, 120]⟩, .string ⟨#[120, 68]⟩, .string ⟨#[65, 120, 68]⟩, .string ⟨#[65, 66, 120]⟩, .string ⟨#[65, 66, 120]⟩, .string ⟨#[120, 67, 68]⟩, .string ⟨#[120, 67, 68]⟩, .string ⟨#[65, 120, 67, 68]⟩, .string ⟨#[65, 120, 67, 68]⟩, .string ⟨#[65, 66, 120, 68]⟩, .string ⟨#[65, 66, 120, 68]⟩, .string ⟨#[65, 66, 120, 67, 68]⟩, .string ⟨#[65, 66, 120, 67, 68]⟩, .string ⟨#[65, 66, 120, 67, 68]⟩, .string ⟨#[65, 66, 120, 67, 68]⟩] 9)).alloc (.cells #[.string ⟨#[]⟩, .string ⟨#[120, 65]⟩, .string ⟨#[68, 120]⟩, .string ⟨#[68, 120, 65]⟩, .string ⟨#[120, 65, 66]⟩, .string ⟨#[120, 66, 65]⟩, .string ⟨#[67, 68, 120]⟩, .string ⟨#[68, 67, 120]⟩, .string ⟨#[67, 68, 120, 65]⟩, .string ⟨#[68, 67, 120, 65]⟩, .string ⟨#[68, 120, 65, 66]⟩, .string ⟨#[68, 120, 66, 65]⟩, .string ⟨#[67, 68, 120, 65, 66]⟩, .string ⟨#[67, 68, 120, 66, 65]⟩, .string ⟨#[68, 67, 120, 65, 66]⟩, .string ⟨#[68, 67, 120, 66, 65]⟩] 9)).cell? ⟨w.heap.size, v, none⟩ = some (.string S) := by
    rw [World.cell?_alloc_lt _ _ _ (by simp)]
    exact cell_of_heap (Bas.heap_new _ _) hS
  have kT : ((w.alloc (.cells #[.string ⟨#[]⟩, .string ⟨#[65, 120]⟩, .string ⟨#[120, 68]⟩, .string ⟨#[65, 120, 68]⟩, .string ⟨#[65, 66, 120]⟩, .string ⟨#[65, 66, 120]⟩, .string ⟨#[120, 67, 68]⟩, .string ⟨#[120, 67, 68]⟩, .string ⟨#[65, 120, 67, 68]⟩, .string ⟨#[65, 120, 67, 68]⟩, .string ⟨#[65, 66, 120, 68]⟩, .string ⟨#[65, 66, 120, 68]⟩, .string ⟨#[65, 66, 120, 67, 68]⟩, .string ⟨#[65, 66, 120, 67, 68]⟩, .string ⟨#[65, 66, 120, 67, 68]⟩, .string ⟨#[65, 66, 120, 67, 68]⟩] 9)).alloc (.cells #[.string ⟨#[]⟩, .string ⟨#[120, 65]⟩, .string ⟨#[68, 120]⟩, .string ⟨#[68, 120, 65]⟩, .string ⟨#[120, 65, 66]⟩, .string ⟨#[120, 66, 65]⟩, .string ⟨#[67, 68, 120]⟩, .string ⟨#[68, 67, 120]⟩, .string ⟨#[67, 68, 120, 65]⟩, .string ⟨#[68, 67, 120, 65]⟩, .string ⟨#[68, 120, 65, 66]⟩, .string ⟨#[68, 120, 66, 65]⟩, .string ⟨#[67, 68, 120, 65, 66]⟩, .string ⟨#[67, 68, 120, 66, 65]⟩, .string ⟨#[68, 67, 120, 65, 66]⟩, .string ⟨#[68, 67, 120, 66, 65]⟩] 9)).cell? ⟨w.heap.size + 1, v, none⟩ = some (.string T) := cell_of_heap (Bas.heap_new2 _ _ _) hT
  have hB := ((Below.refl w.heap.size w).alloc (Nat.le_refl _) (.cells #[.string ⟨#[]⟩, .string ⟨#[65, 120]⟩, .string ⟨#[120, 68]⟩, .string ⟨#[65, 120, 68]⟩, .string ⟨#[65, 66, 120]⟩, .string ⟨#[65, 66, 120]⟩, .string ⟨#[120, 67, 68]⟩, .string ⟨#[120, 67, 68]⟩, .string ⟨#[65, 120, 67, 68]⟩, .string ⟨#[65, 120, 67, 68]⟩, .string ⟨#[65, 66, 120, 68]⟩, .string ⟨#[65, 66, 120, 68]⟩, .string ⟨#[65, 66, 120, 67, 68]⟩, .string ⟨#[65, 66, 120, 67, 68]⟩, .string ⟨#[65, 66, 120, 67, 68]⟩, .string ⟨#[65, 66, 120, 67, 68]⟩] 9)).alloc (by simp) (.cells #[.string ⟨#[]⟩, .string ⟨#[120, 65]⟩, .string ⟨#[68, 120]⟩, .string ⟨#[68, 120, 65]⟩, .string ⟨#[120, 65, 66]⟩, .string ⟨#[120, 66, 65]⟩, .string ⟨#[67, 68, 120]⟩, .string ⟨#[68, 67, 120]⟩, .string ⟨#[67, 68, 120, 65]⟩, .string ⟨#[68, 67, 120, 65]⟩, .string ⟨#[68, 120, 65, 66]⟩, .string ⟨#[68, 120, 66, 65]⟩, .string ⟨#[67, 68, 120, 65, 66]⟩, .string ⟨#[67, 68, 120, 66, 65]⟩, .string ⟨#[68, 67, 120, 65, 66]⟩, .string ⟨#[68, 67, 120, 66, 65]⟩] 9)
  have hsz : ((w.alloc (.cells #[.string ⟨#[]⟩, .string ⟨#[65, 120]⟩, .string ⟨#[120, 68]⟩, .string ⟨#[65, 120, 68]⟩, .string ⟨#[65, 66, 120]⟩, .string ⟨#[65, 66, 120]⟩, .string ⟨#[120, 67, 68]⟩, .string ⟨#[120, 67, 68]⟩, .string ⟨#[65, 120, 67, 68]⟩, .string ⟨#[65, 120, 67, 68]⟩, .string ⟨#[65, 66, 120, 68]⟩, .string ⟨#[65, 66, 120, 68]⟩, .string ⟨#[65, 66, 120, 67, 68]⟩, .string ⟨#[65, 66, 120, 67, 68]⟩, .string ⟨#[65, 66, 120, 67, 68]⟩, .string ⟨#[65, 66, 120, 67, 68]⟩] 9)).alloc (.cells #[.string ⟨#[]⟩, .string ⟨#[120, 65]⟩, .string ⟨#[68, 120]⟩, .string ⟨#[68, 120, 65]⟩, .string ⟨#[120, 65, 66]⟩, .string ⟨#[120, 66, 65]⟩, .string ⟨#[67, 68, 120]⟩, .string ⟨#[68, 67, 120]⟩, .string ⟨#[67, 68, 120, 65]⟩, .string ⟨#[68, 67, 120, 65]⟩, .string ⟨#[68, 120, 65, 66]⟩, .string ⟨#[68, 120, 66, 65]⟩, .string ⟨#[67, 68, 120, 65, 66]⟩, .string ⟨#[67, 68, 120, 66, 65]⟩, .string ⟨#[68, 67, 120, 65, 66]⟩, .string ⟨#[68, 67, 120, 66, 65]⟩] 9)).heap.size = w.heap.size + 2 := by simp
  have HB := Bas.hid hB
  clear hS hT hB
  go_wp2_with (fail)
  generalize (w.alloc (.cells #[.string ⟨#[]⟩, .string ⟨#[65, 120]⟩, .string ⟨#[120, 68]⟩, .string ⟨#[65, 120, 68]⟩, .string ⟨#[65, 66, 120]⟩, .string ⟨#[65, 66, 120]⟩, .string ⟨#[120, 67, 68]⟩, .string ⟨#[120, 67, 68]⟩, .string ⟨#[65, 120, 67, 68]⟩, .string ⟨#[65, 120, 67, 68]⟩, .string ⟨#[65, 66, 120, 68]⟩, .string ⟨#[65, 66, 120, 68]⟩, .string ⟨#[65, 66, 120, 67, 68]⟩, .string ⟨#[65, 66, 120, 67, 68]⟩, .string ⟨#[65, 66, 120, 67, 68]⟩, .string ⟨#[65, 66, 120, 67, 68]⟩] 9)).alloc (.cells #[.string ⟨#[]⟩, .string ⟨#[120, 65]⟩, .string ⟨#[68, 120]⟩, .string ⟨#[68, 120, 65]⟩, .string ⟨#[120, 65, 66]⟩, .string ⟨#[120, 66, 65]⟩, .string ⟨#[67, 68, 120]⟩, .string ⟨#[68, 67, 120]⟩, .string ⟨#[67, 68, 120, 65]⟩, .string ⟨#[68, 67, 120, 65]⟩, .string ⟨#[68, 120, 65, 66]⟩, .string ⟨#[68, 120, 66, 65]⟩, .string ⟨#[67, 68, 120, 65, 66]⟩, .string ⟨#[67, 68, 120, 66, 65]⟩, .string ⟨#[68, 67, 120, 65, 66]⟩, .string ⟨#[68, 67, 120, 66, 65]⟩] 9) = W at *
  have kF2 : (W.alloc (.cells #[] 3)).cell? ⟨w.heap.size, v, none⟩ = some (.string S) := by rw [World.cell?_alloc_lt _ _ _ (by show w.heap.size < _; omega)]; exact kF
  have kT2 : (W.alloc (.cells #[] 3)).cell? ⟨w.heap.size + 1, v, none⟩ = some (.string T) := by rw [World.cell?_alloc_lt _ _ _ (by show w.heap.size + 1 < _; omega)]; exact kT
  have HB2 := Bas.hid (HB.out.alloc HB.out.size (.cells #[] 3))
  have HO0 : Hid ((W.alloc (.cells #[] 3)).ownsRow W.heap.size 3 1 (.slice (some ⟨w.heap.size + 2, 0, none⟩) 0 0) 0 ([].map (Value.int .i64))) :=
    ⟨by simp, .inr ⟨w.heap.size + 2, 0, #[], rfl, by omega, by rw [← hsz]; exact Bas.heap_new _ _, Nat.le_refl _, Nat.zero_le _, by simp, by simp⟩⟩
  have hsW : w.heap.size + 1 < W.heap.size := by omega
  generalize W.alloc (.cells #[] 3) = W2 at *
  have hsW2 : W.heap.size ≤ W2.heap.size := HB2.out.size |> fun _ => by
    obtain ⟨_, h⟩ := HO0.out
    rcases h with ⟨h, _⟩ | ⟨g, cp, cur, h, hb, hh, _⟩
    · cases h
    · exact Nat.le_trans hb (Nat.le_of_lt (Array.getElem?_eq_some_iff.1 hh).1)
  have lF : w.heap.size < W2.heap.size := by omega
  have lT : w.heap.size + 1 < W2.heap.size := by omega
  clear kF kT HB
  go_loopw [9, 10, 11, 12, 13, 14] (fun xo vi _ _ _ _ wr => ∃ (i : Nat) (vo : Value), i ≤ tl ∧ vi = .int .i64 i ∧ vo = xo ∧ wr.ownsRow W.heap.size 3 1 vo (outS fs ts ix m i).length ((outS fs ts ix m i).map (Value.int .i64)) ∧ Below w.heap.size w wr ∧
    wr.cell? ⟨w.heap.size, v, none⟩ = some (.string S) ∧ wr.cell? ⟨w.heap.size + 1, v, none⟩ = some (.string T)) (fun _ vi _ _ _ _ _ => tl - (intOf vi).toNat)
  case atStart => exact ⟨0, _, Nat.zero_le _, rfl, rfl, HO0.out, HB2.out, kF2, kT2⟩
  case round =>
    obtain ⟨i, vo, hi, rfl, hvo, hown, hb, c1, c2⟩ := hrel
    rw [← hvo]
    clear hvo kF2 kT2 HO0
    have HO := Bas.hid hown
    have HBR := Bas.hid hb
    by_cases hit : i < tl
    · obtain ⟨x1, x2, x3⟩ := HIX.out i hit
      have X3 := Bas.hid x3
      have hgi : ∀ (h : i < T.size), ((T[i]'h).toNat : Int) = ts i := HTG.out i
      clear hown hb x3
      go_wp2_with (fail)
      generalize hti : ts i = b at *
      have HTI := Bas.hid hti
      clear hti
      go_loopw [11, 12] (fun va vk wr => ∃ k : Nat, k ≤ ix i ∧ vk = .int .i64 k ∧ va = .int .i64 (atS fs m k) ∧ wr.ownsRow W.heap.size 3 1 vo (outS fs ts ix m i).length ((outS fs ts ix m i).map (Value.int .i64)) ∧ Below w.heap.size w wr ∧
        wr.cell? ⟨w.heap.size, v, none⟩ = some (.string S) ∧ wr.cell? ⟨w.heap.size + 1, v, none⟩ = some (.string T)) (fun _ vk _ => fl - (intOf vk).toNat)
      case atStart => exact ⟨0, Nat.zero_le _, rfl, rfl, HO.out, HBR.out, c1, c2⟩
      case round =>
        obtain ⟨k, hk, rfl, rfl, hown, hb, c3, c4⟩ := hrel
        have HO3 := Bas.hid hown
        have HB3 := Bas.hid hb
        clear hown hb c1 c2 HO HBR
        have hgk : ∀ (h : k < S.size), ((S[k]'h).toNat : Int) = fs k := HSG.out k
        have hal := ATL.out k
        have HAS : Hid (atS fs m (k + 1) = atS fs m k + (if fs k = 120 then m else 1)) := rfl
        by_cases hki : k < ix i
        · have hne := X3.out k hki
          generalize hfk : fs k = a at *
          generalize atS fs m k = A at *
          have e1 : (a == b) = false := by simpa using hne
          clear hfk
          by_cases h120 : a = 120
          · subst h120
            rw [if_pos rfl] at HAS
            go_wp2_with (fail)
            go_quiet (fail)
            go_wp2_with (fail)
            go_roundw
            case rel => exact ⟨k + 1, by omega, by go_num, by rw [HAS.out]; go_num, Row.owned_keep HO3.out (fun _ _ => rfl), Bas.below_drewN HB3.out _, c3, c4⟩
            case measure => simp [intOf]; omega
          · have e2 : (a == 120) = false := by simpa using h120
            rw [if_neg h120] at HAS
            go_wp2_with (fail)
            go_quiet (fail)
            go_wp2_with (fail)
            go_roundw
            case rel => exact ⟨k + 1, by omega, by go_num, by rw [HAS.out]; go_num, Row.owned_keep HO3.out (fun _ _ => rfl), Bas.below_drewN HB3.out _, c3, c4⟩
            case measure => simp [intOf]; omega
        · have hkx : k = ix i := by omega
          have hfk : fs k = b := by rw [hkx]; exact x2
          rw [hfk] at hgk
          have HKX := Bas.hid hkx
          clear hfk x2 hkx
          have hal2 := ATL.out (ix i)
          have HAT : Hid (atS fs m (ix i) = atS fs m k) := by unfold Hid; rw [HKX.out]
          generalize atS fs m k = A at *
          go_wp2_with (fail)
          go_quiet (fail)
          have HO9 := Bas.hid (Row.owned_keep HO3.out (w' := wr.drewN nq) (fun _ _ => rfl))
          have HB9 := Bas.hid (Bas.below_drewN HB3.out nq)
          have c5 : (wr.drewN nq).cell? ⟨w.heap.size, v, none⟩ = some (.string S) := c3
          have c6 : (wr.drewN nq).cell? ⟨w.heap.size + 1, v, none⟩ = some (.string T) := c4
          generalize wr.drewN nq = W9 at *
          clear c3 c4 HO3 HB3
          by_cases h120 : b = 120
          · subst h120
            have HNX : Hid (outS fs ts ix m (i + 1) = outS fs ts ix m i ++ partS fs ts ix m i m) := by
              unfold Hid
              rw [outS, HTI.out, if_pos rfl]
            go_wp2_with (fail)
            go_loopw [9, 14] (fun xo vj wr => ∃ (j : Nat) (vp : Value), j ≤ m ∧ vj = .int .i64 j ∧ vp = xo ∧ wr.ownsRow W.heap.size 3 1 vp (outS fs ts ix m i ++ partS fs ts ix m i j).length ((outS fs ts ix m i ++ partS fs ts ix m i j).map (Value.int .i64)) ∧ Below w.heap.size w wr ∧
              wr.cell? ⟨w.heap.size, v, none⟩ = some (.string S) ∧ wr.cell? ⟨w.heap.size + 1, v, none⟩ = some (.string T)) (fun _ vj _ => m - (intOf vj).toNat)
            case atStart => exact ⟨0, _, Nat.zero_le _, rfl, rfl, by simpa [partS] using HO9.out, HB9.out, c5, c6⟩
            case round =>
              obtain ⟨j, vp, hj, rfl, hvp, hown, hb, c7, c8⟩ := hrel
              rw [← hvp]
              clear hvp c5 c6
              by_cases hjq : j < m
              · have hps := Bas.hid (partS_succ fs ts ix m i j)
                have hll : (outS fs ts ix m i ++ partS fs ts ix m i j).length ≤ 6005 := by
                  have h1 := OUL.out i
                  have h2 := partS_len fs ts ix m i j
                  rw [List.length_append]; omega
                have HO4 := Bas.hid hown
                have HB4 := Bas.hid hb
                have hbs := hb.size
                have lF := World.block_lt_of_cell? _ _ c7
                have lT := World.block_lt_of_cell? _ _ c8
                have hng := own_ne_of hown
                have HE5 : Hid ((A : Int) + (j : Int) = ((A + j : Nat) : Int)) := by unfold Hid; omega
                clear hown hb
                go_wp2_with (at_builtin; refine Row.fence ?_)
                refine Row.unfence ?_
                rw [HE5.out]
                refine Row.append_any rfl _ _ 65 3 rfl (.int .i64 0) 1 8 Try.underlying65 infoI rfl (by decide) W.heap.size vp _ _ rfl (Row.owned_below HO4.out ((Below.refl _ _).alloc (Nat.le_refl _) (.cells #[.int .i64 ((A + j : Nat) : Int)] 3))) (.slice (some ⟨wr.heap.size, 0, none⟩) 1 1) 1 [.int .i64 ((A + j : Nat) : Int)] rfl (Row.leads_one _ _ _) rfl (by simp; rfl) (by unfold maxLen; omega) (by omega) (by have := (hng.1); simp; omega) ?_
                intro v' w2 hown2 hg2 _
                have hb2 := Bas.hid (HB4.out.alloc HB4.out.size (.cells #[.int .i64 ((A + j : Nat) : Int)] 3))
                have hW : W.heap.size ≤ (wr.alloc (.cells #[.int .i64 ((A + j : Nat) : Int)] 3)).heap.size := by have := (hng.1); simp; omega
                have HE := Bas.hid (hb2.out.grown hg2 hb2.out.size (fun g hg => by have := hng.2 g hg; omega))
                have c9 := (Bas.gcell hg2 (b := w.heap.size) (o := v) (by simp; omega) (fun e => by have := hng.2 _ e; omega)).trans ((World.cell?_alloc_lt _ _ _ lF).trans c7)
                have c10 := (Bas.gcell hg2 (b := w.heap.size + 1) (o := v) (by simp; omega) (fun e => by have := hng.2 _ e; omega)).trans ((World.cell?_alloc_lt _ _ _ lT).trans c8)
                have HO5 : Hid (w2.ownsRow W.heap.size 3 1 v' (outS fs ts ix m i ++ partS fs ts ix m i (j + 1)).length ((outS fs ts ix m i ++ partS fs ts ix m i (j + 1)).map (Value.int .i64))) := by
                  unfold Hid
                  rw [hps.out, HAT.out]
                  simpa [List.map_append, List.length_append, Nat.add_assoc] using hown2
                clear hown2 hg2 c7 c8 hps hng lF lT
                go_wp2_with (fail)
                go_roundw
                case rel => exact ⟨j + 1, _, by omega, by go_num, rfl, HO5.out, HE.out, c9, c10⟩
                case measure => simp [intOf]; omega
              · have hjq2 : j = m := by omega
                have HO6 : Hid (wr.ownsRow W.heap.size 3 1 vp (outS fs ts ix m (i + 1)).length ((outS fs ts ix m (i + 1)).map (Value.int .i64))) := by
                  unfold Hid; rw [HNX.out]; have h := hown; rw [hjq2] at h; exact h
                have HB6 := Bas.hid hb
                clear hown hb
                go_wp2_with (fail)
                go_roundw
                case rel => exact ⟨i + 1, _, by omega, by go_num, rfl, HO6.out, HB6.out, c7, c8⟩
                case measure => simp [intOf]; omega
          · have e3 : (b == 120) = false := by simpa using h120
            have HNX : Hid (outS fs ts ix m (i + 1) = outS fs ts ix m i ++ partS fs ts ix m i 1) := by
              unfold Hid
              rw [outS, HTI.out, if_neg h120]
            go_wp2_with (fail)
            go_loopw [9, 14] (fun xo vj wr => ∃ (j : Nat) (vp : Value), j ≤ 1 ∧ vj = .int .i64 j ∧ vp = xo ∧ wr.ownsRow W.heap.size 3 1 vp (outS fs ts ix m i ++ partS fs ts ix m i j).length ((outS fs ts ix m i ++ partS fs ts ix m i j).map (Value.int .i64)) ∧ Below w.heap.size w wr ∧
              wr.cell? ⟨w.heap.size, v, none⟩ = some (.string S) ∧ wr.cell? ⟨w.heap.size + 1, v, none⟩ = some (.string T)) (fun _ vj _ => 1 - (intOf vj).toNat)
            case atStart => exact ⟨0, _, Nat.zero_le _, rfl, rfl, by simpa [partS] using HO9.out, HB9.out, c5, c6⟩
            case round =>
              obtain ⟨j, vp, hj, rfl, hvp, hown, hb, c7, c8⟩ := hrel
              rw [← hvp]
              clear hvp c5 c6
              by_cases hjq : j < 1
              · have hps := Bas.hid (partS_succ fs ts ix m i j)
                have hll : (outS fs ts ix m i ++ partS fs ts ix m i j).length ≤ 6005 := by
                  have h1 := OUL.out i
                  have h2 := partS_len fs ts ix m i j
                  rw [List.length_append]; omega
                have HO4 := Bas.hid hown
                have HB4 := Bas.hid hb
                have hbs := hb.size
                have lF := World.block_lt_of_cell? _ _ c7
                have lT := World.block_lt_of_cell? _ _ c8
                have hng := own_ne_of hown
                have HE5 : Hid ((A : Int) + (j : Int) = ((A + j : Nat) : Int)) := by unfold Hid; omega
                clear hown hb
                go_wp2_with (at_builtin; refine Row.fence ?_)
                refine Row.unfence ?_
                rw [HE5.out]
                refine Row.append_any rfl _ _ 65 3 rfl (.int .i64 0) 1 8 Try.underlying65 infoI rfl (by decide) W.heap.size vp _ _ rfl (Row.owned_below HO4.out ((Below.refl _ _).alloc (Nat.le_refl _) (.cells #[.int .i64 ((A + j : Nat) : Int)] 3))) (.slice (some ⟨wr.heap.size, 0, none⟩) 1 1) 1 [.int .i64 ((A + j : Nat) : Int)] rfl (Row.leads_one _ _ _) rfl (by simp; rfl) (by unfold maxLen; omega) (by omega) (by have := (hng.1); simp; omega) ?_
                intro v' w2 hown2 hg2 _
                have hb2 := Bas.hid (HB4.out.alloc HB4.out.size (.cells #[.int .i64 ((A + j : Nat) : Int)] 3))
                have hW : W.heap.size ≤ (wr.alloc (.cells #[.int .i64 ((A + j : Nat) : Int)] 3)).heap.size := by have := (hng.1); simp; omega
                have HE := Bas.hid (hb2.out.grown hg2 hb2.out.size (fun g hg => by have := hng.2 g hg; omega))
                have c9 := (Bas.gcell hg2 (b := w.heap.size) (o := v) (by simp; omega) (fun e => by have := hng.2 _ e; omega)).trans ((World.cell?_alloc_lt _ _ _ lF).trans c7)
                have c10 := (Bas.gcell hg2 (b := w.heap.size + 1) (o := v) (by simp; omega) (fun e => by have := hng.2 _ e; omega)).trans ((World.cell?_alloc_lt _ _ _ lT).trans c8)
                have HO5 : Hid (w2.ownsRow W.heap.size 3 1 v' (outS fs ts ix m i ++ partS fs ts ix m i (j + 1)).length ((outS fs ts ix m i ++ partS fs ts ix m i (j + 1)).map (Value.int .i64))) := by
                  unfold Hid
                  rw [hps.out, HAT.out]
                  simpa [List.map_append, List.length_append, Nat.add_assoc] using hown2
                clear hown2 hg2 c7 c8 hps hng lF lT
                go_wp2_with (fail)
                go_roundw
                case rel => exact ⟨j + 1, _, by omega, by go_num, rfl, HO5.out, HE.out, c9, c10⟩
                case measure => simp [intOf]; omega
              · have hjq2 : j = 1 := by omega
                have HO6 : Hid (wr.ownsRow W.heap.size 3 1 vp (outS fs ts ix m (i + 1)).length ((outS fs ts ix m (i + 1)).map (Value.int .i64))) := by
                  unfold Hid; rw [HNX.out]; have h := hown; rw [hjq2] at h; exact h
                have HB6 := Bas.hid hb
                clear hown hb
                go_wp2_with (fail)
                go_roundw
                case rel => exact ⟨i + 1, _, by omega, by go_num, rfl, HO6.out, HB6.out, c7, c8⟩
                case measure => simp [intOf]; omega
    · have hit2 : i = tl := by omega
      subst hit2
      obtain ⟨ad9, cp9, rfl⟩ : ∃ ad cp, vo = .slice ad (outS fs ts ix m i).length cp := by
        rcases Row.owned_parts hown with ⟨h, h0, _⟩ | ⟨_, _, h, _⟩
        · exact ⟨none, 0, by rw [h, h0]⟩
        · exact ⟨_, _, h⟩
      clear hb hown
      go_wp2_with (fail)
      exact bodyPost_ret (v := .tuple #[.slice ad9 (outS fs ts ix m i).length cp9, .bool true]) (by simp [results, Try.results53, go_sem]) rfl ⟨_, rfl, Row.owned_base HO.out (by omega), HBR.out⟩

theorem str_get (xs : List Int) (hb : ∀ x ∈ xs, 0 ≤ x ∧ x ≤ 255) (j : Nat) (h : j < (strOfNums xs).size) : (((strOfNums xs)[j]'h).toNat : Int) = xs.getD j 0 := by
  have hj : j < xs.length := by rw [strOfNums_size] at h; exact h
  have e : (strOfNums xs)[j]'h = UInt8.ofNat (xs[j]).toNat := by
    simp [strOfNums, ByteArray.getElem_eq_getElem_data]
  rw [e, List.getD_eq_getElem?_getD, List.getElem?_eq_getElem hj, Option.getD_some]
  have := hb xs[j] (List.getElem_mem hj)
  rw [UInt8.toNat_ofNat']
  omega

theorem cases15 (v : Nat) (h1 : 1 ≤ v) (h2 : v ≤ 15) : v = 1 ∨ v = 2 ∨ v = 3 ∨ v = 4 ∨ v = 5 ∨ v = 6 ∨ v = 7 ∨ v = 8 ∨ v = 9 ∨ v = 10 ∨ v = 11 ∨ v = 12 ∨ v = 13 ∨ v = 14 ∨ v = 15 := by omega

theorem spec_v (v : Nat) (h1 : 1 ≤ v) (h2 : v ≤ 15) : (#[.string ⟨#[]⟩, .string ⟨#[65, 120]⟩, .string ⟨#[120, 68]⟩, .string ⟨#[65, 120, 68]⟩, .string ⟨#[65, 66, 120]⟩, .string ⟨#[65, 66, 120]⟩, .string ⟨#[120, 67, 68]⟩, .string ⟨#[120, 67, 68]⟩, .string ⟨#[65, 120, 67, 68]⟩, .string ⟨#[65, 120, 67, 68]⟩, .string ⟨#[65, 66, 120, 68]⟩, .string ⟨#[65, 66, 120, 68]⟩, .string ⟨#[65, 66, 120, 67, 68]⟩, .string ⟨#[65, 66, 120, 67, 68]⟩, .string ⟨#[65, 66, 120, 67, 68]⟩, .string ⟨#[65, 66, 120, 67, 68]⟩] : Array Value)[v]? = some (.string (strOfNums (frL v))) ∧ (#[.string ⟨#[]⟩, .string ⟨#[120, 65]⟩, .string ⟨#[68, 120]⟩, .string ⟨#[68, 120, 65]⟩, .string ⟨#[120, 65, 66]⟩, .string ⟨#[120, 66, 65]⟩, .string ⟨#[67, 68, 120]⟩, .string ⟨#[68, 67, 120]⟩, .string ⟨#[67, 68, 120, 65]⟩, .string ⟨#[68, 67, 120, 65]⟩, .string ⟨#[68, 120, 65, 66]⟩, .string ⟨#[68, 120, 66, 65]⟩, .string ⟨#[67, 68, 120, 65, 66]⟩, .string ⟨#[67, 68, 120, 66, 65]⟩, .string ⟨#[68, 67, 120, 65, 66]⟩, .string ⟨#[68, 67, 120, 66, 65]⟩] : Array Value)[v]? = some (.string (strOfNums (toL v))) ∧
    (∀ x ∈ frL v, 0 ≤ x ∧ x ≤ 255) ∧ (∀ x ∈ toL v, 0 ≤ x ∧ x ≤ 255) ∧ (1 ≤ (frL v).length ∧ (frL v).length ≤ 5) ∧ (toL v).length ≤ 5 ∧ (frL v).length = (endsV v).1 + (endsV v).2.1 + 1 ∧
    (∀ i, i < (toL v).length → (ixL v).getD i 0 < (frL v).length ∧ (frL v).getD ((ixL v).getD i 0) 0 = (toL v).getD i 0 ∧ ∀ j, j < (ixL v).getD i 0 → (frL v).getD j 0 ≠ (toL v).getD i 0) := by
  rcases cases15 v h1 h2 with rfl | rfl | rfl | rfl | rfl | rfl | rfl | rfl | rfl | rfl | rfl | rfl | rfl | rfl | rfl <;> refine ⟨rfl, rfl, by decide, by decide, by decide, by decide, rfl, by decide⟩

theorem range_at (a m : Nat) : (List.range m).map (fun (k : Nat) => ((a + k : Nat) : Int)) = (List.range m).map fun (k : Nat) => (a : Int) + k := by
  apply List.map_congr_left; intro k _; omega

theorem out_v (v n : Nat) (h1 : 1 ≤ v) (h2 : v ≤ 15) (h : (endsV v).1 + (endsV v).2.1 ≤ n) :
    outS (fun j => (frL v).getD j 0) (fun j => (toL v).getD j 0) (fun i => (ixL v).getD i 0) (n - ((endsV v).1 + (endsV v).2.1)) (toL v).length = orderL v n := by
  obtain ⟨m, rfl⟩ : ∃ m, n = m + ((endsV v).1 + (endsV v).2.1) := ⟨n - ((endsV v).1 + (endsV v).2.1), by omega⟩
  rcases cases15 v h1 h2 with rfl | rfl | rfl | rfl | rfl | rfl | rfl | rfl | rfl | rfl | rfl | rfl | rfl | rfl | rfl
  all_goals
    simp [outS, partS, atS, frL, toL, ixL, orderL, spanL, endsV, List.range_succ]
  all_goals (try omega)

theorem refOrder_yes (v n : Nat) (w : World) (h1 : 1 ≤ v) (h2 : v ≤ 15) (h : (endsV v).1 + (endsV v).2.1 ≤ n) (hn : n ≤ 1000) :
    Calls Try.prog 53 #[.int .i64 v, .int .i64 n] w (NewIntsB w (orderL v n)) := by
  obtain ⟨a1, a2, a3, a4, a5, a6, a7, a8⟩ := spec_v v h1 h2
  have := refOrder_gen v n (frL v).length (toL v).length _ _ (fun j => (frL v).getD j 0) (fun j => (toL v).getD j 0) (fun i => (ixL v).getD i 0) w h1 h2 a1 a2 (strOfNums_size _) (strOfNums_size _) (str_get _ a3) (str_get _ a4) a8 a5 a6 (by omega) hn
  rwa [show n + 1 - (frL v).length = n - ((endsV v).1 + (endsV v).2.1) by omega, out_v v n h1 h2 h] at this

set_option maxRecDepth 100000 in
set_option maxHeartbeats 8000000 in
theorem refOrder_out (v n : Int) (w : World) (h : v ≤ 0 ∨ 16 ≤ v) : Calls Try.prog 53 #[.int .i64 v, .int .i64 n] w (NoIntsB w) := by
  have hB := ((Below.refl w.heap.size w).alloc (Nat.le_refl _) (.cells #[.string ⟨#[]⟩, .string ⟨#[65, 120]⟩, .string ⟨#[120, 68]⟩, .string ⟨#[65, 120, 68]⟩, .string ⟨#[65, 66, 120]⟩, .string ⟨#[65, 66, 120]⟩, .string ⟨#[120, 67, 68]⟩, .string ⟨#[120, 67, 68]⟩, .string ⟨#[65, 120, 67, 68]⟩, .string ⟨#[65, 120, 67, 68]⟩, .string ⟨#[65, 66, 120, 68]⟩, .string ⟨#[65, 66, 120, 68]⟩, .string ⟨#[65, 66, 120, 67, 68]⟩, .string ⟨#[65, 66, 120, 67, 68]⟩, .string ⟨#[65, 66, 120, 67, 68]⟩, .string ⟨#[65, 66, 120, 67, 68]⟩] 9)).alloc (by simp) (.cells #[.string ⟨#[]⟩, .string ⟨#[120, 65]⟩, .string ⟨#[68, 120]⟩, .string ⟨#[68, 120, 65]⟩, .string ⟨#[120, 65, 66]⟩, .string ⟨#[120, 66, 65]⟩, .string ⟨#[67, 68, 120]⟩, .string ⟨#[68, 67, 120]⟩, .string ⟨#[67, 68, 120, 65]⟩, .string ⟨#[68, 67, 120, 65]⟩, .string ⟨#[68, 120, 65, 66]⟩, .string ⟨#[68, 120, 66, 65]⟩, .string ⟨#[67, 68, 120, 65, 66]⟩, .string ⟨#[67, 68, 120, 66, 65]⟩, .string ⟨#[68, 67, 120, 65, 66]⟩, .string ⟨#[68, 67, 120, 66, 65]⟩] 9)
  have HB : Hid (NoIntsB w (.returned (.tuple #[.slice none 0 0, .bool false])) _) := ⟨rfl, hB⟩
  clear hB
  rcases h with h | h
  · go_enter Try.func53, Try.ntmps53
    go_wp2_with (fail)
    exact bodyPost_ret (v := .tuple #[.slice none 0 0, .bool false]) (by simp [results, Try.results53, go_sem]) rfl HB.out
  · have d1 : decide (v ≤ 0) = false := by simp; omega
    go_enter Try.func53, Try.ntmps53
    go_wp2_with (fail)
    exact bodyPost_ret (v := .tuple #[.slice none 0 0, .bool false]) (by simp [results, Try.results53, go_sem]) rfl HB.out

set_option maxRecDepth 100000 in
set_option maxHeartbeats 8000000 in
theorem refOrder_short (v : Nat) (n : Int) (w : World) (hv1 : 1 ≤ v) (hv2 : v ≤ 15) (h : n < ((endsV v).1 + (endsV v).2.1 : Nat)) : Calls Try.prog 53 #[.int .i64 v, .int .i64 n] w (NoIntsB w) := by
  obtain ⟨hS, hT, -, -, a5, -, a7, -⟩ := spec_v v hv1 hv2
  have hSl : (strOfNums (frL v)).size = (frL v).length := strOfNums_size _
  generalize strOfNums (frL v) = S at *
  obtain ⟨fl, hfl⟩ : ∃ fl, fl = (frL v).length := ⟨_, rfl⟩
  rw [← hfl] at hSl a5 a7
  have d0 : decide (n < (fl : Int) - 1) = true := by simp; omega
  have kF : ((w.alloc (.cells #[.string ⟨#[]⟩, .string ⟨#[65, 120]⟩, .string ⟨#[120, 68]⟩, .string ⟨#[65, 120, 68]⟩, .string ⟨#[65, 66, 120]⟩, .string ⟨#[65, 66, 120]⟩, .string ⟨#[120, 67, 68]⟩, .string ⟨#[120, 67, 68]⟩, .string ⟨#[65, 120, 67, 68]⟩, .string ⟨#[65, 120, 67, 68]⟩, .string ⟨#[65, 66, 120, 68]⟩, .string ⟨#[65, 66, 120, 68]⟩, .string ⟨#[65, 66, 120, 67, 68]⟩, .string ⟨#[65, 66, 120, 67, 68]⟩, .string ⟨#[65, 66, 120, 67, 68]⟩, .string ⟨#[65, 66, 120, 67, 68]⟩] 9)).alloc (.cells #[.string ⟨#[]⟩, .string ⟨#[120, 65]⟩, .string ⟨#[68, 120]⟩, .string ⟨#[68, 120, 65]⟩, .string ⟨#[120, 65, 66]⟩, .string ⟨#[120, 66, 65]⟩, .string ⟨#[67, 68, 120]⟩, .string ⟨#[68, 67, 120]⟩, .string ⟨#[67, 68, 120, 65]⟩, .string ⟨#[68, 67, 120, 65]⟩, .string ⟨#[68, 120, 65, 66]⟩, .string ⟨#[68, 120, 66, 65]⟩, .string ⟨#[67, 68, 120, 65, 66]⟩, .string ⟨#[67, 68, 120, 66, 65]⟩, .string ⟨#[68, 67, 120, 65, 66]⟩, .string ⟨#[68, 67, 120, 66, 65]⟩] 9)).cell? ⟨w.heap.size, v, none⟩ = some (.string S) := by
    rw [World.cell?_alloc_lt _ _ _ (by simp)]
    exact cell_of_heap (Bas.heap_new _ _) hS
  have hB := ((Below.refl w.heap.size w).alloc (Nat.le_refl _) (.cells #[.string ⟨#[]⟩, .string ⟨#[65, 120]⟩, .string ⟨#[120, 68]⟩, .string ⟨#[65, 120, 68]⟩, .string ⟨#[65, 66, 120]⟩, .string ⟨#[65, 66, 120]⟩, .string ⟨#[120, 67, 68]⟩, .string ⟨#[120, 67, 68]⟩, .string ⟨#[65, 120, 67, 68]⟩, .string ⟨#[65, 120, 67, 68]⟩, .string ⟨#[65, 66, 120, 68]⟩, .string ⟨#[65, 66, 120, 68]⟩, .string ⟨#[65, 66, 120, 67, 68]⟩, .string ⟨#[65, 66, 120, 67, 68]⟩, .string ⟨#[65, 66, 120, 67, 68]⟩, .string ⟨#[65, 66, 120, 67, 68]⟩] 9)).alloc (by simp) (.cells #[.string ⟨#[]⟩, .string ⟨#[120, 65]⟩, .string ⟨#[68, 120]⟩, .string ⟨#[68, 120, 65]⟩, .string ⟨#[120, 65, 66]⟩, .string ⟨#[120, 66, 65]⟩, .string ⟨#[67, 68, 120]⟩, .string ⟨#[68, 67, 120]⟩, .string ⟨#[67, 68, 120, 65]⟩, .string ⟨#[68, 67, 120, 65]⟩, .string ⟨#[68, 120, 65, 66]⟩, .string ⟨#[68, 120, 66, 65]⟩, .string ⟨#[67, 68, 120, 65, 66]⟩, .string ⟨#[67, 68, 120, 66, 65]⟩, .string ⟨#[68, 67, 120, 65, 66]⟩, .string ⟨#[68, 67, 120, 66, 65]⟩] 9)
  have HB : Hid (NoIntsB w (.returned (.tuple #[.slice none 0 0, .bool false])) _) := ⟨rfl, hB⟩
  clear hB hS hT a7 h hfl
  go_enter Try.func53, Try.ntmps53
  go_wp2_with (fail)
  exact bodyPost_ret (v := .tuple #[.slice none 0 0, .bool false]) (by simp [results, Try.results53, go_sem]) rfl HB.out

set_option maxRecDepth 100000 in
set_option maxHeartbeats 8000000 in
theorem verbOrders_walk (v n : Int) (w : World) (hv0 : (Lit.int .i64 v).wf = true) (hn0 : (Lit.int .i64 n).wf = true) :
    Calls Try.prog 12 #[.int .i64 v, .int .i64 n] w fun e w' => e = .returned (.bool true) ∧ Below w.heap.size w w' := by
  obtain ⟨v1, v2⟩ := Bas.wf_i64 hv0
  obtain ⟨n1, n2⟩ := Bas.wf_i64 hn0
  clear hv0 hn0
  by_cases hbig : 1000 < n
  · go_enter Try.func12, Try.ntmps12
    go_wp2_with (fail)
    refine (speaks_any _).mono ?_
    rintro e w1 ⟨rfl, hb1⟩
    go_wp2_with (fail)
    go_ret
    exact ⟨rfl, hb1⟩
  · by_cases hgood : 1 ≤ v ∧ v ≤ 15 ∧ ((endsV v.toNat).1 + (endsV v.toNat).2.1 : Nat) ≤ n
    · obtain ⟨g1, g2, g3⟩ := hgood
      obtain ⟨q, rfl⟩ := Int.eq_ofNat_of_zero_le (show 0 ≤ v by omega)
      obtain ⟨m, rfl⟩ := Int.eq_ofNat_of_zero_le (show 0 ≤ n by omega)
      rw [Int.toNat_natCast] at g3
      have O1 := fun w => order_yes q m w (by omega) (by omega) (by omega) (by omega)
      have O2 := fun w => refOrder_yes q m w (by omega) (by omega) (by omega) (by omega)
      have hlen := order_len q m (by omega)
      generalize orderL q m = L at *
      have HL := Bas.hid hlen
      have HO1 := Bas.hid O1
      have HO2 := Bas.hid O2
      clear O1 O2 g3 hlen
      go_enter Try.func12, Try.ntmps12
      go_wp2_with (fail)
      refine (speaks_any _).mono ?_
      rintro e w1 ⟨rfl, hb1⟩
      have HB1 := Bas.hid hb1
      clear hb1
      go_wp2_with (fail)
      refine (HO1.out _).mono ?_
      rintro e w2 ⟨x1, rfl, hown1, hb2⟩
      have HB2 := Bas.hid (Bas.on HB1.out hb2)
      obtain ⟨ad1, cp1, rfl⟩ : ∃ ad cp, x1 = .slice ad L.length cp := by
        rcases Row.owned_parts hown1 with ⟨h, h0, _⟩ | ⟨_, _, h, _⟩
        · exact ⟨none, 0, by rw [h, h0]⟩
        · exact ⟨_, _, h⟩
      have HR1 := Bas.hid hown1
      clear hb2 hown1
      rw [HL.out]
      go_wp2_with (fail)
      refine (HO2.out _).mono ?_
      rintro e w3 ⟨x2, rfl, hown2, hb3⟩
      have HB3 := Bas.hid (Bas.on HB2.out hb3)
      obtain ⟨ad2, cp2, rfl⟩ : ∃ ad cp, x2 = .slice ad L.length cp := by
        rcases Row.owned_parts hown2 with ⟨h, h0, _⟩ | ⟨_, _, h, _⟩
        · exact ⟨none, 0, by rw [h, h0]⟩
        · exact ⟨_, _, h⟩
      have HR1' := Bas.hid (Row.owned_below HR1.out hb3)
      have HR2 := Bas.hid hown2
      clear hb3 hown2 HR1 HB2
      rw [HL.out]
      have e1 : ((m : Int) == (m : Int)) = true := by simp
      go_wp2_with (fail)
      go_loopw [9, 38] (fun _ vi wr => ∃ i : Nat, i ≤ m ∧ vi = .int .i64 i ∧ Below w3.heap.size w3 wr) (fun _ vi _ => m - (intOf vi).toNat)
      case atStart => exact ⟨0, Nat.zero_le _, rfl, Below.refl _ _⟩
      case round =>
        obtain ⟨i, hi, rfl, hb⟩ := hrel
        have HB := Bas.hid hb
        by_cases him : i < m
        · obtain ⟨y, hy⟩ : ∃ y, L[i]? = some y := ⟨_, List.getElem?_eq_getElem (by rw [HL.out]; exact him)⟩
          have hyl : (L.map (Value.int .i64))[i]? = some (.int .i64 y) := by rw [List.getElem?_map, hy]; rfl
          rcases Row.owned_parts HR1'.out with ⟨_, h0, _⟩ | ⟨G1, C1, hg1, _, hl1, _, _, hc1, _⟩
          · rw [HL.out] at h0; omega
          rcases Row.owned_parts HR2.out with ⟨_, h0, _⟩ | ⟨G2, C2, hg2, _, hl2, _, _, hc2, _⟩
          · rw [HL.out] at h0; omega
          cases hg1; cases hg2
          have c1 := (hb.cell (p := ⟨G1, i, none⟩) hl1).trans (hc1 i _ hyl)
          have c2 := (hb.cell (p := ⟨G2, i, none⟩) hl2).trans (hc2 i _ hyl)
          clear hc1 hc2 hy hyl hb
          go_wp2_with (fail)
          go_quiet (fail)
          go_wp2_with (fail)
          go_roundw
          case rel => exact ⟨i + 1, by omega, by go_num, Bas.below_drewN HB.out _⟩
          case measure => simp [intOf]; omega
        · have him2 : i = m := by omega
          subst him2
          have HE := Bas.hid (HB3.out.trans (HB.out.mono HB3.out.size))
          clear hb
          go_wp2_with (fail)
          go_ret
          exact ⟨rfl, HE.out⟩
    · have O : ∀ w, Calls Try.prog 52 #[.int .i64 v, .int .i64 n] w (NoIntsB w) ∧ Calls Try.prog 53 #[.int .i64 v, .int .i64 n] w (NoIntsB w) := fun w => by
        by_cases h1 : v ≤ 0 ∨ 16 ≤ v
        · exact ⟨order_out v n w h1, refOrder_out v n w h1⟩
        · obtain ⟨q, rfl⟩ := Int.eq_ofNat_of_zero_le (show 0 ≤ v by omega)
          have h2 : n < ((endsV q).1 + (endsV q).2.1 : Nat) := by
            rw [Int.toNat_natCast] at hgood
            omega
          exact ⟨order_short q n w (by omega) (by omega) h2, refOrder_short q n w (by omega) (by omega) h2⟩
      have HO := Bas.hid O
      clear O hgood
      go_enter Try.func12, Try.ntmps12
      go_wp2_with (fail)
      refine (speaks_any _).mono ?_
      rintro e w1 ⟨rfl, hb1⟩
      have HB1 := Bas.hid hb1
      clear hb1
      go_wp2_with (fail)
      refine (HO.out _).1.mono ?_
      rintro e w2 ⟨rfl, hb2⟩
      have HB2 := Bas.hid (Bas.on HB1.out hb2)
      clear hb2
      go_wp2_with (fail)
      refine (HO.out _).2.mono ?_
      rintro e w3 ⟨rfl, hb3⟩
      have HB3 := Bas.hid (Bas.on HB2.out hb3)
      clear hb3
      go_wp2_with (fail)
      go_loopw [9, 38] (fun _ vi wr => vi = .int .i64 0 ∧ Below w3.heap.size w3 wr) (fun _ _ _ => 0)
      case atStart => exact ⟨rfl, Below.refl _ _⟩
      case round =>
        obtain ⟨rfl, hb⟩ := hrel
        have HE := Bas.hid (HB3.out.trans (hb.mono HB3.out.size))
        clear hb
        go_wp2_with (fail)
        go_ret
        exact ⟨rfl, HE.out⟩
end Vb
end Go.Proofs.Ytakpppgikgimnaa
