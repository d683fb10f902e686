/- Layer 13 (verb): plain laws of the order behind a verb; what 'speaks' answers. -/
import Derived.Test.YtakpppgikgimnaaVerbB
namespace Go.Proofs.Ytakpppgikgimnaa
open Go.RowKit
namespace Vb

/-- Where glyph i comes from. -/
def ordF (l r : Nat) (tl tr : Bool) (n i : Nat) : Int :=
  if i < r then (if tr then (n : Int) - 1 - i else (n : Int) - r + i)
  else if i < n - l then (l : Int) + (i - r) else (if tl then (l : Int) - 1 - (i - (n - l)) else (i : Int) - (n - l))

theorem spanL_get (p q : Nat) (t : Bool) (i : Nat) (h : i < q - p) : (spanL p q t)[i]? = some (if t then ((q : Int) - 1 - i) else ((p : Int) + i)) := by
  unfold spanL
  rw [List.getElem?_map, List.getElem?_range h]
  rfl

theorem order_len (v n : Nat) (h : (endsV v).1 + (endsV v).2.1 ≤ n) : (orderL v n).length = n := by
  unfold orderL
  rw [List.length_append, List.length_append, spanL_len, spanL_len, spanL_len]
  omega

theorem order_get (v n i : Nat) (h : (endsV v).1 + (endsV v).2.1 ≤ n) (hi : i < n) : (orderL v n)[i]? = some (ordF (endsV v).1 (endsV v).2.1 (endsV v).2.2.1 (endsV v).2.2.2 n i) := by
  unfold orderL
  generalize (endsV v).1 = l at *
  generalize (endsV v).2.1 = r at *
  generalize (endsV v).2.2.1 = tl at *
  generalize (endsV v).2.2.2 = tr at *
  have l1 := spanL_len (n - r) n tr
  have l2 := spanL_len l (n - r) false
  unfold ordF
  by_cases h1 : i < r
  · rw [List.getElem?_append_left (by rw [List.length_append]; omega), List.getElem?_append_left (by omega), spanL_get _ _ _ _ (by omega), if_pos h1]
    cases tr <;> simp <;> omega
  · rw [if_neg h1]
    by_cases h2 : i < n - l
    · rw [List.getElem?_append_left (by rw [List.length_append]; omega), List.getElem?_append_right (by omega), spanL_get _ _ _ _ (by omega), if_pos h2]
      simp only [Bool.false_eq_true, if_false]
      congr 1
      omega
    · rw [List.getElem?_append_right (by rw [List.length_append]; omega), if_neg h2, List.length_append, spanL_get _ _ _ _ (by omega)]
      cases tl <;> simp <;> omega

theorem ordF_bd (l r : Nat) (tl tr : Bool) (n i : Nat) (h : l + r ≤ n) (hi : i < n) : 0 ≤ ordF l r tl tr n i ∧ ordF l r tl tr n i < n := by
  unfold ordF
  cases tl <;> cases tr <;> simp only [Bool.false_eq_true, if_false, if_true] <;> split <;> (try split) <;> omega

theorem ordF_inj (l r : Nat) (tl tr : Bool) (n i j : Nat) (h : l + r ≤ n) (hi : i < n) (hj : j < i) : ordF l r tl tr n j ≠ ordF l r tl tr n i := by
  unfold ordF
  cases tl <;> cases tr <;> simp only [Bool.false_eq_true, if_false, if_true] <;> repeat' split <;> omega

theorem ordF_next (l r : Nat) (tl tr : Bool) (n i : Nat) (hl : l ≤ 2) (hr : r ≤ 2) (h : l + r ≤ n) (hi : i < n) (h2 : 2 ≤ ordF l r tl tr n i) (h3 : ordF l r tl tr n i < (n : Int) - 3) :
    i + 1 < n ∧ ordF l r tl tr n (i + 1) = ordF l r tl tr n i + 1 := by
  unfold ordF at *
  cases tl <;> cases tr <;> simp only [Bool.false_eq_true, if_false, if_true] at * <;> repeat' split at * <;> omega
end Vb
end Go.Proofs.Ytakpppgikgimnaa
