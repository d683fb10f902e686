/- Slices of slices: 's[l:h]', as a value and as bytes. -/
import Derived.Test.YtakpppgikgimnaaRef01B
namespace Go.Proofs.Ytakpppgikgimnaa
open Go.RowKit
namespace Vw

/-- Where 's[l:h]' begins. -/
def sl (a : Option Addr) (l cap : Nat) : Option Addr := if cap = l then a else a.map (·.add l)

theorem run_sl {P : Program} (W : World) (t e : TypeId) (ht : P.underlying t = some (.slice e)) (hz : ∀ w, (Go.sizeOf e).run P w = .ok 1 w) (a : Option Addr) (len cap : Nat) (l h : Int) (p q : Nat) (hp : l = p) (hq : h = q) (hpq : p ≤ q) (hc : q ≤ cap) :
    (Instr.slice t (.slice a len cap) (some (.int .i64 l)) (some (.int .i64 h)) none).run P W = .ok (.slice (sl a p cap) (q - p) (cap - p)) W := by
  have ht' : P.underlying t = some (.slice (P.elem t)) := by simp [Program.elem, ht]
  have he : P.elem t = e := by simp [Program.elem, ht]
  subst hp hq
  rw [run_slice_lh W t _ _ _ ht' .i64 .i64 _ _ (by omega) (by omega) (by omega), he, hz]
  simp [Result.andThen, sliced, sl]

theorem VB.sl {w : World} {a : Option Addr} {bs : List Int} (h : VB w a bs) (p m cap : Nat) (hm : p + m ≤ bs.length) (hc : bs.length ≤ cap) : VB w (Vw.sl a p cap) ((bs.drop p).take m) := by
  have h1 := h.sub p m hm
  refine ⟨h1.len, h1.byte, fun i hi => ?_⟩
  have hl : ((bs.drop p).take m).length = m := by rw [List.length_take, List.length_drop]; omega
  obtain ⟨b, o, ha, hcell⟩ := h1.cell i hi
  refine ⟨b, o, ?_, hcell⟩
  rw [hl] at hi
  unfold Vw.sub at ha
  rw [if_neg (by omega)] at ha
  unfold Vw.sl
  rw [if_neg (by omega)]
  exact ha

end Vw
namespace Ref01
open Vw
def inB (size at' n : Int) : Bool := decide (0 ≤ at' ∧ 0 ≤ n ∧ at' + n ≤ size)
theorem in_any (size at' n : Int) (w : World) (hs0 : 0 ≤ size) (hs : size ≤ 9223372036854775807) :
    Calls Try.prog 48 #[.int .i64 size, .int .i64 at', .int .i64 n] w fun e w' => e = .returned (.bool (inB size at' n)) ∧ w = w' := by
  unfold inB
  by_cases h : 0 ≤ at' ∧ 0 ≤ n ∧ at' + n ≤ size
  · rw [decide_eq_true h]; exact in_yes size at' n w hs h.1 h.2.1 h.2.2
  · rw [decide_eq_false h]; exact in_no size at' n w hs0 hs h

noncomputable def rowsC (len : Nat) (at' n size : Int) : Bool := @decide (rowsB len at' n size) (Classical.propDecidable _)
theorem rows_any (len : Nat) (at' n row : Int) (w : World) (hs : len ≤ 140737488355328) (hn : n ≤ 9223372036854775807) (hr : row ≤ 9223372036854775807) :
    Calls Try.prog 49 #[.int .i64 len, .int .i64 at', .int .i64 n, .int .i64 row] w fun e w' => e = .returned (.bool (rowsC len at' n row)) ∧ w = w' := by
  unfold rowsC
  by_cases h : rowsB len at' n row
  · rw [@decide_eq_true _ (Classical.propDecidable _) h]; exact rows_yes len at' n row w hs hn hr h
  · rw [@decide_eq_false _ (Classical.propDecidable _) h]; exact rows_no len at' n row w hs hn hr h
theorem rowsC_yes {len : Nat} {at' n row : Int} (h : rowsB len at' n row) : rowsC len at' n row = true := @decide_eq_true _ (Classical.propDecidable _) h
theorem rowsC_no {len : Nat} {at' n row : Int} (h : ¬ rowsB len at' n row) : rowsC len at' n row = false := @decide_eq_false _ (Classical.propDecidable _) h
end Ref01
end Go.Proofs.Ytakpppgikgimnaa
