/- Contracts of layer 13 (verb). -/
import Derived.Test.YtakpppgikgimnaaRow
namespace Go.Proofs.Ytakpppgikgimnaa
open Go.RowKit
namespace Vb

/-- A verb's ends: how many at the left, at the right; whether they turn. -/
def endsV : Nat → Nat × Nat × Bool × Bool
  | 1 => (1, 0, false, false)
  | 2 => (0, 1, false, false)
  | 3 => (1, 1, false, false)
  | 4 => (2, 0, false, false)
  | 5 => (2, 0, true, false)
  | 6 => (0, 2, false, false)
  | 7 => (0, 2, false, true)
  | 8 => (1, 2, false, false)
  | 9 => (1, 2, false, true)
  | 10 => (2, 1, false, false)
  | 11 => (2, 1, true, false)
  | 12 => (2, 2, false, false)
  | 13 => (2, 2, true, false)
  | 14 => (2, 2, false, true)
  | 15 => (2, 2, true, true)
  | _ => (0, 0, false, false)

set_option maxRecDepth 10000 in
set_option maxHeartbeats 4000000 in
theorem of_any (v : Nat) (w : World) (h1 : 1 ≤ v) (h2 : v ≤ 15) :
    Calls Try.prog 64 #[.int .i64 v] w fun e w' => e = .returned (.agg #[.int .i64 (endsV v).1, .int .i64 (endsV v).2.1, .bool (endsV v).2.2.1, .bool (endsV v).2.2.2]) ∧ Below w.heap.size w w' := by
  have hi : ∀ w, (Instr.index 85 (.agg #[.int .i64 0, .int .i64 0, .bool false, .bool false, .int .i64 1, .int .i64 0, .bool false, .bool false, .int .i64 0, .int .i64 1, .bool false, .bool false, .int .i64 1, .int .i64 1, .bool false, .bool false, .int .i64 2, .int .i64 0, .bool false, .bool false, .int .i64 2, .int .i64 0, .bool true, .bool false, .int .i64 0, .int .i64 2, .bool false, .bool false, .int .i64 0, .int .i64 2, .bool false, .bool true, .int .i64 1, .int .i64 2, .bool false, .bool false, .int .i64 1, .int .i64 2, .bool false, .bool true, .int .i64 2, .int .i64 1, .bool false, .bool false, .int .i64 2, .int .i64 1, .bool true, .bool false, .int .i64 2, .int .i64 2, .bool false, .bool false, .int .i64 2, .int .i64 2, .bool true, .bool false, .int .i64 2, .int .i64 2, .bool false, .bool true, .int .i64 2, .int .i64 2, .bool true, .bool true]) (.int .i64 v)).run Try.prog w = .ok (.agg #[.int .i64 (endsV v).1, .int .i64 (endsV v).2.1, .bool (endsV v).2.2.1, .bool (endsV v).2.2.2]) w := by
    intro w
    rcases (by omega : v = 1 ∨ v = 2 ∨ v = 3 ∨ v = 4 ∨ v = 5 ∨ v = 6 ∨ v = 7 ∨ v = 8 ∨ v = 9 ∨ v = 10 ∨ v = 11 ∨ v = 12 ∨ v = 13 ∨ v = 14 ∨ v = 15) with rfl | rfl | rfl | rfl | rfl | rfl | rfl | rfl | rfl | rfl | rfl | rfl | rfl | rfl | rfl
    all_goals kernel_rfl
  generalize (endsV v).1 = e1 at hi ⊢
  generalize (endsV v).2.1 = e2 at hi ⊢
  generalize (endsV v).2.2.1 = e3 at hi ⊢
  generalize (endsV v).2.2.2 = e4 at hi ⊢
  go_enter Try.func64, Try.ntmps64
  go_wp2
  exact bodyPost_ret (v := .agg #[.int .i64 e1, .int .i64 e2, .bool e3, .bool e4]) (by simp [results, Try.results64, go_sem]) rfl ⟨rfl, (Below.refl _ _).alloc (Nat.le_refl _) _⟩

theorem ends_le (v : Nat) : (endsV v).1 ≤ 2 ∧ (endsV v).2.1 ≤ 2 := by
  unfold endsV
  split <;> simp

/-- The numbers of a span. -/
def spanL (p q : Nat) (turn : Bool) : List Int := (List.range (q - p)).map fun (i : Nat) => if turn then ((q : Int) - 1 - i) else ((p : Int) + i)

theorem infoI : (Try.prog.info? 3).map (fun i => (i.zero, i.size, i.bytes)) = some (some (.int .i64 0), 1, 8) := by kernel_rfl

/-- The first k numbers of a span. -/
def spanK (p q : Nat) (turn : Bool) (k : Nat) : List Int := (List.range k).map fun (i : Nat) => if turn then ((q : Int) - 1 - i) else ((p : Int) + i)
theorem spanK_succ (p q : Nat) (turn : Bool) (k : Nat) : spanK p q turn (k + 1) = spanK p q turn k ++ [if turn then ((q : Int) - 1 - k) else ((p : Int) + k)] := by
  unfold spanK; rw [List.range_succ, List.map_append]; rfl
theorem spanK_len (p q : Nat) (turn : Bool) (k : Nat) : (spanK p q turn k).length = k := by simp [spanK]

/-- What a slice of integers of the call's own answers. -/
def NewInts (w : World) (xs : List Int) (e : Ending) (w' : World) : Prop :=
  ∃ v, e = .returned v ∧ w'.ownsRow w.heap.size 3 1 v xs.length (xs.map (Value.int .i64)) ∧ Below w.heap.size w w'

set_option maxHeartbeats 1000000 in
theorem span_any (p q : Nat) (turn : Bool) (w : World) (hpq : p ≤ q) (hq : q ≤ 1000000) :
    Calls Try.prog 65 #[.int .i64 p, .int .i64 q, .bool turn] w (NewInts w (spanL p q turn)) := by
  go_enter Try.func65, Try.ntmps65
  go_wp2_with (fail)
  go_loopw [7, 12] (fun v i wr => ∃ k : Nat, k ≤ q - p ∧ i = .int .i64 k ∧ wr.ownsRow w.heap.size 3 1 v k ((spanK p q turn k).map (Value.int .i64)) ∧ Below w.heap.size w wr) (fun _ i _ => (q - p) - (intOf i).toNat)
  case atStart => exact ⟨0, by omega, rfl, Row.owned_nil _ _ _ _, Below.refl _ _⟩
  case round =>
    obtain ⟨k, hk, rfl, hown, hb⟩ := hrel
    have hbs := hb.size
    by_cases hkq : k < q - p
    · have HSN := Bas.hid (spanK_succ p q turn k)
      cases turn with
      | false =>
        go_wp2_with (at_builtin; refine Row.append_any rfl _ _ 65 3 rfl (.int .i64 0) 1 8 Try.underlying65 infoI rfl (by decide) w.heap.size _ k _ rfl (hown.alloc _) (.slice (some ⟨wr.heap.size, 0, none⟩) 1 1) 1 _ rfl (Row.leads_one _ _ _) rfl (by simp; rfl) (by unfold maxLen; omega) (by omega) (by simp; omega) ?_)
        intro v' w' hown' hgrow _
        have hown2 : w'.ownsRow w.heap.size 3 1 v' (k + 1) ((spanK p q false (k + 1)).map (Value.int .i64)) := by rw [HSN.out, List.map_append]; exact hown'
        have hb2 : Below w.heap.size w w' := (hb.alloc hbs _).grown hgrow (by simp; omega) (fun g hg => by
          have := Row.owned_parts hown
          rcases this with ⟨rfl, _⟩ | ⟨g', cp, rfl, hg', _⟩
          · cases hg
          · cases hg; exact hg')
        clear hown' hgrow
        go_wp2_with (fail)
        go_roundw
        case rel => exact ⟨k + 1, by omega, by go_num, hown2, hb2⟩
        case measure => simp [intOf]; omega
      | true =>
        go_wp2_with (at_builtin; refine Row.append_any rfl _ _ 65 3 rfl (.int .i64 0) 1 8 Try.underlying65 infoI rfl (by decide) w.heap.size _ k _ rfl (hown.alloc _) (.slice (some ⟨wr.heap.size, 0, none⟩) 1 1) 1 _ rfl (Row.leads_one _ _ _) rfl (by simp; rfl) (by unfold maxLen; omega) (by omega) (by simp; omega) ?_)
        intro v' w' hown' hgrow _
        have hown2 : w'.ownsRow w.heap.size 3 1 v' (k + 1) ((spanK p q true (k + 1)).map (Value.int .i64)) := by rw [HSN.out, List.map_append]; exact hown'
        have hb2 : Below w.heap.size w w' := (hb.alloc hbs _).grown hgrow (by simp; omega) (fun g hg => by
          have := Row.owned_parts hown
          rcases this with ⟨rfl, _⟩ | ⟨g', cp, rfl, hg', _⟩
          · cases hg
          · cases hg; exact hg')
        clear hown' hgrow
        go_wp2_with (fail)
        go_roundw
        case rel => exact ⟨k + 1, by omega, by go_num, hown2, hb2⟩
        case measure => simp [intOf]; omega
    · have hkk : k = q - p := by omega
      subst hkk
      have hfin : NewInts w (spanL p q turn) = NewInts w (spanK p q turn (q - p)) := rfl
      go_wp2_with (fail)
      go_ret
      exact ⟨_, rfl, by rw [show (spanL p q turn).length = q - p by simp [spanL]]; exact hown, hb⟩
end Vb
end Go.Proofs.Ytakpppgikgimnaa
