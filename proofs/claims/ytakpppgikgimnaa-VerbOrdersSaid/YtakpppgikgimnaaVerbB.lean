/- Layer 13 (verb): Order. -/
import Derived.Test.YtakpppgikgimnaaVerb
namespace Go.Proofs.Ytakpppgikgimnaa
open Go.RowKit
namespace Vb

/-- Does a verb, from 1 to 15, change a row of n? -/
def fitsV (v : Nat) (n : Int) : Prop := 1 ≤ v ∧ v ≤ 15 ∧ ((endsV v).1 + (endsV v).2.1 : Nat) ≤ n

/-- The order behind a verb. -/
def orderL (v n : Nat) : List Int := spanL (n - (endsV v).2.1) n (endsV v).2.2.2 ++ spanL (endsV v).1 (n - (endsV v).2.1) false ++ spanL 0 (endsV v).1 (endsV v).2.2.1

/-- New integers, and true. -/
def NewIntsB (w : World) (xs : List Int) (e : Ending) (w' : World) : Prop :=
  ∃ v, e = .returned (.tuple #[v, .bool true]) ∧ w'.ownsRow w.heap.size 3 1 v xs.length (xs.map (Value.int .i64)) ∧ Below w.heap.size w w'

def NoIntsB (w : World) (e : Ending) (w' : World) : Prop := e = .returned (.tuple #[.slice none 0 0, .bool false]) ∧ Below w.heap.size w w'

theorem spanL_len (p q : Nat) (t : Bool) : (spanL p q t).length = q - p := by simp [spanL]

set_option maxHeartbeats 1000000 in
theorem order_out (v n : Int) (w : World) (h : v ≤ 0 ∨ 16 ≤ v) : Calls Try.prog 52 #[.int .i64 v, .int .i64 n] w (NoIntsB w) := by
  rcases h with h | h
  · go_enter Try.func52, Try.ntmps52
    go_wp2_with (fail)
    go_ret2
    exact ⟨rfl, Below.refl _ _⟩
  · have h' : ¬ v ≤ 0 := by omega
    go_enter Try.func52, Try.ntmps52
    go_wp2_with (fail)
    go_ret2
    exact ⟨rfl, Below.refl _ _⟩

set_option maxHeartbeats 1000000 in
theorem order_short (v : Nat) (n : Int) (w : World) (h1 : 1 ≤ v) (h2 : v ≤ 15) (h : n < ((endsV v).1 + (endsV v).2.1 : Nat)) : Calls Try.prog 52 #[.int .i64 v, .int .i64 n] w (NoIntsB w) := by
  have O := of_any v w h1 h2
  have hl := ends_le v
  generalize (endsV v).1 = l at *
  generalize (endsV v).2.1 = r at *
  generalize (endsV v).2.2.1 = tl at *
  generalize (endsV v).2.2.2 = tr at *
  have HO := Bas.hid O
  clear O
  go_enter Try.func52, Try.ntmps52
  go_wp2_with (fail)
  refine HO.out.mono ?_
  rintro e w1 ⟨rfl, hb⟩
  go_wp2_with (fail)
  go_ret2
  exact ⟨rfl, hb.alloc hb.size _⟩

set_option maxHeartbeats 2000000 in
theorem order_yes (v n : Nat) (w : World) (h1 : 1 ≤ v) (h2 : v ≤ 15) (h : (endsV v).1 + (endsV v).2.1 ≤ n) (hn : n ≤ 1000) : Calls Try.prog 52 #[.int .i64 v, .int .i64 n] w (NewIntsB w (orderL v n)) := by
  have O := of_any v w h1 h2
  have hl := ends_le v
  unfold orderL
  generalize (endsV v).1 = l at *
  generalize (endsV v).2.1 = r at *
  generalize (endsV v).2.2.1 = tl at *
  generalize (endsV v).2.2.2 = tr at *
  have HO := Bas.hid O
  clear O
  have e1 : ((n : Int) - (r : Int)) = ((n - r : Nat) : Int) := by omega
  have S1 := fun w => span_any (n - r) n tr w (by omega) (by omega)
  have S2 := fun w => span_any l (n - r) false w (by omega) (by omega)
  have S3 := fun w => span_any 0 l tl w (by omega) (by omega)
  have l1 := spanL_len (n - r) n tr
  have l2 := spanL_len l (n - r) false
  have l3 := spanL_len 0 l tl
  rw [← e1] at S1 S2
  generalize spanL (n - r) n tr = x1 at *
  generalize spanL l (n - r) false = x2 at *
  generalize spanL 0 l tl = x3 at *
  have i1 : x1.length ≤ 1000 := by omega
  have i2 : x2.length ≤ 1000 := by omega
  have i3 : x3.length ≤ 1000 := by omega
  obtain ⟨xs, hxs⟩ : ∃ xs, xs = x1 ++ x2 ++ x3 := ⟨_, rfl⟩
  rw [← hxs]
  have HX := Bas.hid hxs
  clear hxs
  have HS1 := Bas.hid S1
  have HS2 := Bas.hid S2
  have HS3 := Bas.hid S3
  have L1 := Bas.hid l1
  have L2 := Bas.hid l2
  have L3 := Bas.hid l3
  clear S1 S2 S3 l1 l2 l3 e1
  go_enter Try.func52, Try.ntmps52
  go_wp2_with (fail)
  refine HO.out.mono ?_
  clear HO
  rintro e w1 ⟨rfl, hb1⟩
  go_wp2_with (fail)
  have HB2 : Below w.heap.size w (w1.alloc (.cells #[.int .i64 l, .int .i64 r, .bool tl, .bool tr] 81)) := hb1.alloc hb1.size _
  refine (HS1.out _).mono ?_
  rintro e w2 ⟨v2, rfl, hown2, hb2⟩
  obtain ⟨hc2, hf2⟩ := Bas.bcell hb2
  have HB2' := Bas.on HB2 hb2
  go_wp2_with (fail)
  refine (HS2.out _).mono ?_
  rintro e w3 ⟨v3, rfl, hown3, hb3⟩
  have d3' : w3.ownsRow (w1.heap.size + 1) 3 1 v2 x1.length (x1.map (Value.int .i64)) := Row.owned_base (Row.owned_below hown2 hb3) (by simp)
  have d3 : w3.ownsRow w1.heap.size 3 1 v2 x1.length (x1.map (Value.int .i64)) := Row.owned_base (Row.owned_below hown2 hb3) (by simp)
  have HB3 := Bas.on HB2' hb3
  have hs1 := hb1.size
  have hs2 := hb2.size
  have hs3 := hb3.size
  simp only [World.size_alloc] at hs2
  have hcell : ∀ o, w3.cell? ⟨w1.heap.size, o, none⟩ = (w1.alloc (.cells #[.int .i64 l, .int .i64 r, .bool tl, .bool tr] 81)).cell? ⟨w1.heap.size, o, none⟩ := fun o => (hb3.cell (p := ⟨w1.heap.size, o, none⟩) (by show w1.heap.size < _; omega)).trans (hc2 _ _ (by simp))
  have q0 : w3.cell? ⟨w1.heap.size, 0, none⟩ = some (.int .i64 l) := by rw [hcell]; simp
  have q2 : w3.cell? ⟨w1.heap.size, 2, none⟩ = some (.bool tl) := by rw [hcell]; simp
  clear hcell hc2 hf2 hown2
  go_wp2_with (at_builtin; refine Row.append_any rfl _ _ 65 3 rfl (.int .i64 0) 1 8 Try.underlying65 infoI rfl (by decide) w1.heap.size v2 x1.length _ rfl d3 v3 x2.length _ rfl (Row.leads_owned hown3) (by simp) (by intro u hu; obtain ⟨y, _, rfl⟩ := List.mem_map.1 hu; rfl) (by unfold maxLen; omega) (by omega) (by omega) ?_)
  intro v4 w4 hown4 hg4 _
  have hv2 : ∀ g, v2.ownBlock = some g → w1.heap.size + 1 ≤ g := fun g hg => by
    rcases Row.owned_parts d3' with ⟨rfl, _⟩ | ⟨g', cp, rfl, hg', _⟩
    · cases hg
    · cases hg; exact hg'
  have hg4s := hg4.size
  have HB4 : Below w.heap.size w w4 := HB3.grown hg4 (by omega) (fun g hg => by have := hv2 g hg; omega)
  have r0 : w4.cell? ⟨w1.heap.size, 0, none⟩ = some (.int .i64 l) := (Bas.gcell hg4 (by omega) (fun h => by have := hv2 _ h; omega)).trans q0
  have r2 : w4.cell? ⟨w1.heap.size, 2, none⟩ = some (.bool tl) := (Bas.gcell hg4 (by omega) (fun h => by have := hv2 _ h; omega)).trans q2
  have hown4' : w4.ownsRow w.heap.size 3 1 v4 (x1.length + x2.length) ((x1 ++ x2).map (Value.int .i64)) := by
    rw [List.map_append]; exact Row.owned_base hown4 (by omega)
  clear d3 d3' hown3 q0 q2 hown4 hg4 HB2 HB2' HB3 hb1 hb2 hb3 hs2
  go_wp2_with (fail)
  refine (HS3.out _).mono ?_
  rintro e w5 ⟨v5, rfl, hown5, hb5⟩
  have d5 := Row.owned_below hown4' hb5
  have HB5 := HB4.trans (hb5.mono HB4.size)
  have hs5 := HB5.size
  clear hown4' r0 r2 HB4
  go_wp2_with (at_builtin; refine Row.append_any rfl _ _ 65 3 rfl (.int .i64 0) 1 8 Try.underlying65 infoI rfl (by decide) w.heap.size v4 (x1.length + x2.length) _ rfl d5 v5 x3.length _ rfl (Row.leads_owned hown5) (by simp) (by intro u hu; obtain ⟨y, _, rfl⟩ := List.mem_map.1 hu; rfl) (by unfold maxLen; omega) (by omega) (by omega) ?_)
  intro v6 w6 hown6 hg6 _
  have HB6 : Below w.heap.size w w6 := HB5.grown hg6 (by omega) (fun g hg => by
    rcases Row.owned_parts d5 with ⟨rfl, _⟩ | ⟨g', cp, rfl, hg', _⟩
    · cases hg
    · cases hg; exact hg')
  have hown7 : w6.ownsRow w.heap.size 3 1 v6 xs.length (xs.map (Value.int .i64)) := by
    rw [HX.out]; simpa only [List.map_append, List.append_assoc, List.length_append, Nat.add_assoc] using hown6
  clear hown6 hg6 d5 hown5
  go_wp2_with (fail)
  go_ret2
  exact ⟨v6, rfl, hown7, HB6⟩
end Vb
end Go.Proofs.Ytakpppgikgimnaa
