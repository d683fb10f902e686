/- Layer 9 (pick): settings are held against each other. -/
import Derived.Test.YtdmhenlfhbigbaaRegV
import Derived.Test.YtdmhenlfhbigbaaPlanG
import Derived.Test.YtdmhenlfhbigbaaChainD
import Derived.Sort.Grow
namespace Go.Proofs.Ytdmhenlfhbigbaa
open Go.RowKit
namespace Pk
open Ch

/-- A setting's two cells. -/
def setC (s : Int × Int) : List Value := [.int .i64 s.1, .int .i64 s.2]
def setV (s : Int × Int) : Value := .agg #[.int .i64 s.1, .int .i64 s.2]
theorem setV_eq (s : Int × Int) : setV s = .agg (setC s).toArray := rfl

def cmpI (a b : Int) : Int := if a < b then -1 else if b < a then 1 else 0
def cmpP (x y : Int × Int) : Int := if cmpI x.1 y.1 = 0 then cmpI x.2 y.2 else cmpI x.1 y.1

set_option maxHeartbeats 1000000 in
theorem nan_any (a : Int) (w : World) : Calls Try.prog 60 #[.int .i64 a] w fun e w' => e = .returned (.bool false) ∧ w' = w := by
  go_enter Try.func60, Try.ntmps60
  go_wp2_with (fail)
  go_ret
  exact ⟨rfl, rfl⟩

set_option maxHeartbeats 1000000 in
theorem cmpint_any (a b : Int) (w : World) : Calls Try.prog 40 #[.int .i64 a, .int .i64 b] w fun e w' => e = .returned (.int .i64 (cmpI a b)) ∧ w' = w := by
  by_cases h1 : a < b
  · have hr : cmpI a b = -1 := by simp [cmpI, h1]
    rw [hr]
    have e1 : decide (a < b) = true := decide_eq_true h1
    clear hr
    go_enter Try.func40, Try.ntmps40
    go_wp2_with (fail)
    refine (nan_any a w).mono ?_
    rintro e w' ⟨rfl, rfl⟩
    go_wp2_with (fail)
    refine (nan_any b w').mono ?_
    rintro e w' ⟨rfl, rfl⟩
    go_wp2_with (fail)
    go_ret
    exact ⟨rfl, rfl⟩
  · by_cases h2 : b < a
    · have hr : cmpI a b = 1 := by simp [cmpI, h1, h2]
      rw [hr]
      have e1 : decide (a < b) = false := decide_eq_false h1
      have e2 : decide (b < a) = true := decide_eq_true h2
      have e3 : decide (a > b) = true := decide_eq_true h2
      clear hr
      go_enter Try.func40, Try.ntmps40
      go_wp2_with (fail)
      refine (nan_any a w).mono ?_
      rintro e w' ⟨rfl, rfl⟩
      go_wp2_with (fail)
      refine (nan_any b w').mono ?_
      rintro e w' ⟨rfl, rfl⟩
      go_wp2_with (fail)
      go_ret
      exact ⟨rfl, rfl⟩
    · have hr : cmpI a b = 0 := by simp [cmpI, h1, h2]
      rw [hr]
      have e1 : decide (a < b) = false := decide_eq_false h1
      have e2 : decide (b < a) = false := decide_eq_false h2
      have e3 : decide (a > b) = false := decide_eq_false h2
      clear hr
      go_enter Try.func40, Try.ntmps40
      go_wp2_with (fail)
      refine (nan_any a w).mono ?_
      rintro e w' ⟨rfl, rfl⟩
      go_wp2_with (fail)
      refine (nan_any b w').mono ?_
      rintro e w' ⟨rfl, rfl⟩
      go_wp2_with (fail)
      go_ret
      exact ⟨rfl, rfl⟩

set_option maxHeartbeats 1000000 in
theorem or_any (g : Nat) (p q : Int) (w : World) (h : w.heap[g]? = some (.cells #[.int .i64 p, .int .i64 q] 3 (0, 0))) :
    Calls Try.prog 39 #[.slice (some ⟨g, 0, none⟩) 2 2] w fun e w' => e = .returned (.int .i64 (if p = 0 then q else p)) ∧ w' = w := by
  have c0 := cell_of_heap (i := 0) (v := .int .i64 p) h rfl
  have c1 := cell_of_heap (i := 1) (v := .int .i64 q) h rfl
  by_cases hp : p = 0
  · subst hp
    rw [if_pos rfl]
    by_cases hq : q = 0
    · subst hq
      go_enter Try.func39, Try.ntmps39
      go_wp2_with (fail)
      refine wp_loop_rounds 3 ?_
      rw [rounds_succ]
      go_wp2_with (fail)
      rw [rounds_succ]
      go_wp2_with (fail)
      rw [rounds_succ]
      go_wp2_with (fail)
      go_ret
      exact ⟨rfl, rfl⟩
    · have e2 : (q == 0) = false := by simpa using hq
      have e3 : decide (q = 0) = false := by simpa using hq
      have e4 : (q != 0) = true := by simpa using hq
      clear hq
      go_enter Try.func39, Try.ntmps39
      go_wp2_with (fail)
      refine wp_loop_rounds 2 ?_
      rw [rounds_succ]
      go_wp2_with (fail)
      rw [rounds_succ]
      go_wp2_with (fail)
      go_ret
      exact ⟨rfl, rfl⟩
  · rw [if_neg hp]
    have e2 : (p == 0) = false := by simpa using hp
    have e3 : decide (p = 0) = false := by simpa using hp
    have e4 : (p != 0) = true := by simpa using hp
    clear hp
    go_enter Try.func39, Try.ntmps39
    go_wp2_with (fail)
    refine wp_loop_rounds 1 ?_
    rw [rounds_succ]
    go_wp2_with (fail)
    go_ret
    exact ⟨rfl, rfl⟩

set_option maxHeartbeats 4000000 in
theorem compare_any (x y : Int × Int) (w : World) :
    Calls Try.prog 25 #[.agg #[.int .i64 x.1, .int .i64 x.2], .agg #[.int .i64 y.1, .int .i64 y.2]] w fun e w' => e = .returned (.int .i64 (cmpP x y)) ∧ ∃ q os', w' = Go.Sort.grow (w.drewN q) os' := by
  obtain ⟨a, b⟩ := x
  obtain ⟨c, d⟩ := y
  simp only
  obtain ⟨p, hp⟩ : ∃ p, cmpI a c = p := ⟨_, rfl⟩
  obtain ⟨q, hq⟩ : ∃ q, cmpI b d = q := ⟨_, rfl⟩
  have hr : cmpP (a, b) (c, d) = if p = 0 then q else p := by unfold cmpP; rw [hp, hq]
  rw [hr]
  obtain ⟨r, hrr⟩ : ∃ r, (if p = 0 then q else p) = r := ⟨_, rfl⟩
  have HC1 := Bas.hid (fun w => hp ▸ cmpint_any a c w)
  have HC2 := Bas.hid (fun w => hq ▸ cmpint_any b d w)
  have HR := Bas.hid hrr
  rw [hrr]
  clear hp hq hr hrr
  go_enter Try.func25, Try.ntmps25
  go_wp2_with (fail)
  have k2 := Bas.heap_new2 w (.cells #[.int .i64 a, .int .i64 b] 27) (.cells #[.int .i64 c, .int .i64 d] 27)
  have k1 : ((w.alloc (.cells #[.int .i64 a, .int .i64 b] 27)).alloc (.cells #[.int .i64 c, .int .i64 d] 27)).heap[w.heap.size]? = some (.cells #[.int .i64 a, .int .i64 b] 27 (0, 0)) := by
    rw [Below.heap_alloc _ _ _ (by simp)]; exact Bas.heap_new _ _
  have hWW : ∃ W : World, (w.alloc (.cells #[.int .i64 a, .int .i64 b] 27)).alloc (.cells #[.int .i64 c, .int .i64 d] 27) = W := ⟨_, rfl⟩
  obtain ⟨W, hW⟩ := hWW
  have HW := Bas.hid hW
  rw [hW] at k1 k2 ⊢
  clear hW
  have a0 := cell_of_heap (i := 0) (v := .int .i64 a) k1 rfl
  have a1 := cell_of_heap (i := 1) (v := .int .i64 b) k1 rfl
  have b0 := cell_of_heap (i := 0) (v := .int .i64 c) k2 rfl
  have b1 := cell_of_heap (i := 1) (v := .int .i64 d) k2 rfl
  obtain ⟨F, hF⟩ : ∃ F : Unit → World, ∀ i, F i = W.drew := ⟨fun _ => W.drew, fun _ => rfl⟩
  have HF0 := Bas.hid (hF ()).symm
  refine Pl.region_plan0 () [(true, 0), (true, 1), (true, 2), (true, 3), (true, 5), (true, 6), (true, 7), (true, 8), (false, 4), (false, 9), (false, 10), (false, 11), (false, 12)] [9, 10, 11, 12] (by kernel_rfl) (by kernel_rfl) (fun _ _ _ _ e h => ⟨e ▸ h.1, h.2⟩) HF0.out ?_
  refine Pl.head_sel0 [(true, 0), (true, 1), (true, 2), (true, 3), (true, 5), (true, 6), (true, 7), (true, 8)] (by kernel_rfl) (by kernel_rfl) ?_
  simp only [Pl.sel, List.drop_succ_cons, List.drop_zero]
  have x0 : ∀ i, (F i).cell? ⟨w.heap.size, 0, none⟩ = some (.int .i64 a) := fun i => by rw [hF i]; exact a0
  have x1 : ∀ i, (F i).cell? ⟨w.heap.size, 1, none⟩ = some (.int .i64 b) := fun i => by rw [hF i]; exact a1
  have y0 : ∀ i, (F i).cell? ⟨w.heap.size + 1, 0, none⟩ = some (.int .i64 c) := fun i => by rw [hF i]; exact b0
  have y1 : ∀ i, (F i).cell? ⟨w.heap.size + 1, 1, none⟩ = some (.int .i64 d) := fun i => by rw [hF i]; exact b1
  have HFE := Bas.hid hF
  clear hF a0 a1 b0 b1 k1 k2
  repeat (go_big_quiet_step (fail))
  refine wpQuiet_nil ?_
  rw [← HF0.out]
  refine Pl.one_sel (by kernel_rfl) ?_
  intro Q' hQ' hP'
  simp only [Pl.sel, List.drop_succ_cons, List.drop_zero]
  clear x0 x1 y0 y1
  go_wp2_with (fail)
  refine (HC1.out W.drew).mono ?_
  rintro e w1 ⟨rfl, rfl⟩
  go_wp2_with (fail)
  refine hQ' _ _ (fun _ _ => ⟨(), HF0.out⟩) ?_
  clear hQ' hP' Q'
  refine Pl.tail_sel [(false, 9), (false, 10), (false, 11), (false, 12)] (by kernel_rfl) (by kernel_rfl) ?_
  simp only [Pl.sel, List.drop_succ_cons, List.drop_zero]
  go_wp2_with (fail)
  refine (HC2.out W.drew).mono ?_
  rintro e w1 ⟨rfl, rfl⟩
  go_wp2_with (fail)
  refine (or_any W.heap.size p q ((W.alloc (.cells #[.int .i64 p, .int .i64 q] 3)).drew) (Bas.heap_new W (.cells #[.int .i64 p, .int .i64 q] 3))).mono ?_
  rintro e w1 ⟨rfl, rfl⟩
  rw [HR.out]
  go_wp2_with (fail)
  go_ret
  refine ⟨rfl, 1, #[.cells #[.int .i64 a, .int .i64 b] 27, .cells #[.int .i64 c, .int .i64 d] 27, .cells #[.int .i64 p, .int .i64 q] 3], ?_⟩
  rw [← HW.out]
  rw [Go.Sort.alloc_eq_grow, Go.Sort.alloc_eq_grow, Go.Sort.alloc_eq_grow, Go.Sort.grow_grow, Go.Sort.grow_grow]
  rfl
end Pk
end Go.Proofs.Ytdmhenlfhbigbaa
