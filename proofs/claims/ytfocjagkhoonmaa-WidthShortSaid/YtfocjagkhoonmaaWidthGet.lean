/- Layer 4 (width): Advance, Bearing, Face. -/
import Derived.Test.YtfocjagkhoonmaaWidthReadB
import Derived.Test.YtfocjagkhoonmaaRegV
namespace Go.Proofs.Ytfocjagkhoonmaa
open Go.RowKit
namespace Fo
open Vw Wr

def advL (g m : Nat) (d : List Int) (id : Int) : Int := if 0 ≤ id ∧ id < g then be d (4 * (if (m : Int) - 1 < id then (m : Int) - 1 else id)).toNat 2 else 0
def beaL (g m : Nat) (d : List Int) (id : Int) : Int := if 0 ≤ id ∧ id < g then s16 (be d (if id < m then 4 * id + 2 else 4 * (m : Int) + 2 * (id - m)).toNat 2) else 0

theorem isW_below {w w' : World} {base p g m : Nat} {d : List Int} (h : IsW w base p g m d) (hb : Below w.heap.size w w') : IsW w' base p g m d := by
  obtain ⟨h0, gb, cb, h1, h2, h3, h4, h5, h6⟩ := h
  exact ⟨h0, gb, cb, h1, h2, (hb.block _ (heap_lt h3)).trans h3, h4, h5, h6.below hb⟩

set_option maxHeartbeats 4000000 in
theorem wadv_any (w : World) (base p g m : Nat) (d : List Int) (id : Int) (h : IsW w base p g m d) (hd : d.length = 4 * m + 2 * (g - m)) (hm1 : 1 ≤ m) (hmg : m ≤ g) (hgb : g ≤ 65535) :
    Calls Try.prog 32 #[.pointer (some ⟨p, 0, none⟩), .int .i64 id] w fun e w' => e = .returned (.int .i64 (advL g m d id)) ∧ Below w.heap.size w w' := by
  obtain ⟨-, gb, cb, -, -, k, hcb, hcm, hv⟩ := h
  have c0 := cell_of_heap (i := 0) (v := .int .i64 (g : Nat)) k rfl
  have c2 := cell_of_heap (i := 2) (v := .int .i64 (m : Nat)) k rfl
  have c3 := cell_of_heap (i := 3) (v := .slice (some ⟨gb, 0, none⟩) d.length cb) k rfl
  obtain ⟨r, hr⟩ : ∃ r, advL g m d id = r := ⟨_, rfl⟩
  rw [hr]
  have HR := Bas.hid hr
  obtain ⟨n, hn⟩ : ∃ n, d.length = n := ⟨_, rfl⟩
  have HN := Bas.hid hn
  rw [hn] at c3 hcb
  have HB0 := Bas.hid (Below.refl w.heap.size w)
  by_cases h0 : id < 0
  · have hr0 : r = 0 := by rw [← hr, advL, if_neg (by omega)]
    subst hr0
    have e1 : decide (id < 0) = true := decide_eq_true h0
    clear hr hn hd k hv
    go_enter Try.func32, Try.ntmps32
    go_wp2_with (fail)
    go_ret
    exact ⟨rfl, HB0.out⟩
  · by_cases h1 : (g : Int) ≤ id
    · have hr0 : r = 0 := by rw [← hr, advL, if_neg (by omega)]
      subst hr0
      have e1 : decide (id < 0) = false := decide_eq_false h0
      have e2 : decide ((g : Int) ≤ id) = true := decide_eq_true h1
      have e3 : decide (id ≥ (g : Int)) = true := decide_eq_true h1
      clear hr hn hd k hv
      go_enter Try.func32, Try.ntmps32
      go_wp2_with (fail)
      go_ret
      exact ⟨rfl, HB0.out⟩
    · have e1 : decide (id < 0) = false := decide_eq_false h0
      have e2 : decide ((g : Int) ≤ id) = false := decide_eq_false h1
      have e3 : decide (id ≥ (g : Int)) = false := decide_eq_false h1
      obtain ⟨q, hq⟩ : ∃ q, (if (m : Int) - 1 < id then (m : Int) - 1 else id) = q := ⟨_, rfl⟩
      have hq0 : 0 ≤ q ∧ q ≤ m - 1 := by rw [← hq]; split <;> omega
      obtain ⟨q0, q1⟩ := hq0
      have HMIN := Bas.hid (fun (ts : Array TypeId) (t : TypeId) (w : World) => show (Builtin.min_ ts t #[.int .i64 id, .int .i64 ((m : Int) - 1)]).run Try.prog w = .ok (.int .i64 q) w by rw [run_min_int2, hq])
      have hre : r = be d (4 * q).toNat 2 := by rw [← hr, advL, if_pos (by omega), hq]
      have HU := Bas.hid (fun w' (hb : Below w.heap.size w w') => hre.symm ▸ u16_ok (some ⟨gb, 0, none⟩) n cb d (4 * q) w' hcb hcm (hv.below hb) hn (by omega) (by omega))
      clear hr hn hd hv hre hq
      have hmin := HMIN.out
      have lp := heap_lt k
      go_enter Try.func32, Try.ntmps32
      go_wp2_with (fail)
      refine' Pl.region_v0 30 [] [0, 1, 2, 3, 4, 5, 6, 7, 8, 9, 10, 11, 12, 13] [14] _ (by kernel_rfl) (by kernel_rfl) (by simp) (fun _ _ _ _ e h => ⟨e ▸ h.1, h.2⟩) ?_ ?_
      rotate_left
      · intro I F hI hF
        simp only [Pl.selN, List.nil_append, List.drop_succ_cons, List.drop_zero]
        have x2 := fun i => hF.cell lp c2 i
        have x3 := fun i => hF.cell lp c3 i
        repeat (go_big_quiet_step ((go_at_call 47; with_reducible exact hF.call (HU.out _ (hF.on HB0.out _)))))
        refine wpQuiet_nil ?_
        rfl
      intro u hu
      simp only [Pl.selN]
      go_wp2_with (fail)
      go_ret
      exact ⟨rfl, hu⟩

set_option maxHeartbeats 4000000 in
theorem wbea_any (w : World) (base p g m : Nat) (d : List Int) (id : Int) (h : IsW w base p g m d) (hd : d.length = 4 * m + 2 * (g - m)) (hm1 : 1 ≤ m) (hmg : m ≤ g) (hgb : g ≤ 65535) :
    Calls Try.prog 33 #[.pointer (some ⟨p, 0, none⟩), .int .i64 id] w fun e w' => e = .returned (.int .i64 (beaL g m d id)) ∧ Below w.heap.size w w' := by
  obtain ⟨-, gb, cb, -, -, k, hcb, hcm, hv⟩ := h
  have c0 := cell_of_heap (i := 0) (v := .int .i64 (g : Nat)) k rfl
  have c2 := cell_of_heap (i := 2) (v := .int .i64 (m : Nat)) k rfl
  have c3 := cell_of_heap (i := 3) (v := .slice (some ⟨gb, 0, none⟩) d.length cb) k rfl
  obtain ⟨r, hr⟩ : ∃ r, beaL g m d id = r := ⟨_, rfl⟩
  rw [hr]
  have HR := Bas.hid hr
  obtain ⟨n, hn⟩ : ∃ n, d.length = n := ⟨_, rfl⟩
  have HN := Bas.hid hn
  rw [hn] at c3 hcb
  have HB0 := Bas.hid (Below.refl w.heap.size w)
  by_cases h0 : id < 0
  · have hr0 : r = 0 := by rw [← hr, beaL, if_neg (by omega)]
    subst hr0
    have e1 : decide (id < 0) = true := decide_eq_true h0
    clear hr hn hd k hv
    go_enter Try.func33, Try.ntmps33
    go_wp2_with (fail)
    go_ret
    exact ⟨rfl, HB0.out⟩
  · by_cases h1 : (g : Int) ≤ id
    · have hr0 : r = 0 := by rw [← hr, beaL, if_neg (by omega)]
      subst hr0
      have e1 : decide (id < 0) = false := decide_eq_false h0
      have e2 : decide ((g : Int) ≤ id) = true := decide_eq_true h1
      have e3 : decide (id ≥ (g : Int)) = true := decide_eq_true h1
      clear hr hn hd k hv
      go_enter Try.func33, Try.ntmps33
      go_wp2_with (fail)
      go_ret
      exact ⟨rfl, HB0.out⟩
    · have e1 : decide (id < 0) = false := decide_eq_false h0
      have e2 : decide ((g : Int) ≤ id) = false := decide_eq_false h1
      have e3 : decide (id ≥ (g : Int)) = false := decide_eq_false h1
      by_cases h2 : id < m
      · have e4 : decide (id < (m : Int)) = true := decide_eq_true h2
        have hre : r = s16 (be d (4 * id + 2).toNat 2) := by rw [← hr, beaL, if_pos (by omega), if_pos h2]
        have HU := Bas.hid (fun w' (hb : Below w.heap.size w w') => hre.symm ▸ i16_ok (some ⟨gb, 0, none⟩) n cb d (4 * id + 2) w' hcb hcm (hv.below hb) hn (by omega) (by omega))
        clear hr hn hd hv hre k
        go_enter Try.func33, Try.ntmps33
        go_wp2_with (fail)
        refine (HU.out _ HB0.out).mono ?_
        rintro e w1 ⟨rfl, hb1⟩
        have HB1 := Bas.hid hb1
        clear hb1 HB0 HU
        go_wp2_with (fail)
        go_ret
        exact ⟨rfl, HB1.out⟩
      · have e4 : decide (id < (m : Int)) = false := decide_eq_false h2
        have hre : r = s16 (be d (4 * (m : Int) + 2 * (id - (m : Int))).toNat 2) := by rw [← hr, beaL, if_pos (by omega), if_neg h2]
        have HU := Bas.hid (fun w' (hb : Below w.heap.size w w') => hre.symm ▸ i16_ok (some ⟨gb, 0, none⟩) n cb d (4 * (m : Int) + 2 * (id - (m : Int))) w' hcb hcm (hv.below hb) hn (by omega) (by omega))
        clear hr hn hd hv hre
        have lp := heap_lt k
        go_enter Try.func33, Try.ntmps33
        go_wp2_with (fail)
        refine' Pl.region_v0 53 [] [0, 1, 2, 3, 4, 5, 6, 7, 8, 9, 10, 11, 12, 13, 14, 15, 16, 17, 18, 19] [20] _ (by kernel_rfl) (by kernel_rfl) (by simp) (fun _ _ _ _ e h => ⟨e ▸ h.1, h.2⟩) ?_ ?_
        rotate_left
        · intro I F hI hF
          simp only [Pl.selN, List.nil_append, List.drop_succ_cons, List.drop_zero]
          have x2 := fun i => hF.cell lp c2 i
          have x3 := fun i => hF.cell lp c3 i
          repeat (go_big_quiet_step ((go_at_call 58; with_reducible exact hF.call (HU.out _ (hF.on HB0.out _)))))
          refine wpQuiet_nil ?_
          rfl
        intro u hu
        simp only [Pl.selN]
        go_wp2_with (fail)
        go_ret
        exact ⟨rfl, hu⟩

set_option maxHeartbeats 1000000 in
theorem wface_any (w : World) (base p g m : Nat) (d : List Int) (h : IsW w base p g m d) :
    Calls Try.prog 54 #[.pointer (some ⟨p, 0, none⟩)] w fun e w' => e = .returned (.agg #[.int .i64 (g : Nat), .int .i64 1000, .int .i64 (m : Nat)]) ∧ Below w.heap.size w w' := by
  obtain ⟨-, gb, cb, -, -, k, hcb, hcm, hv⟩ := h
  have lp := heap_lt k
  have k' := (Below.heap_alloc w (.cells #[.int .i64 0, .int .i64 0, .int .i64 0] 63) _ lp).trans k
  have c0 := cell_of_heap (i := 0) (v := .int .i64 (g : Nat)) k' rfl
  have c1 := cell_of_heap (i := 1) (v := .int .i64 1000) k' rfl
  have c2 := cell_of_heap (i := 2) (v := .int .i64 (m : Nat)) k' rfl
  have k0 := Bas.heap_new w (.cells #[.int .i64 0, .int .i64 0, .int .i64 0] 63)
  have HB0 := Bas.hid ((Below.refl w.heap.size w).alloc (Nat.le_refl _) (.cells #[.int .i64 0, .int .i64 0, .int .i64 0] 63))
  have d0 := cell_of_heap (i := 0) (v := .int .i64 0) k0 rfl
  have d1 := cell_of_heap (i := 1) (v := .int .i64 0) k0 rfl
  have d2 := cell_of_heap (i := 2) (v := .int .i64 0) k0 rfl
  have f0 := fun i => free_of_heap (i := i) k0
  clear k hv
  go_enter Try.func54, Try.ntmps54
  go_wp2_with (fail)
  have q := Bas.heap_new w (.cells #[.int .i64 (g : Nat), .int .i64 1000, .int .i64 (m : Nat)] 63)
  have q0 := cell_of_heap (i := 0) (v := .int .i64 (g : Nat)) q rfl
  have q1 := cell_of_heap (i := 1) (v := .int .i64 1000) q rfl
  have q2 := cell_of_heap (i := 2) (v := .int .i64 (m : Nat)) q rfl
  exact bodyPost_ret (v := .agg #[.int .i64 (g : Nat), .int .i64 1000, .int .i64 (m : Nat)]) (by simp [results, Try.results54, go_sem]) rfl ⟨rfl, (Below.refl w.heap.size w).alloc (Nat.le_refl _) _⟩
end Fo
end Go.Proofs.Ytfocjagkhoonmaa
