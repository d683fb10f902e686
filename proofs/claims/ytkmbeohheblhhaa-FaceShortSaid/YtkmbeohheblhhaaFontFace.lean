/- Layer 3 (face): take, of a font. -/
import Derived.Test.YtkmbeohheblhhaaFontTab
namespace Go.Proofs.Ytkmbeohheblhhaa
open Go.RowKit
namespace Fo
open Vw Wr

/-- What is read of the three tables. -/
def faceL (dm dh de : List Int) : Option (Int × Int × Int) :=
  if 54 ≤ dh.length ∧ 36 ≤ de.length ∧ 6 ≤ dm.length ∧
    (1 ≤ be dm 4 2 ∧ 16 ≤ be dh 18 2 ∧ be dh 18 2 ≤ 16384 ∧ 1 ≤ be de 34 2 ∧ be de 34 2 ≤ be dm 4 2) then some (be dm 4 2, be dh 18 2, be de 34 2) else none

def FaceP (w : World) (dm dh de : List Int) (e : Ending) (w' : World) : Prop :=
  Below w.heap.size w w' ∧ e = match faceL dm dh de with
    | none => .panicked short
    | some x => .returned (.agg #[.int .i64 x.1, .int .i64 x.2.1, .int .i64 x.2.2])

set_option maxRecDepth 100000 in
set_option maxHeartbeats 16000000 in
theorem ftake_any (a : Option Addr) (len cap : Nat) (am ah ae : Option Addr) (lm lh le : Nat) (dm dh de : List Int) (w : World)
    (hT1 : ∀ w', Below w.heap.size w w' → Calls Try.prog 29 #[.slice a len cap, .string sMaxp] w' fun e w'' => e = .returned (.agg #[.slice am lm lm]) ∧ Below w'.heap.size w' w'')
    (hT2 : ∀ w', Below w.heap.size w w' → Calls Try.prog 29 #[.slice a len cap, .string sHead] w' fun e w'' => e = .returned (.agg #[.slice ah lh lh]) ∧ Below w'.heap.size w' w'')
    (hT3 : ∀ w', Below w.heap.size w w' → Calls Try.prog 29 #[.slice a len cap, .string sHhea] w' fun e w'' => e = .returned (.agg #[.slice ae le le]) ∧ Below w'.heap.size w' w'')
    (hv1 : VB w am dm) (hv2 : VB w ah dh) (hv3 : VB w ae de) (hl1 : dm.length = lm) (hl2 : dh.length = lh) (hl3 : de.length = le) (hs1 : lm ≤ 1000000) (hs2 : lh ≤ 1000000) (hs3 : le ≤ 1000000) (hkd : 4 ≤ lm → be dm 0 4 = 65536) (hmg : 54 ≤ lh → be dh 12 4 = 1594834165) :
    Calls Try.prog 15 #[.slice a len cap] w (FaceP w dm dh de) := by
  have hx1 : lm ≤ maxLen := by unfold maxLen; omega
  have hx2 : lh ≤ maxLen := by unfold maxLen; omega
  have hx3 : le ≤ maxLen := by unfold maxLen; omega
  have z0 : (0 : Int).toNat = 0 := rfl
  have z4 : (4 : Int).toNat = 4 := rfl
  have z12 : (12 : Int).toNat = 12 := rfl
  have z18 : (18 : Int).toNat = 18 := rfl
  have z34 : (34 : Int).toNat = 34 := rfl
  have z36 : (36 : Int).toNat = 36 := rfl
  have z54 : (54 : Int).toNat = 54 := rfl
  have U0 := fun (h : 4 ≤ lm) w' (hb : Below w.heap.size w w') => u32_ok am lm lm dm 0 w' (Nat.le_refl _) hx1 (hv1.below hb) hl1 (by omega) (by omega)
  have HU0N := Bas.hid fun w' (h : ¬ 4 ≤ lm) => u32_no am lm lm 0 w' (Nat.le_refl _) hx1 (by omega)
  have C1 := fun (h : 54 ≤ lh) w' => cut_ok ah lh lh 0 54 w' (Nat.le_refl _) hx2 (by omega) (by omega) (by omega)
  have HC1N := Bas.hid fun w' (h : ¬ 54 ≤ lh) => cut_no ah lh lh 0 54 w' (Nat.le_refl _) hx2 (by omega)
  have U12 := fun (h : 54 ≤ lh) w' (hb : Below w.heap.size w w') => u32_ok ah lh lh dh 12 w' (Nat.le_refl _) hx2 (hv2.below hb) hl2 (by omega) (by omega)
  have C2 := fun (h : 36 ≤ le) w' => cut_ok ae le le 0 36 w' (Nat.le_refl _) hx3 (by omega) (by omega) (by omega)
  have HC2N := Bas.hid fun w' (h : ¬ 36 ≤ le) => cut_no ae le le 0 36 w' (Nat.le_refl _) hx3 (by omega)
  have M4 := fun (h : 6 ≤ lm) w' (hb : Below w.heap.size w w') => u16_ok am lm lm dm 4 w' (Nat.le_refl _) hx1 (hv1.below hb) hl1 (by omega) (by omega)
  have HM4N := Bas.hid fun w' (h : ¬ 6 ≤ lm) => u16_no am lm lm 4 w' (Nat.le_refl _) hx1 (by omega)
  have M18 := fun (h : 54 ≤ lh) w' (hb : Below w.heap.size w w') => u16_ok ah lh lh dh 18 w' (Nat.le_refl _) hx2 (hv2.below hb) hl2 (by omega) (by omega)
  have M34 := fun (h : 36 ≤ le) w' (hb : Below w.heap.size w w') => u16_ok ae le le de 34 w' (Nat.le_refl _) hx3 (hv3.below hb) hl3 (by omega) (by omega)
  simp only [z0, z4, z12, z18, z34, z36, z54] at U0 C1 U12 C2 M4 M18 M34
  have HFL : Hid (faceL dm dh de = if 54 ≤ lh ∧ 36 ≤ le ∧ 6 ≤ lm ∧
    (1 ≤ be dm 4 2 ∧ 16 ≤ be dh 18 2 ∧ be dh 18 2 ≤ 16384 ∧ 1 ≤ be de 34 2 ∧ be de 34 2 ≤ be dm 4 2) then some (be dm 4 2, be dh 18 2, be de 34 2) else none) := by
    unfold Hid faceL
    rw [hl1, hl2, hl3]
  have hgb : 6 ≤ lm → 0 ≤ be dm 4 2 ∧ be dm 4 2 ≤ 65535 := fun h => be2_bd dm hv1.byte 4 (by omega)
  have hub : 54 ≤ lh → 0 ≤ be dh 18 2 ∧ be dh 18 2 ≤ 65535 := fun h => be2_bd dh hv2.byte 18 (by omega)
  have hmb : 36 ≤ le → 0 ≤ be de 34 2 ∧ be de 34 2 ≤ 65535 := fun h => be2_bd de hv3.byte 34 (by omega)
  have HKD := Bas.hid hkd
  have HMG := Bas.hid hmg
  clear hkd hmg
  generalize be dm 4 2 = g at *
  generalize be dh 18 2 = u at *
  generalize be de 34 2 = m at *
  have HU0 := Bas.hid U0
  have HC1 := Bas.hid C1
  have HU12 := Bas.hid U12
  have HC2 := Bas.hid C2
  have HM4 := Bas.hid M4
  have HM18 := Bas.hid M18
  have HM34 := Bas.hid M34
  have HT1 := Bas.hid hT1
  have HT2 := Bas.hid hT2
  have HT3 := Bas.hid hT3
  have HGB := Bas.hid hgb
  have HUB := Bas.hid hub
  have HMB := Bas.hid hmb
  have HAL := Bas.hid ((Below.refl w.heap.size w).alloc (Nat.le_refl _) (.cells #[.int .i64 0, .int .i64 0, .int .i64 0] 29))
  have kr := Bas.heap_new w (.cells #[.int .i64 0, .int .i64 0, .int .i64 0] 29)
  clear U0 C1 U12 C2 M4 M18 M34 hT1 hT2 hT3 hv1 hv2 hv3 z0 z4 z12 z18 z34 z36 z54 hl1 hl2 hl3 hgb hub hmb hx1 hx2 hx3
  go_enter Try.func15, Try.ntmps15
  go_wp2_with (fail)
  generalize w.alloc (.cells #[.int .i64 0, .int .i64 0, .int .i64 0] 29) = W at *
  refine (HT1.out _ HAL.out).mono ?_
  rintro e x1 ⟨rfl, hb1⟩
  have kr1 := (hb1.block _ (heap_lt kr)).trans kr
  have HX1 := Bas.hid (HAL.out.trans (hb1.mono HAL.out.size))
  clear hb1 kr HAL
  go_wp2_with (fail)
  refine (HT2.out _ HX1.out).mono ?_
  rintro e x2 ⟨rfl, hb2⟩
  have kr2 := (hb2.block _ (heap_lt kr1)).trans kr1
  have HX2 := Bas.hid (HX1.out.trans (hb2.mono HX1.out.size))
  clear hb2 kr1 HX1
  go_wp2_with (fail)
  refine (HT3.out _ HX2.out).mono ?_
  rintro e x3 ⟨rfl, hb3⟩
  have kr3 := (hb3.block _ (heap_lt kr2)).trans kr2
  have HX3 := Bas.hid (HX2.out.trans (hb3.mono HX2.out.size))
  clear hb3 kr2 HX2 HT1 HT2 HT3
  go_wp2_with (fail)
  have k3 := (Below.heap_alloc ((x3.alloc (.cells #[.slice am lm lm] 48)).alloc (.cells #[.slice ah lh lh] 48)) (.cells #[.slice ae le le] 48) x3.heap.size (by simp; omega)).trans ((Below.heap_alloc (x3.alloc (.cells #[.slice am lm lm] 48)) (.cells #[.slice ah lh lh] 48) x3.heap.size (by simp)).trans (Bas.heap_new x3 (.cells #[.slice am lm lm] 48)))
  have k4 := (Below.heap_alloc ((x3.alloc (.cells #[.slice am lm lm] 48)).alloc (.cells #[.slice ah lh lh] 48)) (.cells #[.slice ae le le] 48) (x3.heap.size + 1) (by simp)).trans (Bas.heap_new2 x3 (.cells #[.slice am lm lm] 48) (.cells #[.slice ah lh lh] 48))
  have k5 := Bas.heap_new ((x3.alloc (.cells #[.slice am lm lm] 48)).alloc (.cells #[.slice ah lh lh] 48)) (.cells #[.slice ae le le] 48)
  have hs5 : ((x3.alloc (.cells #[.slice am lm lm] 48)).alloc (.cells #[.slice ah lh lh] 48)).heap.size = x3.heap.size + 1 + 1 := by simp
  rw [hs5] at k5
  have hbAA : Below x3.heap.size x3 (((x3.alloc (.cells #[.slice am lm lm] 48)).alloc (.cells #[.slice ah lh lh] 48)).alloc (.cells #[.slice ae le le] 48)) := (((Below.refl _ _).alloc (Nat.le_refl _) _).alloc (by simp) _).alloc (by simp; omega) _
  have kr := (hbAA.block _ (heap_lt kr3)).trans kr3
  have HB0 := Bas.hid (HX3.out.trans (hbAA.mono HX3.out.size))
  generalize ((x3.alloc (.cells #[.slice am lm lm] 48)).alloc (.cells #[.slice ah lh lh] 48)).alloc (.cells #[.slice ae le le] 48) = W0 at *
  generalize x3.heap.size = T3 at *
  clear hs5 hbAA kr3 HX3
  by_cases hm4 : 4 ≤ lm
  case neg =>
    have HNONE : Hid (faceL dm dh de = none) := by unfold Hid; rw [HFL.out, if_neg (fun h => hm4 (by have := h.2.2.1; omega))]
    refine (HU0N.out _ hm4).mono ?_
    rintro e x ⟨rfl, hbx⟩
    have HBX := Bas.hid (HB0.out.trans (hbx.mono HB0.out.size))
    clear hbx
    go_wp2_with (fail)
    exact ⟨rfl, HBX.out, by rw [HNONE.out]⟩
  have hkd := HKD.out hm4
  refine (HU0.out hm4 _ HB0.out).mono ?_
  rintro e u1 ⟨rfl, hb1⟩
  have HB1 := Bas.hid (HB0.out.trans (hb1.mono HB0.out.size))
  have nkr := (hb1.block _ (heap_lt kr)).trans kr
  have nk3 := (hb1.block _ (heap_lt k3)).trans k3
  have nk4 := (hb1.block _ (heap_lt k4)).trans k4
  have nk5 := (hb1.block _ (heap_lt k5)).trans k5
  clear hb1 kr k3 k4 k5
  have kr := nkr
  have k3 := nk3
  have k4 := nk4
  have k5 := nk5
  clear nkr nk3 nk4 nk5
  have c3 := cell_of_heap (i := 0) (v := .slice am lm lm) k3 rfl
  have c4 := cell_of_heap (i := 0) (v := .slice ah lh lh) k4 rfl
  have c5 := cell_of_heap (i := 0) (v := .slice ae le le) k5 rfl
  rw [hkd]
  clear hkd
  go_wp2_with (go_at_call 31; refine (need_yesb _ _ (by first | rfl | (simp; done) | (simp; omega))).mono ?_; rintro e w' ⟨rfl, rfl⟩)
  by_cases hh : 54 ≤ lh
  case neg =>
    have HNONE : Hid (faceL dm dh de = none) := by unfold Hid; rw [HFL.out, if_neg (fun h => hh h.1)]
    refine (HC1N.out _ hh).mono ?_
    rintro e x ⟨rfl, hbx⟩
    have HBX := Bas.hid (HB1.out.trans (hbx.mono HB1.out.size))
    clear hbx
    go_wp2_with (fail)
    exact ⟨rfl, HBX.out, by rw [HNONE.out]⟩
  clear c3 c4 c5
  refine (HC1.out hh _).mono ?_
  rintro e u2 ⟨rfl, hb2⟩
  have HB2 := Bas.hid (HB1.out.trans (hb2.mono HB1.out.size))
  have nkr := (hb2.block _ (heap_lt kr)).trans kr
  have nk3 := (hb2.block _ (heap_lt k3)).trans k3
  have nk4 := (hb2.block _ (heap_lt k4)).trans k4
  have nk5 := (hb2.block _ (heap_lt k5)).trans k5
  clear hb2 kr k3 k4 k5
  have kr := nkr
  have k3 := nk3
  have k4 := nk4
  have k5 := nk5
  clear nkr nk3 nk4 nk5
  have c3 := cell_of_heap (i := 0) (v := .slice am lm lm) k3 rfl
  have c4 := cell_of_heap (i := 0) (v := .slice ah lh lh) k4 rfl
  have c5 := cell_of_heap (i := 0) (v := .slice ae le le) k5 rfl
  go_wp2_with (fail)
  clear c3 c4 c5
  have hmg := HMG.out hh
  refine (HU12.out hh _ HB2.out).mono ?_
  rintro e u3 ⟨rfl, hb3⟩
  have HB3 := Bas.hid (HB2.out.trans (hb3.mono HB2.out.size))
  have nkr := (hb3.block _ (heap_lt kr)).trans kr
  have nk3 := (hb3.block _ (heap_lt k3)).trans k3
  have nk4 := (hb3.block _ (heap_lt k4)).trans k4
  have nk5 := (hb3.block _ (heap_lt k5)).trans k5
  clear hb3 kr k3 k4 k5
  have kr := nkr
  have k3 := nk3
  have k4 := nk4
  have k5 := nk5
  clear nkr nk3 nk4 nk5
  have c3 := cell_of_heap (i := 0) (v := .slice am lm lm) k3 rfl
  have c4 := cell_of_heap (i := 0) (v := .slice ah lh lh) k4 rfl
  have c5 := cell_of_heap (i := 0) (v := .slice ae le le) k5 rfl
  rw [hmg]
  clear hmg
  go_wp2_with (go_at_call 31; refine (need_yesb _ _ (by first | rfl | (simp; done) | (simp; omega))).mono ?_; rintro e w' ⟨rfl, rfl⟩)
  by_cases he : 36 ≤ le
  case neg =>
    have HNONE : Hid (faceL dm dh de = none) := by unfold Hid; rw [HFL.out, if_neg (fun h => he h.2.1)]
    refine (HC2N.out _ he).mono ?_
    rintro e x ⟨rfl, hbx⟩
    have HBX := Bas.hid (HB3.out.trans (hbx.mono HB3.out.size))
    clear hbx
    go_wp2_with (fail)
    exact ⟨rfl, HBX.out, by rw [HNONE.out]⟩
  clear c3 c4 c5
  refine (HC2.out he _).mono ?_
  rintro e u4 ⟨rfl, hb4⟩
  have HB4 := Bas.hid (HB3.out.trans (hb4.mono HB3.out.size))
  have nkr := (hb4.block _ (heap_lt kr)).trans kr
  have nk3 := (hb4.block _ (heap_lt k3)).trans k3
  have nk4 := (hb4.block _ (heap_lt k4)).trans k4
  have nk5 := (hb4.block _ (heap_lt k5)).trans k5
  clear hb4 kr k3 k4 k5
  have kr := nkr
  have k3 := nk3
  have k4 := nk4
  have k5 := nk5
  clear nkr nk3 nk4 nk5
  have c3 := cell_of_heap (i := 0) (v := .slice am lm lm) k3 rfl
  have c4 := cell_of_heap (i := 0) (v := .slice ah lh lh) k4 rfl
  have c5 := cell_of_heap (i := 0) (v := .slice ae le le) k5 rfl
  go_wp2_with (fail)
  by_cases hm6 : 6 ≤ lm
  case neg =>
    have HNONE : Hid (faceL dm dh de = none) := by unfold Hid; rw [HFL.out, if_neg (fun h => hm6 h.2.2.1)]
    refine' Pl.region_vh 65 [] [0, 2, 4] [(7, 7)] 1 32 [3, 5, 6, 8] _ (fun ch w' => ch = short ∧ Below w.heap.size w w') (by kernel_rfl) (by kernel_rfl) (by kernel_rfl) (by simp) (fun _ _ _ _ e h => ⟨e ▸ h.1, h.2⟩) ?_ ?_ ?_ ?_
    rotate_left
    · intro I F hI hF
      simp only [Pl.selN, List.nil_append, List.drop_succ_cons, List.drop_zero]
      have y3 := fun q => hF.cell (heap_lt k3) c3 q
      have y4 := fun q => hF.cell (heap_lt k4) c4 q
      have y5 := fun q => hF.cell (heap_lt k5) c5 q
      repeat (go_big_quiet_step (fail))
      refine wpQuiet_nil ?_
      rfl
    · simp only [Pl.selN, List.drop_succ_cons, List.drop_zero, List.mem_singleton, forall_eq]
      intro u' hu
      go_simp
      simp only [Pl.valsAt]
      have hbu := HB4.out.trans (hu.mono HB4.out.size)
      refine (HM4N.out u' hm6).mono ?_
      rintro e w'' ⟨he, hb⟩
      exact .inr ⟨short, he, rfl, hbu.trans (hb.mono hbu.size)⟩
    · intro x hx
      simp only [List.mem_singleton] at hx
      subst hx
      simp only [Pl.selN, List.drop_succ_cons, List.drop_zero, List.mem_singleton, forall_eq]
      intro u' hu
      go_simp
      simp only [Pl.valsAt]
      exact (Below.refl _ _).alloc (Nat.le_refl _) _
    · rintro c a' u' hd ⟨rfl, hb⟩
      exact ⟨hd, hb, by rw [HNONE.out]⟩
  have hgb := HGB.out hm6
  have hub := HUB.out hh
  have hmb := HMB.out he
  obtain ⟨g0, g1⟩ := hgb
  obtain ⟨uu0, uu1⟩ := hub
  obtain ⟨m0, m1⟩ := hmb
  refine' Pl.region_v1 65 [] [0, 1, 2, 3, 4, 5, 6] 7 7 [8] _ (fun v x' => ∃ G, v = .pointer (some ⟨G, 0, none⟩) ∧ u4.heap.size ≤ G ∧ x'.heap[G]? = some (.cells #[.int .i64 0, .int .i64 0, .int .i64 0] 29 (0, 0))) (by kernel_rfl) (by kernel_rfl) (by simp) (fun _ _ _ _ e h => ⟨e ▸ h.1, h.2⟩) ?_ ?_ ?_ ?_
  rotate_left
  · intro I F hI hF
    simp only [Pl.selN, List.nil_append, List.drop_succ_cons, List.drop_zero]
    have y3 := fun q => hF.cell (heap_lt k3) c3 q
    have y4 := fun q => hF.cell (heap_lt k4) c4 q
    have y5 := fun q => hF.cell (heap_lt k5) c5 q
    repeat (go_big_quiet_step ((go_at_call 33; first | with_reducible exact hF.call (HM4.out hm6 _ (hF.on HB4.out _)) | with_reducible exact hF.call (HM18.out hh _ (hF.on HB4.out _)) | with_reducible exact hF.call (HM34.out he _ (hF.on HB4.out _)))))
    refine wpQuiet_nil ?_
    rfl
  · rintro v x x' ⟨G, h1, h2, h3⟩ hx hx'
    exact ⟨G, h1, h2, (hx'.block G (heap_lt h3)).trans h3⟩
  · simp only [Pl.selN, List.drop_succ_cons, List.drop_zero, List.mem_singleton, forall_eq]
    intro u' hu
    go_simp
    simp only [Pl.valsAt]
    exact ⟨(Below.refl _ _).alloc (Nat.le_refl _) _, _, rfl, hu.size, Bas.heap_new _ _⟩
  intro v y hy hv
  obtain ⟨T7, rfl, hT7, k7⟩ := hv
  simp only [Pl.selN, List.drop_succ_cons, List.drop_zero, Act.put, List.setIfInBounds_toArray, List.set_cons_zero, List.set_cons_succ]
  have jr := (hy.block _ (heap_lt kr)).trans kr
  have HBY := Bas.hid (HB4.out.trans (hy.mono HB4.out.size))
  have hr7 : w.heap.size ≠ T7 := by have := heap_lt kr; omega
  have hT7b : w.heap.size ≤ T7 := by have := heap_lt kr; omega
  have c70 := cell_of_heap (i := 0) (v := .int .i64 0) k7 rfl
  have c71 := cell_of_heap (i := 1) (v := .int .i64 0) k7 rfl
  have c72 := cell_of_heap (i := 2) (v := .int .i64 0) k7 rfl
  have f7 := fun i => free_of_heap (i := i) k7
  have n7 : (((y.setCell ⟨T7, 0, none⟩ (.int .i64 g)).setCell ⟨T7, 1, none⟩ (.int .i64 u)).setCell ⟨T7, 2, none⟩ (.int .i64 m)).heap[T7]? = some (.cells #[.int .i64 g, .int .i64 u, .int .i64 m] 29 (0, 0)) := heap_set (i := 2) (heap_set (i := 1) (heap_set (i := 0) k7 _) _) _
  have nr : (((y.setCell ⟨T7, 0, none⟩ (.int .i64 g)).setCell ⟨T7, 1, none⟩ (.int .i64 u)).setCell ⟨T7, 2, none⟩ (.int .i64 m)).heap[w.heap.size]? = some (.cells #[.int .i64 0, .int .i64 0, .int .i64 0] 29 (0, 0)) := ((Below.heap_setCell _ _ _ _ hr7).trans ((Below.heap_setCell _ _ _ _ hr7).trans (Below.heap_setCell _ _ _ _ hr7))).trans jr
  have HBZ : Hid (Below w.heap.size w (((y.setCell ⟨T7, 0, none⟩ (.int .i64 g)).setCell ⟨T7, 1, none⟩ (.int .i64 u)).setCell ⟨T7, 2, none⟩ (.int .i64 m))) := ((HBY.out.setCell (p := ⟨T7, 0, none⟩) hT7b _).setCell (p := ⟨T7, 1, none⟩) hT7b _).setCell (p := ⟨T7, 2, none⟩) hT7b _
  clear hy kr k3 k4 k5 c3 c4 c5 HBY HB4 HM4 HM18 HM34
  have l7 := heap_lt k7
  have lr := heap_lt jr
  have r0 := cell_of_heap (i := 0) (v := .int .i64 0) jr rfl
  have r1 := cell_of_heap (i := 1) (v := .int .i64 0) jr rfl
  have r2 := cell_of_heap (i := 2) (v := .int .i64 0) jr rfl
  have fr := fun i => free_of_heap (i := i) jr
  have hr7' : T7 ≠ w.heap.size := Ne.symm hr7
  clear k7 jr n7 nr
  by_cases q0 : 1 ≤ g
  case neg =>
    have HNONE : Hid (faceL dm dh de = none) := by unfold Hid; rw [HFL.out, if_neg (fun h => q0 h.2.2.2.1)]
    have t0 : decide (1 ≤ g) = false := by simpa using q0
    clear q0
    go_wp2_with (go_at_call 31; refine (need_nob _ _ (by first | rfl | (simp; done) | (simp; omega))).mono ?_; rintro e w' ⟨rfl, rfl⟩)
    exact ⟨rfl, HBZ.out, by rw [HNONE.out]⟩
  by_cases q1 : 16 ≤ u
  case neg =>
    have HNONE : Hid (faceL dm dh de = none) := by unfold Hid; rw [HFL.out, if_neg (fun h => q1 h.2.2.2.2.1)]
    have t0 : decide (1 ≤ g) = true := by simpa using q0
    have t1 : decide (16 ≤ u) = false := by simpa using q1
    clear q0 q1
    go_wp2_with (go_at_call 31; refine (need_nob _ _ (by first | rfl | (simp; done) | (simp; omega))).mono ?_; rintro e w' ⟨rfl, rfl⟩)
    exact ⟨rfl, HBZ.out, by rw [HNONE.out]⟩
  by_cases q2 : u ≤ 16384
  case neg =>
    have HNONE : Hid (faceL dm dh de = none) := by unfold Hid; rw [HFL.out, if_neg (fun h => q2 h.2.2.2.2.2.1)]
    have t0 : decide (1 ≤ g) = true := by simpa using q0
    have t1 : decide (16 ≤ u) = true := by simpa using q1
    have t2 : decide (u ≤ 16384) = false := by simpa using q2
    clear q0 q1 q2
    go_wp2_with (go_at_call 31; refine (need_nob _ _ (by first | rfl | (simp; done) | (simp; omega))).mono ?_; rintro e w' ⟨rfl, rfl⟩)
    exact ⟨rfl, HBZ.out, by rw [HNONE.out]⟩
  by_cases q3 : 1 ≤ m
  case neg =>
    have HNONE : Hid (faceL dm dh de = none) := by unfold Hid; rw [HFL.out, if_neg (fun h => q3 h.2.2.2.2.2.2.1)]
    have t0 : decide (1 ≤ g) = true := by simpa using q0
    have t1 : decide (16 ≤ u) = true := by simpa using q1
    have t2 : decide (u ≤ 16384) = true := by simpa using q2
    have t3 : decide (1 ≤ m) = false := by simpa using q3
    clear q0 q1 q2 q3
    go_wp2_with (go_at_call 31; refine (need_nob _ _ (by first | rfl | (simp; done) | (simp; omega))).mono ?_; rintro e w' ⟨rfl, rfl⟩)
    exact ⟨rfl, HBZ.out, by rw [HNONE.out]⟩
  by_cases q4 : m ≤ g
  case neg =>
    have HNONE : Hid (faceL dm dh de = none) := by unfold Hid; rw [HFL.out, if_neg (fun h => q4 h.2.2.2.2.2.2.2)]
    have t0 : decide (1 ≤ g) = true := by simpa using q0
    have t1 : decide (16 ≤ u) = true := by simpa using q1
    have t2 : decide (u ≤ 16384) = true := by simpa using q2
    have t3 : decide (1 ≤ m) = true := by simpa using q3
    have t4 : decide (m ≤ g) = false := by simpa using q4
    clear q0 q1 q2 q3 q4
    go_wp2_with (go_at_call 31; refine (need_nob _ _ (by first | rfl | (simp; done) | (simp; omega))).mono ?_; rintro e w' ⟨rfl, rfl⟩)
    exact ⟨rfl, HBZ.out, by rw [HNONE.out]⟩
  have t0 : decide (1 ≤ g) = true := by simpa using q0
  have t1 : decide (16 ≤ u) = true := by simpa using q1
  have t2 : decide (u ≤ 16384) = true := by simpa using q2
  have t3 : decide (1 ≤ m) = true := by simpa using q3
  have t4 : decide (m ≤ g) = true := by simpa using q4
  have HSOME : Hid (faceL dm dh de = some (g, u, m)) := by unfold Hid; rw [HFL.out, if_pos ⟨hh, he, hm6, q0, q1, q2, q3, q4⟩]
  clear q0 q1 q2 q3 q4
  go_wp2_with (go_at_call 31; refine (need_yesb _ _ (by first | rfl | (simp; done) | (simp; omega))).mono ?_; rintro e w' ⟨rfl, rfl⟩)
  refine bodyPost_ret (v := .agg #[.int .i64 g, .int .i64 u, .int .i64 m]) (by simp [results, Try.results15, go_sem, r0, r1, r2, hr7, hr7']) rfl ⟨((HBZ.out.setCell (p := ⟨w.heap.size, 0, none⟩) (Nat.le_refl _) _).setCell (p := ⟨w.heap.size, 1, none⟩) (Nat.le_refl _) _).setCell (p := ⟨w.heap.size, 2, none⟩) (Nat.le_refl _) _, by rw [HSOME.out]⟩
end Fo
end Go.Proofs.Ytkmbeohheblhhaa
