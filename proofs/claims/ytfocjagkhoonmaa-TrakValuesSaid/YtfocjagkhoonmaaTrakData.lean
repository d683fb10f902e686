/- Layer 27 (trak): data, at a place that is not 0. -/
import Derived.Test.YtfocjagkhoonmaaTrakD
namespace Go.Proofs.Ytfocjagkhoonmaa
open Go.RowKit
namespace Tk
open Vw

theorem infoI0 : (Try.prog.info? 3).map (fun i => (i.zero, i.size, i.bytes)) = some (some (.int .i64 0), 1, 8) := infoI ()

set_option maxRecDepth 100000 in
set_option maxHeartbeats 16000000 in
theorem data_main (a : Option Addr) (len cap : Nat) (bs : List Int) (at' n many f : Nat) (w : World) (hl : len ≤ cap) (hc : cap ≤ maxLen) (hv : VB w a bs) (hbl : bs.length = len) (hsmall : len ≤ 1000000000)
    (hat0 : at' ≠ 0) (hat : at' + 8 ≤ len) (hn : be bs at' 2 = n) (hm : be bs (at' + 2) 2 = many) (hf : be bs (at' + 4) 4 = f) (hsz : f + 4 * many ≤ len) (hrw : at' + 8 + 8 * n ≤ len) :
    Calls Try.prog 49 #[.agg #[.slice a len cap], .int .i64 at'] w (DataPost w bs at') := by
  have hnb := be2_bd bs hv.byte at' (by omega)
  have hmb := be2_bd bs hv.byte (at' + 2) (by omega)
  have hfb := be4_bd bs hv.byte (at' + 4) (by omega)
  have U0 := fun (w' : World) (hb : Below w.heap.size w w') => u16_ok a len cap bs at' w' hl hc (hv.below hb) hbl (by omega) (by omega)
  have U2 := fun (w' : World) (hb : Below w.heap.size w w') => u16_ok a len cap bs ((at' : Int) + 2) w' hl hc (hv.below hb) hbl (by omega) (by omega)
  have U4 := fun (w' : World) (hb : Below w.heap.size w w') => u32_ok a len cap bs ((at' : Int) + 4) w' hl hc (hv.below hb) hbl (by omega) (by omega)
  have a2 : ((at' : Int) + 2).toNat = at' + 2 := by omega
  have a4 : ((at' : Int) + 4).toNat = at' + 4 := by omega
  have a8 : ((at' : Int) + 8).toNat = at' + 8 := by omega
  simp only [Int.toNat_natCast, a2, a4] at U0 U2 U4
  have hrB : rowsB len f many 4 := ⟨by omega, by omega, .inr (by omega), by omega, by omega⟩
  have hrB2 : rowsB len ((at' : Int) + 8) n 8 := ⟨by omega, by omega, .inr (by omega), by omega, by omega⟩
  have R1 := fun w' => rows_ok a len cap f many 4 w' hl hc hrB
  have R2 := fun w' => rows_ok a len cap ((at' : Int) + 8) n 8 w' hl hc hrB2
  have e4 : ((many : Int) * 4).toNat = many * 4 := by omega
  have e8 : ((n : Int) * 8).toNat = n * 8 := by omega
  simp only [Int.toNat_natCast, e4, e8, a8] at R1 R2
  have HDA : Hid (dataAt bs at' = if risingTo bs f many = true then (rowsD bs at' many n 0 none).map (trackOf (sizesL bs f many)) else none) := by
    unfold Hid dataAt
    rw [if_neg hat0, hn, hm, hf, hbl]
    simp only [Int.toNat_natCast]
    by_cases hr : risingTo bs f many = true
    · rw [if_pos ⟨hat, hsz, hrw, hr⟩, if_pos hr]
    · rw [if_neg (fun h => hr h.2.2.2), if_neg hr]
  rw [hn] at U0 hnb
  rw [hm] at U2 hmb
  rw [hf] at U4 hfb
  have HU0 := Bas.hid U0
  have HU2 := Bas.hid U2
  have HU4 := Bas.hid U4
  have HR1 := Bas.hid R1
  have HR2 := Bas.hid R2
  have HV := Bas.hid hv
  obtain ⟨n0, n1⟩ := hnb
  obtain ⟨m0, m1⟩ := hmb
  obtain ⟨fb0, fb1⟩ := hfb
  have hz : ((at' : Int) == 0) = false := by simp; omega
  have hal := ((Below.refl w.heap.size w).alloc (Nat.le_refl _) (.cells #[.slice a len cap] 58)).alloc (by simp) (.cells #[.slice none 0 0, .slice none 0 0] 52)
  have k1 : ((w.alloc (.cells #[.slice a len cap] 58)).alloc (.cells #[.slice none 0 0, .slice none 0 0] 52)).heap[w.heap.size]? = some (.cells #[.slice a len cap] 58 (0, 0)) := by
    rw [Below.heap_alloc _ _ _ (by simp)]; exact Bas.heap_new _ _
  have k2 : ((w.alloc (.cells #[.slice a len cap] 58)).alloc (.cells #[.slice none 0 0, .slice none 0 0] 52)).heap[w.heap.size + 1]? = some (.cells #[.slice none 0 0, .slice none 0 0] 52 (0, 0)) := Bas.heap_new2 _ _ _
  have HAL := Bas.hid hal
  clear U0 U2 U4 R1 R2 hv hn hm hf hal e4 e8 a2 a4 a8
  go_enter Try.func49, Try.ntmps49
  go_wp2_with (fail)
  generalize (w.alloc (.cells #[.slice a len cap] 58)).alloc (.cells #[.slice none 0 0, .slice none 0 0] 52) = W at *
  refine' Pl.region_v0 107 [] [0, 1, 2, 3, 4, 5, 6, 7, 8] [] _ (by kernel_rfl) (by kernel_rfl) (by simp) (fun _ _ _ _ e h => ⟨e ▸ h.1, h.2⟩) ?_ ?_
  rotate_left
  · intro I F hI hF
    simp only [Pl.selN, List.nil_append, List.drop_succ_cons, List.drop_zero]
    have x1 := fun i => hF.cell (heap_lt k1) (cell_of_heap (i := 0) (v := .slice a len cap) k1 rfl) i
    repeat (go_big_quiet_step ((go_at_call 47; first | with_reducible exact hF.call (HU0.out _ (hF.on HAL.out _)) | with_reducible exact hF.call (HU2.out _ (hF.on HAL.out _)))))
    refine wpQuiet_nil ?_
    rfl
  intro u hu
  simp only [Pl.selN]
  have j1 := (hu.block _ (heap_lt k1)).trans k1
  have j2 := (hu.block _ (heap_lt k2)).trans k2
  have HB3 := Bas.hid (HAL.out.trans (hu.mono HAL.out.size))
  clear hu k1 k2 HAL HU0 HU2
  go_wp2_with (fail)
  refine' Pl.region_v1 107 [] [0, 1, 2, 3, 4, 5, 6] 7 7 [8] _ (fun v u' => ∃ g, v = .pointer (some ⟨g, 0, none⟩) ∧ u.heap.size ≤ g ∧ u'.heap[g]? = some (.cells #[.slice none 0 0] 58 (0, 0))) (by kernel_rfl) (by kernel_rfl) (by simp) (fun _ _ _ _ e h => ⟨e ▸ h.1, h.2⟩) ?_ ?_ ?_ ?_
  rotate_left
  · intro I F hI hF
    simp only [Pl.selN, List.nil_append, List.drop_succ_cons, List.drop_zero]
    have x1 := fun i => hF.cell (heap_lt j1) (cell_of_heap (i := 0) (v := .slice a len cap) j1 rfl) i
    repeat (go_big_quiet_step ((first | (go_at_call 46; with_reducible exact hF.call (HU4.out _ (hF.on HB3.out _))) | (go_at_call 77; with_reducible exact hF.call (HR1.out _)))))
    refine wpQuiet_nil ?_
    rfl
  · rintro v x x' ⟨g, h1, h2, h3⟩ hx hx'
    exact ⟨g, h1, h2, (hx'.block g (heap_lt h3)).trans h3⟩
  · simp only [Pl.selN, List.drop_succ_cons, List.drop_zero, List.mem_singleton, forall_eq]
    intro u' hu
    go_simp
    simp only [Pl.valsAt]
    exact ⟨(Below.refl _ _).alloc (Nat.le_refl _) _, _, rfl, hu.size, Bas.heap_new _ _⟩
  intro v u2 hu hv
  obtain ⟨T7, rfl, hT7, q7⟩ := hv
  simp only [Pl.selN, List.drop_succ_cons, List.drop_zero, Act.put, List.setIfInBounds_toArray, List.set_cons_zero, List.set_cons_succ]
  have k1 := (hu.block _ (heap_lt j1)).trans j1
  have k2 := (hu.block _ (heap_lt j2)).trans j2
  have HB4 := Bas.hid (HB3.out.trans (hu.mono HB3.out.size))
  have h27 : w.heap.size + 1 < T7 := Nat.lt_of_lt_of_le (heap_lt j2) hT7
  have c7 := cell_of_heap (i := 0) (v := .slice none 0 0) q7 rfl
  have f7 := free_of_heap (i := 0) q7
  have c1 := cell_of_heap (i := 0) (v := .slice a len cap) k1 rfl
  clear hu j1 j2 HB3 HU4 HR1
  go_wp2_with (fail)
  have hlt7 : T7 < u2.heap.size := heap_lt q7
  have q8 := heap_set (i := 0) q7 (.slice (sub a f (many * 4)) (many * 4) (many * 4))
  have j1 := (Below.heap_setCell u2 ⟨T7, 0, none⟩ (.slice (sub a f (many * 4)) (many * 4) (many * 4)) w.heap.size (by show w.heap.size ≠ T7; omega)).trans k1
  have j2 := (Below.heap_setCell u2 ⟨T7, 0, none⟩ (.slice (sub a f (many * 4)) (many * 4) (many * 4)) (w.heap.size + 1) (by show w.heap.size + 1 ≠ T7; omega)).trans k2
  have HB5 := Bas.hid (HB4.out.setCell (p := ⟨T7, 0, none⟩) (by show w.heap.size ≤ T7; omega) (.slice (sub a f (many * 4)) (many * 4) (many * 4)))
  have hVS := fun w' (hb : Below w.heap.size w w') => (HV.out.below hb).sub f (many * 4) (by omega)
  have hAl : ((bs.drop f).take (many * 4)).length = many * 4 := by rw [List.length_take, List.length_drop]; omega
  have hbe := fun i (hi : 4 * i + 4 ≤ many * 4) => be_sub bs f (many * 4) (4 * i) 4 hi
  have HVS := Bas.hid hVS
  have HBE := Bas.hid hbe
  have HSAL := Bas.hid hAl
  generalize sub a f (many * 4) = S at *
  generalize u2.setCell ⟨T7, 0, none⟩ (.slice S (many * 4) (many * 4)) = W5 at *
  have q9 : W5.heap[T7]? = some (.cells #[.slice S (many * 4) (many * 4)] 58 (0, 0)) := q8
  have c1 := cell_of_heap (i := 0) (v := .slice a len cap) j1 rfl
  clear hVS hbe q7 q8 c7 f7 k1 k2 HB4 hAl
  refine (HR2.out _).mono ?_
  rintro e W6 ⟨rfl, hb6⟩
  have k1 := (hb6.block _ (heap_lt j1)).trans j1
  have k2 := (hb6.block _ (heap_lt j2)).trans j2
  have q7 := (hb6.block _ (heap_lt q9)).trans q9
  have HB6 := Bas.hid (HB5.out.trans (hb6.mono HB5.out.size))
  have hRV := fun w' (hb : Below w.heap.size w w') => (HV.out.below hb).sub (at' + 8) (n * 8) (by omega)
  have hRl : ((bs.drop (at' + 8)).take (n * 8)).length = n * 8 := by rw [List.length_take, List.length_drop]; omega
  have hbe2 := fun i (hi : 8 * i + 6 + 2 ≤ n * 8) => be_sub bs (at' + 8) (n * 8) (8 * i + 6) 2 hi
  have hbe3 := fun i (hi : 8 * i + 4 ≤ n * 8) => be_sub bs (at' + 8) (n * 8) (8 * i) 4 hi
  have HRV := Bas.hid hRV
  have HBE2 := Bas.hid hbe2
  have HBE3 := Bas.hid hbe3
  have HRL := Bas.hid hRl
  generalize sub a (at' + 8) (n * 8) = R at *
  clear hb6 j1 j2 q9 c1 HB5 HR2 hRV hbe2 hbe3 hRl
  go_wp2_with (fail)
  have j1 := (Below.heap_alloc (W6.alloc (.cells #[.slice R (n * 8) (n * 8)] 58)) (.cells #[.slice none 0 0, .slice none 0 0] 52) _ (by have := heap_lt k1; simp; omega)).trans ((Below.heap_alloc W6 (.cells #[.slice R (n * 8) (n * 8)] 58) _ (heap_lt k1)).trans k1)
  have j2 := (Below.heap_alloc (W6.alloc (.cells #[.slice R (n * 8) (n * 8)] 58)) (.cells #[.slice none 0 0, .slice none 0 0] 52) _ (by have := heap_lt k2; simp; omega)).trans ((Below.heap_alloc W6 (.cells #[.slice R (n * 8) (n * 8)] 58) _ (heap_lt k2)).trans k2)
  have j7 := (Below.heap_alloc (W6.alloc (.cells #[.slice R (n * 8) (n * 8)] 58)) (.cells #[.slice none 0 0, .slice none 0 0] 52) _ (by have := heap_lt q7; simp; omega)).trans ((Below.heap_alloc W6 (.cells #[.slice R (n * 8) (n * 8)] 58) _ (heap_lt q7)).trans q7)
  have j8 := (Below.heap_alloc (W6.alloc (.cells #[.slice R (n * 8) (n * 8)] 58)) (.cells #[.slice none 0 0, .slice none 0 0] 52) _ (by simp)).trans (Bas.heap_new W6 (.cells #[.slice R (n * 8) (n * 8)] 58))
  have j9 := Bas.heap_new2 W6 (.cells #[.slice R (n * 8) (n * 8)] 58) (.cells #[.slice none 0 0, .slice none 0 0] 52)
  have HB7 := Bas.hid ((HB6.out.alloc HB6.out.size (.cells #[.slice R (n * 8) (n * 8)] 58)).alloc (by have := HB6.out.size; simp; omega) (.cells #[.slice none 0 0, .slice none 0 0] 52))
  have h78 : T7 < W6.heap.size := heap_lt q7
  generalize (W6.alloc (.cells #[.slice R (n * 8) (n * 8)] 58)).alloc (.cells #[.slice none 0 0, .slice none 0 0] 52) = W7 at *
  generalize W6.heap.size = T8 at j8 j9 h78 ⊢
  clear k1 k2 q7 HB6
  go_loopw [10, 38] (fun _ vi wr => ∃ (i : Nat) (v1 : Value), i ≤ many ∧ vi = .int .i64 i ∧ risingTo bs f i = true ∧ wr.ownsRow w.heap.size 3 1 v1 i ((sizesL bs f i).map (Value.int .i64)) ∧ Below w.heap.size w wr ∧ wr.heap[w.heap.size]? = some (.cells #[.slice a len cap] 58 (0, 0)) ∧ wr.heap[w.heap.size + 1]? = some (.cells #[.slice none 0 0, .slice none 0 0] 52 (0, 0)) ∧
    wr.heap[T7]? = some (.cells #[.slice S (many * 4) (many * 4)] 58 (0, 0)) ∧ wr.heap[T8]? = some (.cells #[.slice R (n * 8) (n * 8)] 58 (0, 0)) ∧ wr.heap[T8 + 1]? = some (.cells #[v1, .slice none 0 0] 52 (0, 0))) (fun _ vi _ => many - (intOf vi).toNat)
  case atStart => exact ⟨0, _, Nat.zero_le _, rfl, rfl, Row.owned_nil _ _ _ _, HB7.out, j1, j2, j7, j8, j9⟩
  case round =>
    obtain ⟨i, v1, hi, rfl, hris, hown, hb, o1, o2, o7, o8, o9⟩ := hrel
    have HRIS := Bas.hid hris
    have HO := Bas.hid hown
    have HB := Bas.hid hb
    obtain ⟨ad1, cp1, rfl⟩ := own_slice hown
    by_cases him : i < many
    · have hmn : many * 4 ≤ maxLen := by unfold maxLen; omega
      have V := fun (w' : World) (hb : Below w.heap.size w w') => i32_ok S (many * 4) (many * 4) _ (4 * (i : Int)) w' (Nat.le_refl _) hmn (HVS.out w' hb) HSAL.out (by omega) (by omega)
      have e4 : (4 * (i : Int)).toNat = 4 * i := by omega
      simp only [e4, HBE.out i (by omega)] at V
      have HSS := Bas.hid (sizesL_succ bs f i)
      have HST := Bas.hid (rising_step bs f i)
      have HPREV : Hid (0 < i → (sizesL bs f i)[i - 1]? = some (s32 (be bs (f + 4 * (i - 1)) 4))) := fun h => sizesL_get bs f i (i - 1) (by omega)
      have hxb := be4_bd bs HV.out.byte (f + 4 * i) (by omega)
      have hxs : -2147483648 ≤ s32 (be bs (f + 4 * i) 4) ∧ s32 (be bs (f + 4 * i) 4) ≤ 2147483647 := by unfold s32; split <;> omega
      generalize s32 (be bs (f + 4 * i) 4) = x at *
      have HVV := Bas.hid V
      clear V e4 hown hb j1 j2 j7 j8 j9 hmn hxb hris
      go_wp2_with (fail)
      refine' Pl.region_v1 107 [] [0, 1, 2, 3, 4, 5] 6 47 [7, 8, 9] _ (fun v u' => ∃ g, v = .slice (some ⟨g, 0, none⟩) 1 1 ∧ wr.heap.size ≤ g ∧ u'.heap[g]? = some (.cells #[.int .i64 x] 3 (0, 0))) (by kernel_rfl) (by kernel_rfl) (by simp) (fun _ _ _ _ e h => ⟨e ▸ h.1, h.2⟩) ?_ ?_ ?_ ?_
      rotate_left
      · intro I F hI hF
        simp only [Pl.selN, List.nil_append, List.drop_succ_cons, List.drop_zero]
        have x1 := fun q => hF.cell (heap_lt o9) (cell_of_heap (i := 0) (v := .slice ad1 i cp1) o9 rfl) q
        have x2 := fun q => hF.cell (heap_lt o7) (cell_of_heap (i := 0) (v := .slice S (many * 4) (many * 4)) o7 rfl) q
        repeat (go_big_quiet_step ((go_at_call 78; with_reducible exact hF.call (HVV.out _ (hF.on HB.out _)))))
        refine wpQuiet_nil ?_
        rfl
      · rintro v x x' ⟨g, h1, h2, h3⟩ hx hx'
        exact ⟨g, h1, h2, (hx'.block g (heap_lt h3)).trans h3⟩
      · simp only [Pl.selN, List.drop_succ_cons, List.drop_zero, List.mem_singleton, forall_eq]
        intro u' hu
        go_simp
        simp only [Pl.valsAt]
        exact ⟨(Below.refl _ _).alloc (Nat.le_refl _) _, _, rfl, hu.size, Bas.heap_new _ _⟩
      intro v u3 hu hv
      obtain ⟨g, rfl, hg, hgc⟩ := hv
      simp only [Pl.selN, List.drop_succ_cons, List.drop_zero, Act.put, List.setIfInBounds_toArray, List.set_cons_zero, List.set_cons_succ]
      have u1 := (hu.block _ (heap_lt o1)).trans o1
      have u2 := (hu.block _ (heap_lt o2)).trans o2
      have u7 := (hu.block _ (heap_lt o7)).trans o7
      have u8 := (hu.block _ (heap_lt o8)).trans o8
      have u9 := (hu.block _ (heap_lt o9)).trans o9
      have HOu := Bas.hid (Row.owned_below HO.out hu)
      have HBu := Bas.hid (HB.out.trans (hu.mono HB.out.size))
      have hv1 := own_ty HOu.out u1 (by decide)
      have hv2 := own_ty HOu.out u2 (by decide)
      have hv7 := own_ty HOu.out u7 (by decide)
      have hv8 := own_ty HOu.out u8 (by decide)
      have hv9 := own_ty HOu.out u9 (by decide)
      clear o1 o2 o7 o8 o9 hu HO HB
      refine (Row.append_any rfl _ _ 36 3 rfl (.int .i64 0) 1 8 Try.underlying36 infoI0 rfl (by decide) w.heap.size (.slice ad1 i cp1) i _ rfl HOu.out (.slice (some ⟨g, 0, none⟩) 1 1) 1 [.int .i64 x] rfl (leads_heap hgc) rfl (by simp; rfl) (by unfold maxLen; omega) (by omega) HBu.out.size ?_)
      intro v' w9 hown9 hg9 _
      rw [← List.map_singleton (f := Value.int .i64), ← List.map_append, ← HSS.out] at hown9
      have s1 := (hg9.block _ (heap_lt u1) (fun e => hv1 e.symm)).trans u1
      have s2 := (hg9.block _ (heap_lt u2) (fun e => hv2 e.symm)).trans u2
      have s7 := (hg9.block _ (heap_lt u7) (fun e => hv7 e.symm)).trans u7
      have s8 := (hg9.block _ (heap_lt u8) (fun e => hv8 e.symm)).trans u8
      have s9 := (hg9.block _ (heap_lt u9) (fun e => hv9 e.symm)).trans u9
      have HB8 := Bas.hid (HBu.out.grown hg9 HBu.out.size (fun g' hg' => (Row.own_block HOu.out hg').1))
      rcases Row.owned_parts hown9 with ⟨_, h0, _⟩ | ⟨G, cp9, hvG, hGb, hGl0, hGc, hGm, hcl, -⟩
      · omega
      subst hvG
      have HO8 := Bas.hid hown9
      have zc := cell_of_heap (i := 0) (v := .slice ad1 i cp1) s9 rfl
      have zf := free_of_heap (i := 0) s9
      have cA0 := hcl i (.int .i64 x) (by rw [HSS.out, List.map_append, List.getElem?_append_right (by simp [sizesL_len])]; simp [sizesL_len])
      have HCL := Bas.hid hcl
      clear hown9 hg9 u1 u2 u7 u8 u9 hgc HOu HBu hcl
      go_wp2_with (fail)
      have h89 : T8 + 1 ≠ G := fun e => own_ty HO8.out s9 (by decide) (by rw [e]; rfl)
      have z1 := (Below.heap_setCell w9 ⟨T8 + 1, 0, none⟩ (.slice (some ⟨G, 0, none⟩) (i + 1) cp9) w.heap.size (by show w.heap.size ≠ T8 + 1; omega)).trans s1
      have z2 := (Below.heap_setCell w9 ⟨T8 + 1, 0, none⟩ (.slice (some ⟨G, 0, none⟩) (i + 1) cp9) (w.heap.size + 1) (by show w.heap.size + 1 ≠ T8 + 1; omega)).trans s2
      have z7 := (Below.heap_setCell w9 ⟨T8 + 1, 0, none⟩ (.slice (some ⟨G, 0, none⟩) (i + 1) cp9) T7 (by show T7 ≠ T8 + 1; omega)).trans s7
      have z8 := (Below.heap_setCell w9 ⟨T8 + 1, 0, none⟩ (.slice (some ⟨G, 0, none⟩) (i + 1) cp9) T8 (by show T8 ≠ T8 + 1; omega)).trans s8
      have z9 : (w9.setCell ⟨T8 + 1, 0, none⟩ (.slice (some ⟨G, 0, none⟩) (i + 1) cp9)).heap[T8 + 1]? = some (.cells #[.slice (some ⟨G, 0, none⟩) (i + 1) cp9, .slice none 0 0] 52 (0, 0)) := heap_set (i := 0) s9 (.slice (some ⟨G, 0, none⟩) (i + 1) cp9)
      have hkG : ∀ o, (w9.setCell ⟨T8 + 1, 0, none⟩ (.slice (some ⟨G, 0, none⟩) (i + 1) cp9)).cell? ⟨G, o, none⟩ = w9.cell? ⟨G, o, none⟩ := fun o => World.cell?_of_block (Below.heap_setCell _ _ _ _ (by show G ≠ T8 + 1; omega))
      have HO9 := Bas.hid (Row.owned_keep HO8.out (w' := w9.setCell ⟨T8 + 1, 0, none⟩ (.slice (some ⟨G, 0, none⟩) (i + 1) cp9)) fun g' hg' => Below.heap_setCell _ _ _ _ (fun e => own_ty HO8.out s9 (by decide) (by rw [hg', e])))
      have HB9 := Bas.hid (HB8.out.setCell (p := ⟨T8 + 1, 0, none⟩) (by show w.heap.size ≤ T8 + 1; omega) (.slice (some ⟨G, 0, none⟩) (i + 1) cp9))
      have cA := (hkG i).trans cA0
      have hGl : G < (w9.setCell ⟨T8 + 1, 0, none⟩ (.slice (some ⟨G, 0, none⟩) (i + 1) cp9)).heap.size := by simpa [World.setCell] using hGl0
      have HKG := Bas.hid hkG
      generalize w9.setCell ⟨T8 + 1, 0, none⟩ (.slice (some ⟨G, 0, none⟩) (i + 1) cp9) = W10 at *
      clear s1 s2 s7 s8 s9 zc zf HO8 HB8 cA0 hkG hGl0
      rcases Nat.eq_zero_or_pos i with hi0 | hi0
      · have hk0 : ((i : Int) == 0) = true := by simp; omega
        have HRR : Hid (risingTo bs f (i + 1) = true) := by unfold Hid; rw [HST.out, HRIS.out, decide_eq_true hi0]; rfl
        clear hi0
        refine' Pl.region_v0 107 [] [0, 1, 2, 3, 4, 5, 6, 7, 8, 9, 10, 11, 12, 13, 14, 15, 16] [] _ (by kernel_rfl) (by kernel_rfl) (by simp) (fun _ _ _ _ e h => ⟨e ▸ h.1, h.2⟩) ?_ ?_
        rotate_left
        · intro I F hI hF
          simp only [Pl.selN, List.nil_append, List.drop_succ_cons, List.drop_zero]
          repeat (go_big_quiet_step ((go_at_call 45; exact hF.same (need_yesb _ _ (by first | rfl | (simp; done) | (simp; omega))))))
          refine wpQuiet_nil ?_
          rfl
        intro u5 hu5
        simp only [Pl.selN]
        have r1 := (hu5.block _ (heap_lt z1)).trans z1
        have r2 := (hu5.block _ (heap_lt z2)).trans z2
        have r7 := (hu5.block _ (heap_lt z7)).trans z7
        have r8 := (hu5.block _ (heap_lt z8)).trans z8
        have r9 := (hu5.block _ (heap_lt z9)).trans z9
        have HOE := Bas.hid (Row.owned_below HO9.out hu5)
        have HBE9 := Bas.hid (HB9.out.trans (hu5.mono HB9.out.size))
        clear hu5 z1 z2 z7 z8 z9 HO9 HB9
        go_wp2_with (fail)
        go_roundw
        case rel => exact ⟨i + 1, _, by omega, by go_num, HRR.out, HOE.out, HBE9.out, r1, r2, r7, r8, r9⟩
        case measure => simp [intOf]; omega
      · have hk0 : ((i : Int) == 0) = false := by simp; omega
        obtain ⟨j, hj⟩ : ∃ j, i = j + 1 := ⟨i - 1, by omega⟩
        have e5 : (i : Int) - 1 = (j : Int) := by omega
        have hji : j < i + 1 := by omega
        have hp := HPREV.out hi0
        have cB0 := HCL.out j (.int .i64 (s32 (be bs (f + 4 * (i - 1)) 4))) (by
          rw [HSS.out, List.map_append, List.getElem?_append_left (by simp [sizesL_len]; omega), List.getElem?_map, show j = i - 1 by omega, hp]; rfl)
        have cB := (HKG.out j).trans cB0
        have hiz : ¬ i = 0 := by omega
        generalize s32 (be bs (f + 4 * (i - 1)) 4) = y at *
        clear hj hp cB0
        by_cases hxy : y < x
        · have dxy : decide (y < x) = true := by simpa using hxy
          have HRR : Hid (risingTo bs f (i + 1) = true) := by unfold Hid; rw [HST.out, HRIS.out, dxy]; simp
          clear hiz
          refine' Pl.region_v0 107 [] [0, 1, 2, 3, 4, 5, 6, 7, 8, 9, 10, 11, 12, 13, 14, 15, 16] [] _ (by kernel_rfl) (by kernel_rfl) (by simp) (fun _ _ _ _ e h => ⟨e ▸ h.1, h.2⟩) ?_ ?_
          rotate_left
          · intro I F hI hF
            simp only [Pl.selN, List.nil_append, List.drop_succ_cons, List.drop_zero]
            have y1 := fun q => hF.cell (heap_lt z9) (cell_of_heap (i := 0) (v := .slice (some ⟨G, 0, none⟩) (i + 1) cp9) z9 rfl) q
            have y2 := fun q => hF.cell hGl cA q
            have y3 := fun q => hF.cell hGl cB q
            repeat (go_big_quiet_step ((go_at_call 45; exact hF.same (need_yesb _ _ (by first | rfl | (simp; done) | (simp; omega))))))
            refine wpQuiet_nil ?_
            rfl
          intro u5 hu5
          simp only [Pl.selN]
          have r1 := (hu5.block _ (heap_lt z1)).trans z1
          have r2 := (hu5.block _ (heap_lt z2)).trans z2
          have r7 := (hu5.block _ (heap_lt z7)).trans z7
          have r8 := (hu5.block _ (heap_lt z8)).trans z8
          have r9 := (hu5.block _ (heap_lt z9)).trans z9
          have HOE := Bas.hid (Row.owned_below HO9.out hu5)
          have HBE9 := Bas.hid (HB9.out.trans (hu5.mono HB9.out.size))
          clear hu5 z1 z2 z7 z8 z9 HO9 HB9
          go_wp2_with (fail)
          go_roundw
          case rel => exact ⟨i + 1, _, by omega, by go_num, HRR.out, HOE.out, HBE9.out, r1, r2, r7, r8, r9⟩
          case measure => simp [intOf]; omega
        · have dxy : decide (y < x) = false := by simpa using hxy
          have hno : risingTo bs f many = false := by
            have h1 : risingTo bs f (i + 1) = false := by rw [HST.out, dxy, decide_eq_false hiz]; simp
            have := rising_no bs f (many - (i + 1)) (i + 1) h1
            rwa [show i + 1 + (many - (i + 1)) = many by omega] at this
          have HNO : Hid (dataAt bs at' = none) := by unfold Hid; rw [HDA.out, hno]; rfl
          clear hiz hno
          refine' Pl.region_vh 107 [] [0, 1, 2, 3, 4, 5, 6, 7, 8, 9, 10, 11, 12, 13, 14, 15] [] 16 66 [] _ (fun ch w' => ch = short ∧ Below w.heap.size w w') (by kernel_rfl) (by kernel_rfl) (by kernel_rfl) (by simp) (fun _ _ _ _ e h => ⟨e ▸ h.1, h.2⟩) ?_ ?_ ?_ ?_
          rotate_left
          · intro I F hI hF
            simp only [Pl.selN, List.nil_append, List.drop_succ_cons, List.drop_zero]
            have y1 := fun q => hF.cell (heap_lt z9) (cell_of_heap (i := 0) (v := .slice (some ⟨G, 0, none⟩) (i + 1) cp9) z9 rfl) q
            have y2 := fun q => hF.cell hGl cA q
            have y3 := fun q => hF.cell hGl cB q
            repeat (go_big_quiet_step (fail))
            refine wpQuiet_nil ?_
            rfl
          · simp only [Pl.selN, List.drop_succ_cons, List.drop_zero, List.mem_singleton, forall_eq]
            intro u' hu'
            go_simp
            simp only [Pl.valsAt]
            have hbu := HB9.out.trans (hu'.mono HB9.out.size)
            refine (need_nob _ u' (by first | rfl | (simp; done) | (simp; omega))).mono ?_
            rintro e w'' ⟨he, rfl⟩
            exact .inr ⟨short, he, rfl, hbu⟩
          · intro x hx; cases hx
          · rintro c a' u' hd ⟨rfl, hb⟩
            exact ⟨hd, hb, by rw [HNO.out]⟩
    · have him2 : i = many := by omega
      have hris2 : risingTo bs f many = true := by rw [← him2]; exact hris
      have HDA2 : Hid (dataAt bs at' = (rowsD bs at' many n 0 none).map (trackOf (sizesL bs f many))) := by unfold Hid; rw [HDA.out, if_pos hris2]
      have hown2 := hown
      rw [him2] at hown2
      have HSO := Bas.hid hown2
      subst him2
      clear hown hown2 hb hris hris2 j1 j2 j7 j8 j9 HO
      go_wp2_with (fail)
      obtain ⟨wo, hwo⟩ : ∃ wo : World, wo = wr := ⟨_, rfl⟩
      rw [← hwo] at HSO HB o1 o2 o8 o9
      rw [← hwo]
      clear hwo o7
      go_loopw [11, 12, 13, 14, 69] (fun vf _ _ _ vi wr => ∃ (k : Nat) (fd : Option (List Int)) (v2 : Value), k ≤ n ∧ vi = .int .i64 k ∧ vf = .bool fd.isSome ∧ rowsD bs at' i n 0 none = rowsD bs at' i (n - k) k fd ∧ (∀ vl, fd = some vl → vl.length = i) ∧
        wr.ownsRow w.heap.size 3 1 (.slice ad1 i cp1) i ((sizesL bs f i).map (Value.int .i64)) ∧ wr.ownsRow w.heap.size 3 1 v2 (fd.getD []).length ((fd.getD []).map (Value.int .i64)) ∧ (∀ g, Value.ownBlock (.slice ad1 i cp1) = some g → v2.ownBlock ≠ some g) ∧ Below w.heap.size w wr ∧ wr.heap[w.heap.size]? = some (.cells #[.slice a len cap] 58 (0, 0)) ∧ wr.heap[w.heap.size + 1]? = some (.cells #[.slice none 0 0, .slice none 0 0] 52 (0, 0)) ∧ wr.heap[T8]? = some (.cells #[.slice R (n * 8) (n * 8)] 58 (0, 0)) ∧
        wr.heap[T8 + 1]? = some (.cells #[.slice ad1 i cp1, v2] 52 (0, 0))) (fun _ _ _ _ vi _ => n - (intOf vi).toNat)
      case atStart => exact ⟨0, none, _, Nat.zero_le _, rfl, rfl, rfl, (fun vl h => by cases h), HSO.out, Row.owned_nil _ _ _ _, (fun g _ h => by cases h), HB.out, o1, o2, o8, o9⟩
      case round =>
        obtain ⟨k, fd, v2, hk, rfl, rfl, hrd, hfl, hsz1, hvl1, hap, hb, p1, p2, p8, p9⟩ := hrel
        have HRD := Bas.hid hrd
        have HFL := Bas.hid hfl
        have HS1 := Bas.hid hsz1
        have HV1 := Bas.hid hvl1
        have HAP := Bas.hid hap
        have HBL := Bas.hid hb
        clear hrd hfl hsz1 hvl1 hap o1 o2 o8 o9
        by_cases hkn : k < n
        · have hmn8 : n * 8 ≤ maxLen := by unfold maxLen; omega
          have V := fun (w' : World) (hb : Below w.heap.size w w') => u16_ok R (n * 8) (n * 8) _ (8 * (k : Int) + 6) w' (Nat.le_refl _) hmn8 (HRV.out w' hb) HRL.out (by omega) (by omega)
          have e6 : (8 * (k : Int) + 6).toNat = 8 * k + 6 := by omega
          have e86 : at' + 8 + (8 * k + 6) = at' + 8 + 8 * k + 6 := by omega
          simp only [e6, HBE2.out k (by omega), e86] at V
          have hob := be2_bd bs HV.out.byte (at' + 8 + 8 * k + 6) (by omega)
          have V0 := fun (w' : World) (hb : Below w.heap.size w w') => u32_ok R (n * 8) (n * 8) _ (8 * (k : Int)) w' (Nat.le_refl _) hmn8 (HRV.out w' hb) HRL.out (by omega) (by omega)
          have e0 : (8 * (k : Int)).toNat = 8 * k := by omega
          simp only [e0, HBE3.out k (by omega)] at V0
          obtain ⟨off, hoff⟩ : ∃ off : Nat, be bs (at' + 8 + 8 * k + 6) 2 = off := ⟨(be bs (at' + 8 + 8 * k + 6) 2).toNat, by omega⟩
          have HSTEP : Hid (rowsD bs at' i (n - k) k fd = if off + 2 * i ≤ len then rowsD bs at' i (n - (k + 1)) (k + 1) (nextF fd (be bs (at' + 8 + 8 * k) 4) (valsL bs off i)) else none) := by
            unfold Hid
            rw [show n - k = (n - (k + 1)) + 1 by omega, rowsD, hoff, Int.toNat_natCast, hbl]
          rw [hoff] at V hob
          generalize be bs (at' + 8 + 8 * k) 4 = kind at *
          obtain ⟨ob0, ob1⟩ := hob
          have HVV := Bas.hid V
          have HV0 := Bas.hid V0
          clear V V0 e6 e86 e0 hoff hmn8 hb
          go_wp2_with (fail)
          by_cases hfit : off + 2 * i ≤ len
          · have hrB3 : rowsB len off i 2 := ⟨by omega, by omega, .inr (by omega), by omega, by omega⟩
            have R3 := fun w' => rows_ok a len cap off i 2 w' hl hc hrB3
            have e2 : ((i : Int) * 2).toNat = i * 2 := by omega
            simp only [Int.toNat_natCast, e2] at R3
            have HR3 := Bas.hid R3
            have hVS := fun w' (hb : Below w.heap.size w w') => (HV.out.below hb).sub off (i * 2) (by omega)
            have hAl : ((bs.drop off).take (i * 2)).length = i * 2 := by rw [List.length_take, List.length_drop]; omega
            have hbe := fun j (hj : 2 * j + 2 ≤ i * 2) => be_sub bs off (i * 2) (2 * j) 2 hj
            have HXS := Bas.hid hVS
            have HBX := Bas.hid hbe
            have HXL := Bas.hid hAl
            generalize sub a off (i * 2) = X at *
            clear R3 e2 hVS hAl hbe
            have HST2 := Bas.hid (HSTEP.out.trans (if_pos hfit))
            clear HSTEP
            refine' Pl.region_v1 107 [] [0, 1, 2, 3, 4, 5, 6, 7] 8 13 [9] _ (fun v u' => ∃ g, v = .pointer (some ⟨g, 0, none⟩) ∧ wr.heap.size ≤ g ∧ u'.heap[g]? = some (.cells #[.slice none 0 0] 58 (0, 0))) (by kernel_rfl) (by kernel_rfl) (by simp) (fun _ _ _ _ e h => ⟨e ▸ h.1, h.2⟩) ?_ ?_ ?_ ?_
            rotate_left
            · intro I F hI hF
              simp only [Pl.selN, List.nil_append, List.drop_succ_cons, List.drop_zero]
              have x1 := fun q => hF.cell (heap_lt p1) (cell_of_heap (i := 0) (v := .slice a len cap) p1 rfl) q
              have x2 := fun q => hF.cell (heap_lt p8) (cell_of_heap (i := 0) (v := .slice R (n * 8) (n * 8)) p8 rfl) q
              repeat (go_big_quiet_step ((first | (go_at_call 47; with_reducible exact hF.call (HVV.out _ (hF.on HBL.out _))) | (go_at_call 77; with_reducible exact hF.call (HR3.out _)))))
              refine wpQuiet_nil ?_
              rfl
            · rintro v x x' ⟨g, h1, h2, h3⟩ hx hx'
              exact ⟨g, h1, h2, (hx'.block g (heap_lt h3)).trans h3⟩
            · simp only [Pl.selN, List.drop_succ_cons, List.drop_zero, List.mem_singleton, forall_eq]
              intro u' hu
              go_simp
              simp only [Pl.valsAt]
              exact ⟨(Below.refl _ _).alloc (Nat.le_refl _) _, _, rfl, hu.size, Bas.heap_new _ _⟩
            intro v u3 hu hv
            obtain ⟨T13, rfl, hT13, q13⟩ := hv
            simp only [Pl.selN, List.drop_succ_cons, List.drop_zero, Act.put, List.setIfInBounds_toArray, List.set_cons_zero, List.set_cons_succ]
            have l1 := heap_lt p1
            have l2 := heap_lt p2
            have l8 := heap_lt p8
            have l9 := heap_lt p9
            have c13 := cell_of_heap (i := 0) (v := .slice none 0 0) q13 rfl
            have f13 := free_of_heap (i := 0) q13
            have hkp : ∀ g, g < wr.heap.size → (u3.setCell ⟨T13, 0, none⟩ (.slice X (i * 2) (i * 2))).heap[g]? = wr.heap[g]? := fun g hg => (Below.heap_setCell _ _ _ _ (by show g ≠ T13; omega)).trans (hu.block g hg)
            have n13 : (u3.setCell ⟨T13, 0, none⟩ (.slice X (i * 2) (i * 2))).heap[T13]? = some (.cells #[.slice X (i * 2) (i * 2)] 58 (0, 0)) := heap_set (i := 0) q13 (.slice X (i * 2) (i * 2))
            have HB4 := Bas.hid ((HBL.out.trans (hu.mono HBL.out.size)).setCell (p := ⟨T13, 0, none⟩) (by show w.heap.size ≤ T13; have := HBL.out.size; omega) (.slice X (i * 2) (i * 2)))
            have HS4 := Bas.hid (Row.owned_keep HS1.out (w' := u3.setCell ⟨T13, 0, none⟩ (.slice X (i * 2) (i * 2))) fun g hg => hkp g (Row.own_block HS1.out hg).2)
            have HV4 := Bas.hid (Row.owned_keep HV1.out (w' := u3.setCell ⟨T13, 0, none⟩ (.slice X (i * 2) (i * 2))) fun g hg => hkp g (Row.own_block HV1.out hg).2)
            have m1 := (hkp _ l1).trans p1
            have m2 := (hkp _ l2).trans p2
            have m8 := (hkp _ l8).trans p8
            have m9 := (hkp _ l9).trans p9
            have d8 := cell_of_heap (i := 0) (v := .slice R (n * 8) (n * 8)) ((hu.block _ l8).trans p8) rfl
            have e8 := cell_of_heap (i := 0) (v := .slice R (n * 8) (n * 8)) m8 rfl
            clear hu hkp p1 p2 p8 p9 HS1 HV1 HBL HR3 HVV q13 l1 l2 l9
            cases fd with
            | some vl =>
              simp only [Option.isSome_some] at *
              go_wp2_with (fail)
              generalize u3.setCell ⟨T13, 0, none⟩ (.slice X (i * 2) (i * 2)) = W4 at *
              go_roundw
              case rel => exact ⟨k + 1, some vl, v2, by omega, by go_num, rfl, by rw [HRD.out, HST2.out]; rfl, HFL.out, HS4.out, HV4.out, HAP.out, HB4.out, m1, m2, m8, m9⟩
              case measure => simp [intOf]; omega
            | none =>
              simp only [Option.isSome_none] at *
              go_wp2_with (fail)
              generalize u3.setCell ⟨T13, 0, none⟩ (.slice X (i * 2) (i * 2)) = W4 at *
              clear c13 f13 d8 e8 l8
              refine (HV0.out _ HB4.out).mono ?_
              rintro e W5 ⟨rfl, hb5⟩
              have x1 := (hb5.block _ (heap_lt m1)).trans m1
              have x2 := (hb5.block _ (heap_lt m2)).trans m2
              have x8 := (hb5.block _ (heap_lt m8)).trans m8
              have x9 := (hb5.block _ (heap_lt m9)).trans m9
              have x13 := (hb5.block _ (heap_lt n13)).trans n13
              have HB5 := Bas.hid (HB4.out.trans (hb5.mono HB4.out.size))
              have HS5 := Bas.hid (Row.owned_below HS4.out hb5)
              have HV5 := Bas.hid (Row.owned_below HV4.out hb5)
              clear hb5 m1 m2 m8 m9 n13 HB4 HS4 HV4 HV0
              by_cases hkd : kind = 0
              · subst hkd
                have HST3 := Bas.hid (HST2.out)
                clear HST2
                go_wp2_with (fail)
                go_loopw [14, 89] (fun _ vj wr => ∃ (j : Nat) (v3 : Value), j ≤ i ∧ vj = .int .i64 j ∧ wr.ownsRow w.heap.size 3 1 (.slice ad1 i cp1) i ((sizesL bs f i).map (Value.int .i64)) ∧ wr.ownsRow w.heap.size 3 1 v3 j ((valsL bs off j).map (Value.int .i64)) ∧ (∀ g, Value.ownBlock (.slice ad1 i cp1) = some g → v3.ownBlock ≠ some g) ∧ Below w.heap.size w wr ∧ wr.heap[w.heap.size]? = some (.cells #[.slice a len cap] 58 (0, 0)) ∧ wr.heap[w.heap.size + 1]? = some (.cells #[.slice none 0 0, .slice none 0 0] 52 (0, 0)) ∧ wr.heap[T8]? = some (.cells #[.slice R (n * 8) (n * 8)] 58 (0, 0)) ∧
                  wr.heap[T13]? = some (.cells #[.slice X (i * 2) (i * 2)] 58 (0, 0)) ∧ wr.heap[T8 + 1]? = some (.cells #[.slice ad1 i cp1, v3] 52 (0, 0))) (fun _ vj _ => i - (intOf vj).toNat)
                case atStart => exact ⟨0, v2, Nat.zero_le _, rfl, HS5.out, HV5.out, HAP.out, HB5.out, x1, x2, x8, x13, x9⟩
                case round =>
                  obtain ⟨j, v3, hj, rfl, hs1, hv1, hap, hb, y1, y2, y8, y13, y9⟩ := hrel
                  have HSJ := Bas.hid hs1
                  have HVJ := Bas.hid hv1
                  have HAJ := Bas.hid hap
                  have HBJ := Bas.hid hb
                  obtain ⟨ad3, cp3, rfl⟩ := own_slice hv1
                  clear hs1 hv1 hap x1 x2 x8 x13 x9 HAP HS5 HV5
                  by_cases hji : j < i
                  · have hmn2 : i * 2 ≤ maxLen := by unfold maxLen; omega
                    have V := fun (w' : World) (hb : Below w.heap.size w w') => i16_ok X (i * 2) (i * 2) _ (2 * (j : Int)) w' (Nat.le_refl _) hmn2 (HXS.out w' hb) HXL.out (by omega) (by omega)
                    have e2 : (2 * (j : Int)).toNat = 2 * j := by omega
                    simp only [e2, HBX.out j (by omega)] at V
                    have HVL := Bas.hid (valsL_succ bs off j)
                    have hxb := be2_bd bs HV.out.byte (off + 2 * j) (by omega)
                    have hxs : -32768 ≤ s16 (be bs (off + 2 * j) 2) ∧ s16 (be bs (off + 2 * j) 2) ≤ 32767 := by unfold s16; split <;> omega
                    generalize s16 (be bs (off + 2 * j) 2) = x at *
                    have HVV := Bas.hid V
                    clear V e2 hb hmn2 hxb
                    go_wp2_with (fail)
                    refine' Pl.region_v1 107 [] [0, 1, 2, 3, 4, 5] 6 98 [7, 8, 9] _ (fun v u' => ∃ g, v = .slice (some ⟨g, 0, none⟩) 1 1 ∧ wr.heap.size ≤ g ∧ u'.heap[g]? = some (.cells #[.int .i64 x] 3 (0, 0))) (by kernel_rfl) (by kernel_rfl) (by simp) (fun _ _ _ _ e h => ⟨e ▸ h.1, h.2⟩) ?_ ?_ ?_ ?_
                    rotate_left
                    · intro I F hI hF
                      simp only [Pl.selN, List.nil_append, List.drop_succ_cons, List.drop_zero]
                      have x1 := fun q => hF.cell (heap_lt y9) (cell_of_heap (i := 1) (v := .slice ad3 j cp3) y9 rfl) q
                      have x2 := fun q => hF.cell (heap_lt y13) (cell_of_heap (i := 0) (v := .slice X (i * 2) (i * 2)) y13 rfl) q
                      repeat (go_big_quiet_step ((go_at_call 58; with_reducible exact hF.call (HVV.out _ (hF.on HBJ.out _)))))
                      refine wpQuiet_nil ?_
                      rfl
                    · rintro v x x' ⟨g, h1, h2, h3⟩ hx hx'
                      exact ⟨g, h1, h2, (hx'.block g (heap_lt h3)).trans h3⟩
                    · simp only [Pl.selN, List.drop_succ_cons, List.drop_zero, List.mem_singleton, forall_eq]
                      intro u' hu
                      go_simp
                      simp only [Pl.valsAt]
                      exact ⟨(Below.refl _ _).alloc (Nat.le_refl _) _, _, rfl, hu.size, Bas.heap_new _ _⟩
                    intro v u6 hu hv
                    obtain ⟨g, rfl, hg, hgc⟩ := hv
                    simp only [Pl.selN, List.drop_succ_cons, List.drop_zero, Act.put, List.setIfInBounds_toArray, List.set_cons_zero, List.set_cons_succ]
                    have u1 := (hu.block _ (heap_lt y1)).trans y1
                    have u2 := (hu.block _ (heap_lt y2)).trans y2
                    have u8 := (hu.block _ (heap_lt y8)).trans y8
                    have u13 := (hu.block _ (heap_lt y13)).trans y13
                    have u9 := (hu.block _ (heap_lt y9)).trans y9
                    have HSu := Bas.hid (Row.owned_below HSJ.out hu)
                    have HVu := Bas.hid (Row.owned_below HVJ.out hu)
                    have HBu := Bas.hid (HBJ.out.trans (hu.mono HBJ.out.size))
                    have hv1 := own_ty HVu.out u1 (by decide)
                    have hv2 := own_ty HVu.out u2 (by decide)
                    have hv8 := own_ty HVu.out u8 (by decide)
                    have hv13 := own_ty HVu.out u13 (by decide)
                    have hv9 := own_ty HVu.out u9 (by decide)
                    clear y1 y2 y8 y13 y9 hu HSJ HVJ HBJ
                    refine (Row.append_at rfl _ _ 36 3 rfl (.int .i64 0) 1 8 Try.underlying36 infoI0 rfl (by decide) w.heap.size (.slice ad3 j cp3) j _ rfl HVu.out (.slice (some ⟨g, 0, none⟩) 1 1) 1 [.int .i64 x] rfl (leads_heap hgc) rfl (by simp; rfl) (by unfold maxLen; omega) (by omega) HBu.out.size ?_)
                    intro v' w9 hown9 hg9 _ hat9
                    rw [← List.map_singleton (f := Value.int .i64), ← List.map_append, ← HVL.out] at hown9
                    have s1 := (hg9.block _ (heap_lt u1) (fun e => hv1 e.symm)).trans u1
                    have s2 := (hg9.block _ (heap_lt u2) (fun e => hv2 e.symm)).trans u2
                    have s8 := (hg9.block _ (heap_lt u8) (fun e => hv8 e.symm)).trans u8
                    have s13 := (hg9.block _ (heap_lt u13) (fun e => hv13 e.symm)).trans u13
                    have s9 := (hg9.block _ (heap_lt u9) (fun e => hv9 e.symm)).trans u9
                    have HB8 := Bas.hid (HBu.out.grown hg9 HBu.out.size (fun g' hg' => (Row.own_block HVu.out hg').1))
                    have HS8 := Bas.hid (Row.owned_keep HSu.out fun g' hg' => hg9.block g' (Row.own_block HSu.out hg').2 (fun e => HAJ.out g' hg' e.symm))
                    have HA8 := Bas.hid (fun g' (hg' : Value.ownBlock (.slice ad1 i cp1) = some g') (e : v'.ownBlock = some g') => (by
                      rcases hat9 with h | h
                      · exact HAJ.out g' hg' (h ▸ e)
                      · rw [h] at e; cases e
                        exact Nat.lt_irrefl _ (Row.own_block HSu.out hg').2 : False))
                    obtain ⟨ad9, cp9, rfl⟩ := own_slice hown9
                    have HV8 := Bas.hid hown9
                    have zc := cell_of_heap (i := 1) (v := .slice ad3 j cp3) s9 rfl
                    have zf := free_of_heap (i := 1) s9
                    clear hown9 hg9 hat9 u1 u2 u8 u13 u9 hgc HSu HVu HBu HAJ hv1 hv2 hv8 hv13 hv9
                    go_wp2_with (fail)
                    have lt13 : T13 ≠ T8 + 1 := fun e => by rw [e] at s13; rw [s13] at s9; simp at s9
                    have z1 := (Below.heap_setCell w9 ⟨T8 + 1, 1, none⟩ (.slice ad9 (j + 1) cp9) w.heap.size (by show w.heap.size ≠ T8 + 1; omega)).trans s1
                    have z2 := (Below.heap_setCell w9 ⟨T8 + 1, 1, none⟩ (.slice ad9 (j + 1) cp9) (w.heap.size + 1) (by show w.heap.size + 1 ≠ T8 + 1; omega)).trans s2
                    have z8 := (Below.heap_setCell w9 ⟨T8 + 1, 1, none⟩ (.slice ad9 (j + 1) cp9) T8 (by show T8 ≠ T8 + 1; omega)).trans s8
                    have z13 := (Below.heap_setCell w9 ⟨T8 + 1, 1, none⟩ (.slice ad9 (j + 1) cp9) T13 lt13).trans s13
                    have z9 : (w9.setCell ⟨T8 + 1, 1, none⟩ (.slice ad9 (j + 1) cp9)).heap[T8 + 1]? = some (.cells #[.slice ad1 i cp1, .slice ad9 (j + 1) cp9] 52 (0, 0)) := heap_set (i := 1) s9 (.slice ad9 (j + 1) cp9)
                    have HV9 := Bas.hid (Row.owned_keep HV8.out (w' := w9.setCell ⟨T8 + 1, 1, none⟩ (.slice ad9 (j + 1) cp9)) fun g' hg' => Below.heap_setCell _ _ _ _ (fun e => own_ty HV8.out s9 (by decide) (by rw [hg', e])))
                    have HS9 := Bas.hid (Row.owned_keep HS8.out (w' := w9.setCell ⟨T8 + 1, 1, none⟩ (.slice ad9 (j + 1) cp9)) fun g' hg' => Below.heap_setCell _ _ _ _ (fun e => own_ty HS8.out s9 (by decide) (by rw [hg', e])))
                    have HB9 := Bas.hid (HB8.out.setCell (p := ⟨T8 + 1, 1, none⟩) (by show w.heap.size ≤ T8 + 1; omega) (.slice ad9 (j + 1) cp9))
                    generalize w9.setCell ⟨T8 + 1, 1, none⟩ (.slice ad9 (j + 1) cp9) = W10 at *
                    go_roundw
                    case rel => exact ⟨j + 1, _, by omega, by go_num, HS9.out, HV9.out, HA8.out, HB9.out, z1, z2, z8, z13, z9⟩
                    case measure => simp [intOf]; omega
                  · have hji2 : j = i := by omega
                    subst hji2
                    have HVE : Hid (wr.ownsRow w.heap.size 3 1 (.slice ad3 j cp3) ((some (valsL bs off j)).getD []).length (((some (valsL bs off j)).getD []).map (Value.int .i64))) := by
                      unfold Hid
                      rw [Option.getD_some, valsL_len]
                      exact HVJ.out
                    have HLE : Hid (∀ vl, some (valsL bs off j) = some vl → vl.length = j) := fun vl h => by cases h; exact valsL_len _ _ _
                    clear hb
                    go_wp2_with (fail)
                    go_roundw
                    case rel => exact ⟨k + 1, some (valsL bs off j), _, by omega, by go_num, rfl, by rw [HRD.out, HST3.out]; rfl, HLE.out, HSJ.out, HVE.out, HAJ.out, HBJ.out, y1, y2, y8, y9⟩
                    case measure => simp [intOf]; omega
              · have hkd2 : (kind == 0) = false := by simpa using hkd
                have HST3 := Bas.hid (HST2.out.trans (by rw [nextF_no hkd] : _ = rowsD bs at' i (n - (k + 1)) (k + 1) none))
                clear HST2 hkd
                go_wp2_with (fail)
                go_roundw
                case rel => exact ⟨k + 1, none, v2, by omega, by go_num, rfl, by rw [HRD.out, HST3.out], HFL.out, HS5.out, HV5.out, HAP.out, HB5.out, x1, x2, x8, x9⟩
                case measure => simp [intOf]; omega
          · have hrn : ¬ rowsB len off i 2 := fun h => hfit (by have := h.2.2.2.2; omega)
            have HNO : Hid (dataAt bs at' = none) := by unfold Hid; rw [HDA2.out, HRD.out, HSTEP.out, if_neg hfit]; rfl
            refine' Pl.region_vh 107 [] [0, 1, 2, 3, 4, 5, 6] [(8, 13)] 7 79 [9] _ (fun ch w' => ch = short ∧ Below w.heap.size w w') (by kernel_rfl) (by kernel_rfl) (by kernel_rfl) (by simp) (fun _ _ _ _ e h => ⟨e ▸ h.1, h.2⟩) ?_ ?_ ?_ ?_
            rotate_left
            · intro I F hI hF
              simp only [Pl.selN, List.nil_append, List.drop_succ_cons, List.drop_zero]
              have x1 := fun q => hF.cell (heap_lt p1) (cell_of_heap (i := 0) (v := .slice a len cap) p1 rfl) q
              have x2 := fun q => hF.cell (heap_lt p8) (cell_of_heap (i := 0) (v := .slice R (n * 8) (n * 8)) p8 rfl) q
              repeat (go_big_quiet_step ((go_at_call 47; with_reducible exact hF.call (HVV.out _ (hF.on HBL.out _)))))
              refine wpQuiet_nil ?_
              rfl
            · simp only [Pl.selN, List.drop_succ_cons, List.drop_zero, List.mem_singleton, forall_eq]
              intro u' hu
              go_simp
              simp only [Pl.valsAt]
              have hbu := HBL.out.trans (hu.mono HBL.out.size)
              refine (rows_no a len cap _ _ _ u' hl hc hrn).mono ?_
              rintro e w'' ⟨he, hb⟩
              exact .inr ⟨short, he, rfl, hbu.trans (hb.mono hbu.size)⟩
            · intro x hx
              simp only [List.mem_singleton] at hx
              subst hx
              simp only [Pl.selN, List.drop_succ_cons, List.drop_zero, List.mem_singleton, forall_eq]
              intro u' hu
              go_simp
              simp only [Pl.valsAt]
              exact (Below.refl _ _).alloc (Nat.le_refl _) _
            · rintro c a' u' hd ⟨rfl, hb⟩
              exact ⟨hd, hb, by rw [HNO.out]⟩
        · have hdone : dataAt bs at' = some (trackOf (sizesL bs f i) fd) := by
            rw [HDA2.out, HRD.out, show n - k = 0 by omega, rowsD]; rfl
          have HD := Bas.hid hdone
          obtain ⟨ad2, cp2, rfl⟩ := own_slice HV1.out
          have c90 := cell_of_heap (i := 0) (v := .slice ad1 i cp1) p9 rfl
          have c91 := cell_of_heap (i := 1) (v := .slice ad2 (fd.getD []).length cp2) p9 rfl
          have c20 := cell_of_heap (i := 0) (v := .slice none 0 0) p2 rfl
          have c21 := cell_of_heap (i := 1) (v := .slice none 0 0) p2 rfl
          have f20 := free_of_heap (i := 0) p2
          have f21 := free_of_heap (i := 1) p2
          clear hdone hb
          cases fd with
          | none =>
            go_wp2_with (fail)
            refine bodyPost_ret (v := .agg #[.slice none 0 0, .slice none 0 0]) (by simp [results, Try.results49, go_sem, c20, c21]) rfl ⟨(HBL.out.setCell (p := ⟨w.heap.size + 1, 0, none⟩) (Nat.le_succ _) _).setCell (p := ⟨w.heap.size + 1, 1, none⟩) (Nat.le_succ _) _, ?_⟩
            rw [HD.out]
            exact ⟨_, _, rfl, Row.owned_nil _ _ _ _, Row.owned_nil _ _ _ _⟩
          | some vl =>
            have hkeep : ∀ (x y : Value) g', g' ≠ w.heap.size + 1 → ((wr.setCell ⟨w.heap.size + 1, 0, none⟩ x).setCell ⟨w.heap.size + 1, 1, none⟩ y).heap[g']? = wr.heap[g']? := fun x y g' h => (Below.heap_setCell _ _ _ _ h).trans (Below.heap_setCell _ _ _ _ h)
            have HKP := Bas.hid hkeep
            have hs2 := own_ty HS1.out p2 (by decide)
            have hv2 := own_ty HV1.out p2 (by decide)
            have HLL := Bas.hid (HFL.out vl rfl)
            simp only [Option.getD_some] at c91 hv2 HV1
            clear hkeep
            go_wp2_with (fail)
            refine bodyPost_ret (v := .agg #[.slice ad1 i cp1, .slice ad2 vl.length cp2]) (by simp [results, Try.results49, go_sem, c20, c21]) rfl ⟨(HBL.out.setCell (p := ⟨w.heap.size + 1, 0, none⟩) (Nat.le_succ _) _).setCell (p := ⟨w.heap.size + 1, 1, none⟩) (Nat.le_succ _) _, ?_⟩
            rw [HD.out]
            refine ⟨_, _, rfl, ?_, ?_⟩
            · show World.ownsRow _ _ _ _ _ (sizesL bs f i).length ((sizesL bs f i).map _)
              rw [sizesL_len]
              exact Row.owned_keep HS1.out fun g' hg' => HKP.out _ _ g' (fun e => hs2 (by rw [hg', e]))
            · exact Row.owned_keep HV1.out fun g' hg' => HKP.out _ _ g' (fun e => hv2 (by rw [hg', e]))
end Tk
end Go.Proofs.Ytfocjagkhoonmaa
