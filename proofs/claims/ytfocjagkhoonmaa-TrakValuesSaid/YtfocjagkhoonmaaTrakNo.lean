/- Layer 27 (trak): data, where there is none; data. -/
import Derived.Test.YtfocjagkhoonmaaTrakData
namespace Go.Proofs.Ytfocjagkhoonmaa
open Go.RowKit
namespace Tk
open Vw

set_option maxRecDepth 100000 in
set_option maxHeartbeats 4000000 in
theorem data_no (a : Option Addr) (len cap : Nat) (bs : List Int) (at' : Nat) (w : World) (hl : len ≤ cap) (hc : cap ≤ maxLen) (hv : VB w a bs) (hbl : bs.length = len) (hsmall : len ≤ 1000000000)
    (hat0 : at' ≠ 0) (hat1 : at' ≤ 65535) (hno : ¬ (at' + 8 ≤ len ∧ (be bs (at' + 4) 4).toNat + 4 * (be bs (at' + 2) 2).toNat ≤ len ∧ at' + 8 + 8 * (be bs at' 2).toNat ≤ len)) :
    Calls Try.prog 49 #[.agg #[.slice a len cap], .int .i64 at'] w (DataPost w bs at') := by
  have HNO : Hid (dataAt bs at' = none) := by
    unfold Hid dataAt
    rw [if_neg hat0, hbl, if_neg (fun h => hno ⟨h.1, h.2.1, h.2.2.1⟩)]
  have hz : ((at' : Int) == 0) = false := by simp; omega
  have hal := ((Below.refl w.heap.size w).alloc (Nat.le_refl _) (.cells #[.slice a len cap] 58)).alloc (by simp) (.cells #[.slice none 0 0, .slice none 0 0] 52)
  have k1 : ((w.alloc (.cells #[.slice a len cap] 58)).alloc (.cells #[.slice none 0 0, .slice none 0 0] 52)).heap[w.heap.size]? = some (.cells #[.slice a len cap] 58 (0, 0)) := by
    rw [Below.heap_alloc _ _ _ (by simp)]; exact Bas.heap_new _ _
  have HAL := Bas.hid hal
  have a2 : ((at' : Int) + 2).toNat = at' + 2 := by omega
  have a4 : ((at' : Int) + 4).toNat = at' + 4 := by omega
  have a8 : ((at' : Int) + 8).toNat = at' + 8 := by omega
  by_cases hA : at' + 2 ≤ len
  · have U0 := fun (w' : World) (hb : Below w.heap.size w w') => u16_ok a len cap bs at' w' hl hc (hv.below hb) hbl (by omega) (by omega)
    have hnb := be2_bd bs hv.byte at' (by omega)
    obtain ⟨n, hn⟩ : ∃ n : Nat, be bs at' 2 = n := ⟨(be bs at' 2).toNat, by omega⟩
    simp only [Int.toNat_natCast] at U0
    rw [hn] at U0 hnb hno
    have HU0 := Bas.hid U0
    clear U0
    by_cases hB : at' + 4 ≤ len
    · have U2 := fun (w' : World) (hb : Below w.heap.size w w') => u16_ok a len cap bs ((at' : Int) + 2) w' hl hc (hv.below hb) hbl (by omega) (by omega)
      have hmb := be2_bd bs hv.byte (at' + 2) (by omega)
      obtain ⟨many, hm⟩ : ∃ n : Nat, be bs (at' + 2) 2 = n := ⟨(be bs (at' + 2) 2).toNat, by omega⟩
      simp only [a2] at U2
      rw [hm] at U2 hmb hno
      have HU2 := Bas.hid U2
      clear U2
      by_cases hC : at' + 8 ≤ len
      · have U4 := fun (w' : World) (hb : Below w.heap.size w w') => u32_ok a len cap bs ((at' : Int) + 4) w' hl hc (hv.below hb) hbl (by omega) (by omega)
        have hfb := be4_bd bs hv.byte (at' + 4) (by omega)
        obtain ⟨f, hf⟩ : ∃ n : Nat, be bs (at' + 4) 4 = n := ⟨(be bs (at' + 4) 4).toNat, by omega⟩
        simp only [a4] at U4
        rw [hf] at U4 hfb hno
        have HU4 := Bas.hid U4
        have HN := Bas.hid hno
        clear U4 a2 a4 hal hno hn hm hf hv
        go_enter Try.func49, Try.ntmps49
        go_wp2_with (fail)
        generalize (w.alloc (.cells #[.slice a len cap] 58)).alloc (.cells #[.slice none 0 0, .slice none 0 0] 52) = W at *
        refine' Pl.region_v0 107 [] [0, 1, 2, 3, 4, 5, 6, 7, 8] [] _ (by kernel_rfl) (by kernel_rfl) (by simp) (fun _ _ _ _ e h => ⟨e ▸ h.1, h.2⟩) ?_ ?_
        rotate_left
        · intro I F hI hF
          simp only [Pl.selN, List.nil_append, List.drop_succ_cons, List.drop_zero]
          have x1 := fun i => hF.cell (heap_lt k1) (cell_of_heap (i := 0) (v := .slice a len cap) k1 rfl) i
          repeat (go_big_quiet_step ((go_at_call 47; first | with_reducible exact hF.call (HU0.out _ (hF.on HAL.out _)) | with_reducible exact hF.call (HU2.out _ (hF.on HAL.out _)))))
          refine wpQuiet_nil ?_
          rfl
        intro u hu
        simp only [Pl.selN]
        have j1 := (hu.block _ (heap_lt k1)).trans k1
        have HB3 := Bas.hid (HAL.out.trans (hu.mono HAL.out.size))
        clear hu k1 HAL HU0 HU2
        have k1 := j1
        clear j1
        go_wp2_with (fail)
        by_cases hD : f + 4 * many ≤ len
        · have hrB : rowsB len f many 4 := ⟨by omega, by omega, .inr (by omega), by omega, by omega⟩
          have R1 := fun w' => rows_ok a len cap f many 4 w' hl hc hrB
          have hrn : ¬ rowsB len ((at' : Int) + 8) n 8 := fun h => HN.out ⟨hC, by simpa using hD, by have := h.2.2.2.2; simp only [Int.toNat_natCast]; omega⟩
          have HR1 := Bas.hid R1
          clear R1
          refine' Pl.region_v1 107 [] [0, 1, 2, 3, 4, 5, 6] 7 7 [8] _ (fun v u' => ∃ g, v = .pointer (some ⟨g, 0, none⟩) ∧ u.heap.size ≤ g ∧ u'.heap[g]? = some (.cells #[.slice none 0 0] 58 (0, 0))) (by kernel_rfl) (by kernel_rfl) (by simp) (fun _ _ _ _ e h => ⟨e ▸ h.1, h.2⟩) ?_ ?_ ?_ ?_
          rotate_left
          · intro I F hI hF
            simp only [Pl.selN, List.nil_append, List.drop_succ_cons, List.drop_zero]
            have x1 := fun i => hF.cell (heap_lt k1) (cell_of_heap (i := 0) (v := .slice a len cap) k1 rfl) i
            repeat (go_big_quiet_step ((first | (go_at_call 46; with_reducible exact hF.call (HU4.out _ (hF.on HB3.out _))) | (go_at_call 77; with_reducible exact hF.call (HR1.out _)))))
            refine wpQuiet_nil ?_
            rfl
          · rintro v x x' ⟨g, h1, h2, h3⟩ hx hx'
            exact ⟨g, h1, h2, (hx'.block g (heap_lt h3)).trans h3⟩
          · simp only [Pl.selN, List.drop_succ_cons, List.drop_zero, List.mem_singleton, forall_eq]
            intro u' hu
            go_simp
            simp only [Pl.valsAt]
            exact ⟨(Below.refl _ _).alloc (Nat.le_refl _) _, _, rfl, hu.size, Bas.heap_new _ _⟩
          intro v u2 hu hv
          obtain ⟨T7, rfl, hT7, q7⟩ := hv
          simp only [Pl.selN, List.drop_succ_cons, List.drop_zero, Act.put, List.setIfInBounds_toArray, List.set_cons_zero, List.set_cons_succ]
          have j1 := (hu.block _ (heap_lt k1)).trans k1
          have HB4 := Bas.hid (HB3.out.trans (hu.mono HB3.out.size))
          have h27 : w.heap.size < T7 := Nat.lt_of_lt_of_le (heap_lt k1) hT7
          have c7 := cell_of_heap (i := 0) (v := .slice none 0 0) q7 rfl
          have f7 := free_of_heap (i := 0) q7
          have c1 := cell_of_heap (i := 0) (v := .slice a len cap) j1 rfl
          clear hu k1 HB3 HU4 HR1
          go_wp2_with (fail)
          have HB5 := Bas.hid (HB4.out.setCell (p := ⟨T7, 0, none⟩) (by show w.heap.size ≤ T7; omega) (.slice (sub a ((f : Int)).toNat ((many : Int) * 4).toNat) ((many : Int) * 4).toNat ((many : Int) * 4).toNat))
          refine (rows_no a len cap ((at' : Int) + 8) n 8 _ hl hc hrn).mono ?_
          rintro e W6 ⟨rfl, hb6⟩
          have POST := Bas.hid (HB5.out.trans (hb6.mono HB5.out.size))
          clear hb6 HB4 HB5
          go_wp2_with (fail)
          exact ⟨rfl, POST.out, by rw [HNO.out]⟩
        · have hrn : ¬ rowsB len f many 4 := fun h => hD (by have := h.2.2.2.2; omega)
          refine' Pl.region_vh 107 [] [0, 1, 2, 3, 4, 5] [(7, 7)] 6 31 [8] _ (fun ch w' => ch = short ∧ Below w.heap.size w w') (by kernel_rfl) (by kernel_rfl) (by kernel_rfl) (by simp) (fun _ _ _ _ e h => ⟨e ▸ h.1, h.2⟩) ?_ ?_ ?_ ?_
          rotate_left
          · intro I F hI hF
            simp only [Pl.selN, List.nil_append, List.drop_succ_cons, List.drop_zero]
            have x1 := fun i => hF.cell (heap_lt k1) (cell_of_heap (i := 0) (v := .slice a len cap) k1 rfl) i
            repeat (go_big_quiet_step ((go_at_call 46; with_reducible exact hF.call (HU4.out _ (hF.on HB3.out _)))))
            refine wpQuiet_nil ?_
            rfl
          · simp only [Pl.selN, List.drop_succ_cons, List.drop_zero, List.mem_singleton, forall_eq]
            intro u' hu
            go_simp
            simp only [Pl.valsAt]
            have hbu := HB3.out.trans (hu.mono HB3.out.size)
            refine (rows_no a len cap f many 4 u' hl hc hrn).mono ?_
            rintro e w'' ⟨he, hb⟩
            exact .inr ⟨short, he, rfl, hbu.trans (hb.mono hbu.size)⟩
          · intro x hx
            simp only [List.mem_singleton] at hx
            subst hx
            simp only [Pl.selN, List.drop_succ_cons, List.drop_zero, List.mem_singleton, forall_eq]
            intro u' hu
            go_simp
            simp only [Pl.valsAt]
            exact (Below.refl _ _).alloc (Nat.le_refl _) _
          · rintro c a' u' hd ⟨rfl, hb⟩
            exact ⟨hd, hb, by rw [HNO.out]⟩
      · have hu4 : ¬ (0 ≤ (at' : Int) + 4 ∧ (at' : Int) + 4 + 4 ≤ len) := by omega
        clear a2 a4 hal hno hn hm hv
        go_enter Try.func49, Try.ntmps49
        go_wp2_with (fail)
        generalize (w.alloc (.cells #[.slice a len cap] 58)).alloc (.cells #[.slice none 0 0, .slice none 0 0] 52) = W at *
        refine' Pl.region_v0 107 [] [0, 1, 2, 3, 4, 5, 6, 7, 8] [] _ (by kernel_rfl) (by kernel_rfl) (by simp) (fun _ _ _ _ e h => ⟨e ▸ h.1, h.2⟩) ?_ ?_
        rotate_left
        · intro I F hI hF
          simp only [Pl.selN, List.nil_append, List.drop_succ_cons, List.drop_zero]
          have x1 := fun i => hF.cell (heap_lt k1) (cell_of_heap (i := 0) (v := .slice a len cap) k1 rfl) i
          repeat (go_big_quiet_step ((go_at_call 47; first | with_reducible exact hF.call (HU0.out _ (hF.on HAL.out _)) | with_reducible exact hF.call (HU2.out _ (hF.on HAL.out _)))))
          refine wpQuiet_nil ?_
          rfl
        intro u hu
        simp only [Pl.selN]
        have j1 := (hu.block _ (heap_lt k1)).trans k1
        have HB3 := Bas.hid (HAL.out.trans (hu.mono HAL.out.size))
        clear hu k1 HAL HU0 HU2
        have k1 := j1
        clear j1
        go_wp2_with (fail)
        refine' Pl.region_vh 107 [] [0, 1, 2, 3, 5] [(7, 7)] 4 29 [6, 8] _ (fun ch w' => ch = short ∧ Below w.heap.size w w') (by kernel_rfl) (by kernel_rfl) (by kernel_rfl) (by simp) (fun _ _ _ _ e h => ⟨e ▸ h.1, h.2⟩) ?_ ?_ ?_ ?_
        rotate_left
        · intro I F hI hF
          simp only [Pl.selN, List.nil_append, List.drop_succ_cons, List.drop_zero]
          have x1 := fun i => hF.cell (heap_lt k1) (cell_of_heap (i := 0) (v := .slice a len cap) k1 rfl) i
          repeat (go_big_quiet_step (fail))
          refine wpQuiet_nil ?_
          rfl
        · simp only [Pl.selN, List.drop_succ_cons, List.drop_zero, List.mem_singleton, forall_eq]
          intro u' hu
          go_simp
          simp only [Pl.valsAt]
          have hbu := HB3.out.trans (hu.mono HB3.out.size)
          refine (u32_no a len cap ((at' : Int) + 4) u' hl hc hu4).mono ?_
          rintro e w'' ⟨he, hb⟩
          exact .inr ⟨short, he, rfl, hbu.trans (hb.mono hbu.size)⟩
        · intro x hx
          simp only [List.mem_singleton] at hx
          subst hx
          simp only [Pl.selN, List.drop_succ_cons, List.drop_zero, List.mem_singleton, forall_eq]
          intro u' hu
          go_simp
          simp only [Pl.valsAt]
          exact (Below.refl _ _).alloc (Nat.le_refl _) _
        · rintro c a' u' hd ⟨rfl, hb⟩
          exact ⟨hd, hb, by rw [HNO.out]⟩
    · have hu2 : ¬ (0 ≤ (at' : Int) + 2 ∧ (at' : Int) + 2 + 2 ≤ len) := by omega
      clear a2 a4 hal hno hn hv
      go_enter Try.func49, Try.ntmps49
      go_wp2_with (fail)
      generalize (w.alloc (.cells #[.slice a len cap] 58)).alloc (.cells #[.slice none 0 0, .slice none 0 0] 52) = W at *
      refine' Pl.region_vh 107 [] [0, 1, 2, 3, 4, 5] [] 6 24 [7, 8] _ (fun ch w' => ch = short ∧ Below w.heap.size w w') (by kernel_rfl) (by kernel_rfl) (by kernel_rfl) (by simp) (fun _ _ _ _ e h => ⟨e ▸ h.1, h.2⟩) ?_ ?_ ?_ ?_
      rotate_left
      · intro I F hI hF
        simp only [Pl.selN, List.nil_append, List.drop_succ_cons, List.drop_zero]
        have x1 := fun i => hF.cell (heap_lt k1) (cell_of_heap (i := 0) (v := .slice a len cap) k1 rfl) i
        repeat (go_big_quiet_step ((go_at_call 47; first | with_reducible exact hF.call (HU0.out _ (hF.on HAL.out _)) | with_reducible exact hF.call (HU0.out _ (hF.on HAL.out _)))))
        refine wpQuiet_nil ?_
        rfl
      · simp only [Pl.selN, List.drop_succ_cons, List.drop_zero, List.mem_singleton, forall_eq]
        intro u' hu
        go_simp
        simp only [Pl.valsAt]
        have hbu := HAL.out.trans (hu.mono HAL.out.size)
        refine (u16_no a len cap ((at' : Int) + 2) u' hl hc hu2).mono ?_
        rintro e w'' ⟨he, hb⟩
        exact .inr ⟨short, he, rfl, hbu.trans (hb.mono hbu.size)⟩
      · intro x hx
        cases hx
      · rintro c a' u' hd ⟨rfl, hb⟩
        exact ⟨hd, hb, by rw [HNO.out]⟩
  · have hu0 : ¬ (0 ≤ (at' : Int) ∧ (at' : Int) + 2 ≤ len) := by omega
    clear a2 a4 hal hno hv
    go_enter Try.func49, Try.ntmps49
    go_wp2_with (fail)
    generalize (w.alloc (.cells #[.slice a len cap] 58)).alloc (.cells #[.slice none 0 0, .slice none 0 0] 52) = W at *
    refine' Pl.region_vh 107 [] [0, 1, 3, 4, 5] [] 2 20 [6, 7, 8] _ (fun ch w' => ch = short ∧ Below w.heap.size w w') (by kernel_rfl) (by kernel_rfl) (by kernel_rfl) (by simp) (fun _ _ _ _ e h => ⟨e ▸ h.1, h.2⟩) ?_ ?_ ?_ ?_
    rotate_left
    · intro I F hI hF
      simp only [Pl.selN, List.nil_append, List.drop_succ_cons, List.drop_zero]
      have x1 := fun i => hF.cell (heap_lt k1) (cell_of_heap (i := 0) (v := .slice a len cap) k1 rfl) i
      repeat (go_big_quiet_step (fail))
      refine wpQuiet_nil ?_
      rfl
    · simp only [Pl.selN, List.drop_succ_cons, List.drop_zero, List.mem_singleton, forall_eq]
      intro u' hu
      go_simp
      simp only [Pl.valsAt]
      have hbu := HAL.out.trans (hu.mono HAL.out.size)
      refine (u16_no a len cap (at' : Int) u' hl hc hu0).mono ?_
      rintro e w'' ⟨he, hb⟩
      exact .inr ⟨short, he, rfl, hbu.trans (hb.mono hbu.size)⟩
    · intro x hx
      cases hx
    · rintro c a' u' hd ⟨rfl, hb⟩
      exact ⟨hd, hb, by rw [HNO.out]⟩
theorem data_any (a : Option Addr) (len cap : Nat) (bs : List Int) (at' : Nat) (w : World) (hl : len ≤ cap) (hc : cap ≤ maxLen) (hv : VB w a bs) (hbl : bs.length = len) (hsmall : len ≤ 1000000000) (hat1 : at' ≤ 65535) :
    Calls Try.prog 49 #[.agg #[.slice a len cap], .int .i64 at'] w (DataPost w bs at') := by
  by_cases h0 : at' = 0
  · subst h0
    exact data_zero a len cap bs w
  · by_cases h : at' + 8 ≤ len ∧ (be bs (at' + 4) 4).toNat + 4 * (be bs (at' + 2) 2).toNat ≤ len ∧ at' + 8 + 8 * (be bs at' 2).toNat ≤ len
    · have hnb := be2_bd bs hv.byte at' (by omega)
      have hmb := be2_bd bs hv.byte (at' + 2) (by omega)
      have hfb := be4_bd bs hv.byte (at' + 4) (by omega)
      exact data_main a len cap bs at' (be bs at' 2).toNat (be bs (at' + 2) 2).toNat (be bs (at' + 4) 4).toNat w hl hc hv hbl hsmall h0 h.1 (by omega) (by omega) (by omega) h.2.1 h.2.2
    · exact data_no a len cap bs at' w hl hc hv hbl hsmall h0 hat1 h
end Tk
end Go.Proofs.Ytfocjagkhoonmaa
