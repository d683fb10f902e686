/- Layer 19 (chain): one, whatever bytes it has. -/
import Derived.Test.YtgddghplhdmfdaaChainOne
namespace Go.Proofs.Ytgddghplhdmfdaa
open Go.RowKit
namespace Ch
open Vw

set_option maxRecDepth 100000 in
set_option maxHeartbeats 4000000 in
theorem one_short (a : Option Addr) (len cap : Nat) (bs : List Int) (w : World) (hl : len ≤ cap) (hc : cap ≤ maxLen) (hv : VB w a bs) (hbl : bs.length = len) (hsmall : len ≤ 1000000000) (h16 : len < 16) :
    Calls Try.prog 47 #[.agg #[.slice a len cap]] w (OnePost w a bs) := by
  have hnone : parseOne bs = none := by unfold parseOne; rw [if_neg (by omega)]
  have POST : Hid (∀ w', Below w.heap.size w w' → OnePost w a bs (.panicked short) w') := fun w' hb => ⟨hb, by rw [hnone]⟩
  have HV := Bas.hid hv
  clear hnone hv
  have hal := ((Below.refl w.heap.size w).alloc (Nat.le_refl _) (.cells #[.slice a len cap] 54)).alloc (by simp) (.cells #[.int .u32 0, .slice none 0 0, .slice none 0 0] 46)
  have HAL := Bas.hid hal
  clear hal
  by_cases h4 : 4 ≤ len
  · have hb0 := be4_bd bs HV.out.byte 0 (by omega)
    have U1 := fun (w' : World) (hb : Below w.heap.size w w') => u32_ok a len cap bs 0 w' hl hc (HV.out.below hb) hbl (by omega) (by omega)
    simp only [show Int.toNat 0 = 0 from rfl] at U1
    have HU1 := Bas.hid U1
    generalize be bs 0 4 = first at *
    obtain ⟨hf0, hf1⟩ := hb0
    clear U1
    go_enter Try.func47, Try.ntmps47
    go_wp2_with (fail)
    refine (HU1.out _ HAL.out).mono ?_
    rintro e w1 ⟨rfl, hb1⟩
    have HB1 := Bas.hid (Bas.on HAL.out hb1)
    have k1 : w1.heap[w.heap.size]? = some (.cells #[.slice a len cap] 54 (0, 0)) := by
      rw [hb1.block _ (by simp; omega)]
      rw [Below.heap_alloc _ _ _ (by simp)]
      exact Bas.heap_new _ _
    clear hb1
    go_wp2_with (fail)
    have k1' := (Below.heap_alloc w1 (.cells #[.int .u32 first, .slice none 0 0, .slice none 0 0] 46) _ (heap_lt k1)).trans k1
    have HB2 := Bas.hid (HB1.out.alloc HB1.out.size (.cells #[.int .u32 first, .slice none 0 0, .slice none 0 0] 46))
    generalize w1.alloc (.cells #[.int .u32 first, .slice none 0 0, .slice none 0 0] 46) = W2 at *
    clear k1 HB1 HU1
    by_cases h12 : 12 ≤ len
    · have U2 := fun (w' : World) (hb : Below w.heap.size w w') => u32_ok a len cap bs 8 w' hl hc (HV.out.below hb) hbl (by omega) (by omega)
      have HU2 := Bas.hid U2
      clear U2
      refine' Pl.region_vh 83 [] [0, 1, 2] [] 3 19 [4, 5] _ (fun ch w' => ch = short ∧ Below w.heap.size w w') (by kernel_rfl) (by kernel_rfl) (by kernel_rfl) (by simp) (fun _ _ _ _ e h => ⟨e ▸ h.1, h.2⟩) ?_ ?_ ?_ ?_
      rotate_left
      · intro I F hI hF
        simp only [Pl.selN, List.nil_append, List.drop_succ_cons, List.drop_zero]
        have x1 := fun i => hF.cell (heap_lt k1') (cell_of_heap (i := 0) k1' rfl) i
        repeat (go_big_quiet_step ((go_at_call 45; with_reducible exact hF.call (HU2.out _ (hF.on HB2.out _)))))
        refine wpQuiet_nil ?_
        rfl
      · simp only [Pl.selN, List.drop_succ_cons, List.drop_zero, List.mem_singleton, forall_eq]
        intro u hu
        go_simp
        simp only [Pl.valsAt]
        refine (u32_no a len cap _ u hl hc (by omega)).mono ?_
        rintro e w'' ⟨he, hb⟩
        exact .inr ⟨short, he, rfl, HB2.out.trans ((hu.trans (hb.mono hu.size)).mono HB2.out.size)⟩
      · intro x hx; cases hx
      · rintro c a' u hd ⟨rfl, hb⟩
        exact ⟨hd, POST.out _ hb⟩
    · refine' Pl.region_vh 83 [] [0, 2] [] 1 17 [3, 4, 5] _ (fun ch w' => ch = short ∧ Below w.heap.size w w') (by kernel_rfl) (by kernel_rfl) (by kernel_rfl) (by simp) (fun _ _ _ _ e h => ⟨e ▸ h.1, h.2⟩) ?_ ?_ ?_ ?_
      rotate_left
      · intro I F hI hF
        simp only [Pl.selN, List.nil_append, List.drop_succ_cons, List.drop_zero]
        have x1 := fun i => hF.cell (heap_lt k1') (cell_of_heap (i := 0) k1' rfl) i
        repeat (go_big_quiet_step (fail))
        refine wpQuiet_nil ?_
        rfl
      · simp only [Pl.selN, List.drop_succ_cons, List.drop_zero, List.mem_singleton, forall_eq]
        intro u hu
        go_simp
        simp only [Pl.valsAt]
        refine (u32_no a len cap _ u hl hc (by omega)).mono ?_
        rintro e w'' ⟨he, hb⟩
        exact .inr ⟨short, he, rfl, HB2.out.trans ((hu.trans (hb.mono hu.size)).mono HB2.out.size)⟩
      · intro x hx; cases hx
      · rintro c a' u hd ⟨rfl, hb⟩
        exact ⟨hd, POST.out _ hb⟩
  · go_enter Try.func47, Try.ntmps47
    go_wp2_with (fail)
    refine (u32_no a len cap _ _ hl hc (by omega)).mono ?_
    rintro e w1 ⟨rfl, hb1⟩
    go_wp2_with (fail)
    exact ⟨rfl, POST.out _ (Bas.on HAL.out hb1)⟩
set_option maxRecDepth 100000 in
set_option maxHeartbeats 8000000 in
theorem one_rows (a : Option Addr) (len cap : Nat) (bs : List Int) (rules nsubs : Nat) (w : World) (hl : len ≤ cap) (hc : cap ≤ maxLen) (hv : VB w a bs) (hbl : bs.length = len) (hsmall : len ≤ 1000000000)
    (h16 : 16 ≤ len) (hr : be bs 8 4 = rules) (hn : be bs 12 4 = nsubs) (hrow : ¬ 16 + 12 * rules ≤ len) :
    Calls Try.prog 47 #[.agg #[.slice a len cap]] w (OnePost w a bs) := by
  have hb0 := be4_bd bs hv.byte 0 (by omega)
  have hrB : ¬ rowsB len 16 rules 12 := fun h => by have := h.2.2.2.2; omega
  have hcm : len ≤ 9223372036854775807 := by omega
  have hr32 : rules ≤ 4294967295 := by have := be4_bd bs hv.byte 8 (by omega); omega
  have U1 := fun (w' : World) (hb : Below w.heap.size w w') => u32_ok a len cap bs 0 w' hl hc (hv.below hb) hbl (by omega) (by omega)
  have U2 := fun (w' : World) (hb : Below w.heap.size w w') => u32_ok a len cap bs 8 w' hl hc (hv.below hb) hbl (by omega) (by omega)
  have U3 := fun (w' : World) (hb : Below w.heap.size w w') => u32_ok a len cap bs 12 w' hl hc (hv.below hb) hbl (by omega) (by omega)
  simp only [show Int.toNat 0 = 0 from rfl, show Int.toNat 8 = 8 from rfl, show Int.toNat 12 = 12 from rfl] at U1 U2 U3
  rw [hr] at U2
  rw [hn] at U3
  have hnone : parseOne bs = none := by
    unfold parseOne
    rw [hr]
    simp only [Int.toNat_natCast]
    rw [if_neg (by omega)]
  have POST : Hid (∀ w', Below w.heap.size w w' → OnePost w a bs (.panicked short) w') := fun w' hb => ⟨hb, by rw [hnone]⟩
  clear hnone
  have HU1 := Bas.hid U1
  have HU2 := Bas.hid U2
  have HU3 := Bas.hid U3
  have HV := Bas.hid hv
  generalize be bs 0 4 = first at *
  obtain ⟨hf0, hf1⟩ := hb0
  clear U1 U2 U3 hr hn hv
  go_enter Try.func47, Try.ntmps47
  go_wp2_with (fail)
  refine (HU1.out _ (((Below.refl w.heap.size w).alloc (Nat.le_refl _) _).alloc (by simp) _)).mono ?_
  rintro e w1 ⟨rfl, hb1⟩
  have hs1 := hb1.size
  simp only [World.size_alloc] at hs1
  have HB1 := Bas.hid (Bas.on (((Below.refl w.heap.size w).alloc (Nat.le_refl _) _).alloc (by simp) _) hb1)
  have k1 : w1.heap[w.heap.size]? = some (.cells #[.slice a len cap] 54 (0, 0)) := by
    rw [hb1.block _ (by simp; omega)]
    rw [Below.heap_alloc _ _ _ (by simp)]
    exact Bas.heap_new _ _
  have k2 : w1.heap[w.heap.size + 1]? = some (.cells #[.int .u32 0, .slice none 0 0, .slice none 0 0] 46 (0, 0)) := by
    rw [hb1.block _ (by simp)]
    exact Bas.heap_new2 _ _ _
  clear hb1
  go_wp2_with (fail)
  have k1' := (Below.heap_alloc w1 (.cells #[.int .u32 first, .slice none 0 0, .slice none 0 0] 46) _ (heap_lt k1)).trans k1
  have k2' := (Below.heap_alloc w1 (.cells #[.int .u32 first, .slice none 0 0, .slice none 0 0] 46) _ (heap_lt k2)).trans k2
  have k3 := Bas.heap_new w1 (.cells #[.int .u32 first, .slice none 0 0, .slice none 0 0] 46)
  have HB2 := Bas.hid (HB1.out.alloc HB1.out.size (.cells #[.int .u32 first, .slice none 0 0, .slice none 0 0] 46))
  generalize w1.alloc (.cells #[.int .u32 first, .slice none 0 0, .slice none 0 0] 46) = W2 at *
  clear k1 k2 HB1
  refine' Pl.region_v0 83 [] [0, 1, 2, 3, 4, 5] [] _ (by kernel_rfl) (by kernel_rfl) (by simp) (fun _ _ _ _ e h => ⟨e ▸ h.1, h.2⟩) ?_ ?_
  rotate_left
  · intro I F hI hF
    simp only [Pl.selN, List.nil_append, List.drop_succ_cons, List.drop_zero]
    have x1 := fun i => hF.cell (heap_lt k1') (cell_of_heap (i := 0) k1' rfl) i
    repeat (go_big_quiet_step ((first | (go_at_call 45; with_reducible exact hF.call (HU2.out _ (hF.on HB2.out _))) | (go_at_call 45; with_reducible exact hF.call (HU3.out _ (hF.on HB2.out _))))))
    refine wpQuiet_nil ?_
    rfl
  intro u hu
  simp only [Pl.selN]
  have k4 := (hu.block _ (heap_lt k1')).trans k1'
  have k5 := (hu.block _ (heap_lt k2')).trans k2'
  have k6 := (hu.block _ (heap_lt k3)).trans k3
  have HB3 := Bas.hid (HB2.out.trans (hu.mono HB2.out.size))
  have c1 := cell_of_heap (i := 0) k4 rfl
  clear hu k1' k2' k3 HB2
  go_wp2_with (fail)
  refine (rows_no a len cap _ _ _ _ hl hc hrB).mono ?_
  rintro e w3 ⟨rfl, hb3⟩
  go_wp2_with (fail)
  exact ⟨rfl, POST.out _ (HB3.out.trans (hb3.mono HB3.out.size))⟩

theorem one_any (a : Option Addr) (len cap : Nat) (bs : List Int) (w : World) (hl : len ≤ cap) (hc : cap ≤ maxLen) (hv : VB w a bs) (hbl : bs.length = len) (hsmall : len ≤ 1000000000) :
    Calls Try.prog 47 #[.agg #[.slice a len cap]] w (OnePost w a bs) := by
  by_cases h16 : 16 ≤ len
  · have h1 := be4_bd bs hv.byte 8 (by omega)
    have h2 := be4_bd bs hv.byte 12 (by omega)
    by_cases h3 : 16 + 12 * (be bs 8 4).toNat ≤ len
    · exact one_main a len cap bs (be bs 8 4).toNat (be bs 12 4).toNat w hl hc hv hbl hsmall h16 (by omega) (by omega) h3
    · exact one_rows a len cap bs (be bs 8 4).toNat (be bs 12 4).toNat w hl hc hv hbl hsmall h16 (by omega) (by omega) h3
  · exact one_short a len cap bs w hl hc hv hbl hsmall (by omega)
end Ch
end Go.Proofs.Ytgddghplhdmfdaa
