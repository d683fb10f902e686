/- The walk of the law ViewHalves. -/
import Derived.Test.YtakpppgikgimnaaViewS
import Derived.Test.YtakpppgikgimnaaArr
namespace Go.Proofs.Ytakpppgikgimnaa
open Go.RowKit
namespace Vw

set_option maxHeartbeats 2000000 in
theorem viewHalves_walk (x0 x1 x2 x3 : Int) (w : World) (l0 : 0 ≤ x0) (h0 : x0 ≤ 255) (l1 : 0 ≤ x1) (h1 : x1 ≤ 255) (l2 : 0 ≤ x2) (h2 : x2 ≤ 255) (l3 : 0 ≤ x3) (h3 : x3 ≤ 255) :
    Calls Try.prog 7 #[.agg #[.int .u8 x0, .int .u8 x1, .int .u8 x2, .int .u8 x3]] w fun e w' => e = .returned (.bool true) ∧ Below w.heap.size w w' := by
  have E04 : be [x0, x1, x2, x3] 0 4 = 16777216 * x0 + 65536 * x1 + 256 * x2 + x3 := be4 _ 0 (by simp)
  have E02 : be [x0, x1, x2, x3] 0 2 = 256 * x0 + x1 := be2 _ 0 (by simp)
  have E12 : be [x0, x1, x2, x3] 1 2 = 256 * x1 + x2 := be2 _ 1 (by simp)
  have E22 : be [x0, x1, x2, x3] 2 2 = 256 * x2 + x3 := be2 _ 2 (by simp)
  have E11 : be [x0, x1, x2, x3] 1 1 = x1 := be1 _ 1 (by simp)
  have E21 : be [x0, x1, x2, x3] 2 1 = x2 := be1 _ 2 (by simp)
  go_enter Try.func7, Try.ntmps7
  go_wp2_with (fail)
  refine (speaks_any _).mono ?_
  rintro e w1 ⟨rfl, hb1⟩
  obtain ⟨hc1, hf1⟩ := Bas.bcell hb1
  have HB1 := Bas.on ((Below.refl w.heap.size w).alloc (Nat.le_refl _) _) hb1
  have hz1 : w.heap.size + 1 ≤ w1.heap.size := by have := hb1.size; simp at this; omega
  go_wp2_with (fail)
  refine (of_any _ _ _ _).mono ?_
  rintro e w2 ⟨rfl, hb2⟩
  have HB2 := Bas.on HB1 hb2
  have H12 := Bas.on hb1 hb2
  have hv2 : VB w2 (some ⟨w.heap.size, 0, none⟩) [x0, x1, x2, x3] := by
    refine ⟨by simp, by simp; omega, fun i hi => ⟨w.heap.size, 0, rfl, ?_⟩⟩
    rw [H12.cell (p := ⟨w.heap.size, 0 + i, none⟩) (by simp)]
    have : i = 0 ∨ i = 1 ∨ i = 2 ∨ i = 3 := by simp at hi; omega
    rcases this with rfl | rfl | rfl | rfl <;> simp
  have hz2 : w.heap.size + 1 ≤ w2.heap.size := by have := hb2.size; omega
  clear hc1 hf1 hb1 hb2
  go_wp2_with (fail)
  have hv3 := hv2.below ((Below.refl _ _).alloc (Nat.le_refl _) (.cells #[.slice (some ⟨w.heap.size, 0, none⟩) 4 4] 39))
  refine (u32_ok _ _ _ [x0, x1, x2, x3] _ _ (Nat.le_refl _) (by simp [maxLen]) hv3 rfl (by omega) (by simp)).mono ?_
  rintro e w3 ⟨rfl, hb3⟩
  rw [show be [x0, x1, x2, x3] (Int.toNat 0) 4 = 16777216 * x0 + 65536 * x1 + 256 * x2 + x3 from E04]
  have hv4 := hv3.below hb3
  have hcv : w3.cell? ⟨w2.heap.size, 0, none⟩ = some (.slice (some ⟨w.heap.size, 0, none⟩) 4 4) := by
    rw [hb3.cell (p := ⟨w2.heap.size, 0, none⟩) (by simp)]; simp
  have hca : ∀ j y, j < 4 → [x0, x1, x2, x3].getD j 0 = y → w3.cell? ⟨w.heap.size, 0 + j, none⟩ = some (.int .u8 y) := fun j y hj hy => by
    obtain ⟨b, o, hab, hc⟩ := hv4.cell j (by simpa using hj)
    simp only [Option.some.injEq, Addr.mk.injEq, and_true] at hab
    obtain ⟨rfl, rfl⟩ := hab
    rw [hc, hy]
  have ha0 : w3.cell? ⟨w.heap.size, 0, none⟩ = some (.int .u8 x0) := hca 0 x0 (by omega) rfl
  have ha2 : w3.cell? ⟨w.heap.size, 2, none⟩ = some (.int .u8 x2) := by have := hca 2 x2 (by omega) rfl; simpa using this
  have hz3 : w2.heap.size < w3.heap.size := by have := hb3.size; simp at this; omega
  have HB3 : Below w.heap.size w w3 := (HB2.alloc HB2.size _).trans (hb3.mono (by simp; omega))
  clear hca hv3 hb3 hv2 HB2 H12 HB1 E04
  obtain ⟨I, F, hI, HF⟩ := Bas.fam w3.heap.size w3
  have hB0 : w3.heap.size ≤ w3.heap.size := Nat.le_refl _
  have hvF : ∀ i, VB (F i) (some ⟨w.heap.size, 0, none⟩) [x0, x1, x2, x3] := fun i => hv4.below (HF.2 i)
  have HV := Bas.hid hvF
  have hne : (16777216 * x0 + 65536 * x1 + 256 * x2 + x3 != 65536 * (256 * x0 + x1) + (256 * x2 + x3)) = false := by simp; omega
  replace hcv := fun i => Bas.cell_fam HF hz3 hcv i
  replace ha0 := fun i => Bas.cell_fam HF (by omega) ha0 i
  replace ha2 := fun i => Bas.cell_fam HF (by omega) ha2 i
  have hst := HF.1 _ ((Below.refl _ _).drew)
  have HST := Bas.hid hst
  clear hst hvF hv4
  go_wp2_with (fail)
  refine Bas.region_fam (by kernel_rfl) (by kernel_rfl) HST.out ?_
  repeat (go_big_quiet_step ((first | (go_at_call 35; exact Bas.call_fam HF hB0 (u16_ok _ _ _ [x0, x1, x2, x3] _ _ (Nat.le_refl _) (by simp [maxLen]) (HV.out _) rfl (by omega) (by simp))) | (go_at_call 36; exact Bas.call_fam HF hB0 (u8_ok _ _ _ [x0, x1, x2, x3] _ _ (Nat.le_refl _) (by simp [maxLen]) (HV.out _) rfl (by omega) (by simp))) | (go_at_call 37; exact Bas.call_fam HF hB0 (i32_ok _ _ _ [x0, x1, x2, x3] _ _ (Nat.le_refl _) (by simp [maxLen]) (HV.out _) rfl (by omega) (by simp))) | (go_at_call 38; exact Bas.call_fam HF hB0 (i16_ok _ _ _ [x0, x1, x2, x3] _ _ (Nat.le_refl _) (by simp [maxLen]) (HV.out _) rfl (by omega) (by simp))))))
  refine wpQuiet_nil ?_
  intro i1
  go_wp2_with (fail)
  have E04 : be [x0, x1, x2, x3] 0 4 = 16777216 * x0 + 65536 * x1 + 256 * x2 + x3 := be4 _ 0 (by simp)
  have hst := HF.1 _ ((HF.2 i1).drew)
  have HST2 := Bas.hid hst
  clear hst hne
  obtain ⟨V0, hV0⟩ : ∃ V, V = s32 (16777216 * x0 + 65536 * x1 + 256 * x2 + x3) := ⟨_, rfl⟩
  obtain ⟨V2, hV2⟩ : ∃ V, V = s16 (256 * x2 + x3) := ⟨_, rfl⟩
  have b0 : (x0 < 128 ∧ V0 = 16777216 * x0 + 65536 * x1 + 256 * x2 + x3) ∨ (128 ≤ x0 ∧ V0 = 16777216 * x0 + 65536 * x1 + 256 * x2 + x3 - 4294967296) := by rw [hV0]; unfold s32; omega
  have b2 : (x2 < 128 ∧ V2 = 256 * x2 + x3) ∨ (128 ≤ x2 ∧ V2 = 256 * x2 + x3 - 65536) := by rw [hV2]; unfold s16; omega
  have S0 := hV0.symm
  have S2 := hV2.symm
  clear hV0 hV2
  have lo0 : -2147483648 ≤ V0 := by omega
  have hi0 : V0 ≤ 4294967295 := by omega
  have lo2 : -2147483648 ≤ V2 := by omega
  have hi2 : V2 ≤ 4294967295 := by omega
  have g0 : (V0 - (16777216 * x0 + 65536 * x1 + 256 * x2 + x3) = 0 ∧ decide (V0 < 0) = false ∧ decide (128 ≤ x0) = false) ∨ (V0 - (16777216 * x0 + 65536 * x1 + 256 * x2 + x3) = -4294967296 ∧ decide (V0 < 0) = true ∧ decide (128 ≤ x0) = true) := by
    rcases b0 with ⟨h, h'⟩ | ⟨h, h'⟩
    · exact .inl ⟨by omega, by simp; omega, by simp; omega⟩
    · exact .inr ⟨by omega, by simp; omega, by simp; omega⟩
  have g2 : (V2 - (256 * x2 + x3) = 0 ∧ decide (V2 < 0) = false ∧ decide (128 ≤ x2) = false) ∨ (V2 - (256 * x2 + x3) = -65536 ∧ decide (V2 < 0) = true ∧ decide (128 ≤ x2) = true) := by
    rcases b2 with ⟨h, h'⟩ | ⟨h, h'⟩
    · exact .inl ⟨by omega, by simp; omega, by simp; omega⟩
    · exact .inr ⟨by omega, by simp; omega, by simp; omega⟩
  clear b0 b2
  rcases g0 with ⟨p1, p2, p3⟩ | ⟨p1, p2, p3⟩ <;> rcases g2 with ⟨q1, q2, q3⟩ | ⟨q1, q2, q3⟩
  all_goals
    refine Bas.region_fam (by kernel_rfl) (by kernel_rfl) HST2.out ?_
    repeat (go_big_quiet_step ((first | (go_at_call 35; exact Bas.call_fam HF hB0 (u16_ok _ _ _ [x0, x1, x2, x3] _ _ (Nat.le_refl _) (by simp [maxLen]) (HV.out _) rfl (by omega) (by simp))) | (go_at_call 36; exact Bas.call_fam HF hB0 (u8_ok _ _ _ [x0, x1, x2, x3] _ _ (Nat.le_refl _) (by simp [maxLen]) (HV.out _) rfl (by omega) (by simp))) | (go_at_call 37; exact Bas.call_fam HF hB0 (i32_ok _ _ _ [x0, x1, x2, x3] _ _ (Nat.le_refl _) (by simp [maxLen]) (HV.out _) rfl (by omega) (by simp))) | (go_at_call 38; exact Bas.call_fam HF hB0 (i16_ok _ _ _ [x0, x1, x2, x3] _ _ (Nat.le_refl _) (by simp [maxLen]) (HV.out _) rfl (by omega) (by simp))))))
    refine wpQuiet_nil ?_
    intro i2
    go_wp2_with (fail)
    go_ret
    exact ⟨rfl, HB3.trans ((HF.2 i2).mono HB3.size)⟩

theorem viewHalves_law {H : Type} {enc : TypeId × Value → H} (v : Value) (d : DataW H) (p : List MemPlace) (W : World) {base : Nat} (hv : Value.okWide Try.prog W .any base 43 v) (ht : DataW.Trod enc Try.prog W 0 (fun _ => true) true 43 v d p) :
    Calls Try.prog 7 #[v] W fun e w' => e = .returned (.bool true) ∧ Below W.heap.size W w' := by
  obtain ⟨xs, hl, rfl, hw⟩ := Bas.open_arr Try.underlying43 Try.underlying5 (by kernel_rfl) (by kernel_rfl) hv ht
  match xs, hl with
  | [x0, x1, x2, x3], _ =>
    have a0 := Bas.wf_u8 (hw x0 (by simp))
    have a1 := Bas.wf_u8 (hw x1 (by simp))
    have a2 := Bas.wf_u8 (hw x2 (by simp))
    have a3 := Bas.wf_u8 (hw x3 (by simp))
    exact viewHalves_walk x0 x1 x2 x3 W a0.1 a0.2 a1.1 a1.2 a2.1 a2.2 a3.1 a3.2
end Vw
end Go.Proofs.Ytakpppgikgimnaa
