/- Layer 1 (view): what 'speaks' answers. -/
import Derived.Test.YtakpppgikgimnaaVArg
namespace Go.Proofs.Ytakpppgikgimnaa
open Go.RowKit
namespace Vw

set_option maxHeartbeats 400000 in
theorem speaks_any (w : World) : Calls Try.prog 31 #[] w fun e w' => e = .returned (.bool true) ∧ Below w.heap.size w w' := by
  go_enter Try.func31, Try.ntmps31
  go_wp2_with (fail)
  refine (of_any _ _ _ _).mono ?_
  rintro e w1 ⟨rfl, hb1⟩
  have hv1 : VB w1 (some ⟨w.heap.size, 0, none⟩) [1, 2] := by
    refine ⟨by simp, by simp, fun i hi => ⟨w.heap.size, 0, rfl, ?_⟩⟩
    rw [hb1.cell (p := ⟨w.heap.size, 0 + i, none⟩) (by simp)]
    have : i = 0 ∨ i = 1 := by simp at hi; omega
    rcases this with rfl | rfl <;> simp
  have hB1 := Bas.on ((Below.refl w.heap.size w).alloc (Nat.le_refl _) _) hb1
  clear hb1
  go_wp2_with (fail)
  refine (len_any _ _ _ _).mono ?_
  rintro e w2 ⟨rfl, hb2⟩
  obtain ⟨hc2, hf2⟩ := Bas.bcell hb2
  have hv2 := (hv1.below ((Below.refl _ _).alloc (Nat.le_refl _) _)).below hb2
  go_wp2_with (fail)
  refine (u16_ok _ _ _ [1, 2] _ _ (Nat.le_refl _) (by simp [maxLen]) hv2 rfl (by omega) (by simp)).mono ?_
  rintro e w3 ⟨rfl, hb3⟩
  have hv3 := hv2.below hb3
  have HB3 := Bas.on hb2 hb3
  clear hb3 hc2 hf2
  obtain ⟨hc3, hf3⟩ := Bas.bcell HB3
  rw [show be [1, 2] (Int.toNat 0) 2 = 258 from rfl]
  go_wp2_with (fail)
  refine (u8_ok _ _ _ [1, 2] _ _ (Nat.le_refl _) (by simp [maxLen]) hv3 rfl (by omega) (by simp)).mono ?_
  rintro e w4 ⟨rfl, hb4⟩
  rw [show be [1, 2] (Int.toNat 1) 1 = 2 from rfl]
  have HB4 := Bas.on HB3 hb4
  go_wp2_with (fail)
  go_ret
  exact ⟨rfl, ((hB1.alloc hB1.size _).trans (HB4.mono (by have := hB1.size; simp; omega)))⟩
end Vw
end Go.Proofs.Ytakpppgikgimnaa
