/- Layer 1 (view): what 'speaks' answers; arguments that come in. -/
import Derived.Test.YtakpppgikgimnaaTry
namespace Go.Proofs.Ytakpppgikgimnaa
open Go.RowKit
namespace Vw

/-- A slice of bytes that came in reads as its elements. -/
theorem VB_of_row {w : World} {a : Option Addr} {len cap : Nat} {zs : List Int} (h : Bas.IsRow .u8 w a len cap zs) (hlen : len ≤ 140737488355328) :
    VB w a (zs.take len) ∧ (zs.take len).length = len ∧ len ≤ cap ∧ cap ≤ maxLen ∧ (a = none → cap = 0) := by
  rcases h with ⟨rfl, rfl, rfl, rfl⟩ | ⟨x, rfl, hl, hm, hz, hcell, hwz⟩
  · exact ⟨⟨by simp, by simp, by simp⟩, by simp, by simp, by simp, fun _ => rfl⟩
  · have hlt : (zs.take len).length = len := by simp; omega
    refine ⟨⟨by omega, fun y hy => Bas.wf_u8 (hwz y (List.mem_of_mem_take hy)), fun i hi => ?_⟩, hlt, hl, hm, by simp⟩
    have hi' : i < len := by omega
    have hc := hcell i (by omega)
    have hs := World.cell?_spot hc
    obtain ⟨b, o, s⟩ := x
    by_cases hi0 : i = 0
    · subst hi0
      have : s = none := by simpa [Addr.add] using hs
      subst this
      refine ⟨b, o, rfl, ?_⟩
      rw [Addr.add_lit] at hc
      rw [hc]; simp [hi']
    · have hc0 := hcell 0 (by omega)
      have hs0 := World.cell?_spot hc0
      have : s = none := by simpa [Addr.add] using hs0
      subst this
      refine ⟨b, o, rfl, ?_⟩
      rw [Addr.add_lit] at hc
      rw [hc]; simp [hi']

set_option maxHeartbeats 400000 in
theorem speaks_any (w : World) : Calls Try.prog 31 #[] w fun e w' => e = .returned (.bool true) ∧ Below w.heap.size w w' := by
  go_enter Try.func31, Try.ntmps31
  go_wp2_with (fail)
  refine (of_any _ _ _ _).mono ?_
  rintro e w1 ⟨rfl, hb1⟩
  have hv1 : VB w1 (some ⟨w.heap.size, 0, none⟩) [1, 2] := by
    refine ⟨by simp, by simp, fun i hi => ⟨w.heap.size, 0, rfl, ?_⟩⟩
    rw [hb1.cell (p := ⟨w.heap.size, 0 + i, none⟩) (by simp)]
    have : i = 0 ∨ i = 1 := by simp at hi; omega
    rcases this with rfl | rfl <;> simp
  have hB1 := Bas.on ((Below.refl w.heap.size w).alloc (Nat.le_refl _) _) hb1
  clear hb1
  go_wp2_with (fail)
  refine (len_any _ _ _ _).mono ?_
  rintro e w2 ⟨rfl, hb2⟩
  obtain ⟨hc2, hf2⟩ := Bas.bcell hb2
  have hv2 := (hv1.below ((Below.refl _ _).alloc (Nat.le_refl _) _)).below hb2
  go_wp2_with (fail)
  refine (u16_ok _ _ _ [1, 2] _ _ (Nat.le_refl _) (by simp [maxLen]) hv2 rfl (by omega) (by simp)).mono ?_
  rintro e w3 ⟨rfl, hb3⟩
  have hv3 := hv2.below hb3
  have HB3 := Bas.on hb2 hb3
  clear hb3 hc2 hf2
  obtain ⟨hc3, hf3⟩ := Bas.bcell HB3
  rw [show be [1, 2] (Int.toNat 0) 2 = 258 from rfl]
  go_wp2_with (fail)
  refine (u8_ok _ _ _ [1, 2] _ _ (Nat.le_refl _) (by simp [maxLen]) hv3 rfl (by omega) (by simp)).mono ?_
  rintro e w4 ⟨rfl, hb4⟩
  rw [show be [1, 2] (Int.toNat 1) 1 = 2 from rfl]
  have HB4 := Bas.on HB3 hb4
  go_wp2_with (fail)
  go_ret
  exact ⟨rfl, ((hB1.alloc hB1.size _).trans (HB4.mono (by have := hB1.size; simp; omega)))⟩
end Vw
end Go.Proofs.Ytakpppgikgimnaa
