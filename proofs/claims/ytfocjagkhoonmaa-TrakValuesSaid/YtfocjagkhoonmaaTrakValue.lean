/- Layer 27 (trak): Value. -/
import Derived.Test.YtfocjagkhoonmaaTrakAt
namespace Go.Proofs.Ytfocjagkhoonmaa
open Go.RowKit
namespace Tk
open Vw

theorem atK_atV (t : TrackD) (hV : TrkV t) (size : Int) (k : Nat) (hk : k ≤ t.vals.length) (hA : ∀ j, j < k → t.sizes.getD j 0 < size) (hB : ∀ j, k ≤ j → j < t.vals.length → size ≤ t.sizes.getD j 0) :
    atK (fun i => t.sizes.getD i 0) (fun i => t.vals.getD i 0) size t.vals.length k = atV t size := by
  have hf : firstGE t.sizes size = k := firstGE_eq _ _ _ (by rw [hV.len]; exact hk) hA (fun h => hB k (Nat.le_refl _) (by rw [← hV.len]; exact h))
  unfold atK atV
  rw [hf]

theorem at_any (t : TrackD) (v1 v2 : Value) (base : Nat) (size : Int) (w : World) (ho : TrkOwn w base v1 v2 t) (hV : TrkV t) (hsz : -2147483648 ≤ size ∧ size ≤ 2147483647) :
    Calls Try.prog 42 #[.agg #[v1, v2], .int .i64 size] w fun e w' => e = .returned (.int .i64 (atV t size)) ∧ Below w.heap.size w w' := by
  obtain ⟨ad1, c1, rfl, h1⟩ := leads_cell ho.1
  obtain ⟨ad2, c2, rfl, h2⟩ := leads_cell ho.2
  have hl := hV.len
  rw [hl] at h1 ⊢
  rcases Nat.eq_zero_or_pos t.vals.length with h0 | h0
  · have hk0 := atK_atV t hV size 0 (Nat.zero_le _) (fun j h => by omega) (fun j _ h => by omega)
    rw [h0] at hk0 ⊢
    refine (at_zero ad1 ad2 (fun i => t.sizes.getD i 0) (fun i => t.vals.getD i 0) size w c1 c2).mono ?_
    rintro e w' ⟨k, hk, hA, hB, rfl, hb⟩
    obtain rfl : k = 0 := by omega
    exact ⟨by rw [hk0], hb⟩
  · obtain ⟨G1, rfl, hG1, _⟩ := h1 0 h0
    obtain ⟨G2, rfl, hG2, _⟩ := h2 0 h0
    refine (at_core t.vals.length G1 G2 c1 c2 (fun i => t.sizes.getD i 0) (fun i => t.vals.getD i 0) size w h0 hV.few hsz hG1 hG2 (fun j hj => ?_) (fun j hj => ?_) (fun i j hij hj => hV.rise i j hij (by rw [hl]; exact hj)) hV.sb hV.vb).mono ?_
    · obtain ⟨G, e, _, h⟩ := h1 j hj; cases e; exact h
    · obtain ⟨G, e, _, h⟩ := h2 j hj; cases e; exact h
    · rintro e w' ⟨k, hk, hA, hB, rfl, hb⟩
      exact ⟨by rw [atK_atV t hV size k hk hA hB], hb⟩

set_option maxRecDepth 100000 in
set_option maxHeartbeats 4000000 in
theorem value_any (t : TrackD × TrackD) (base g : Nat) (dir size : Int) (w : World) (ht : TabOk w base g t.1 t.2) (hV1 : TrkV t.1) (hV2 : TrkV t.2) (hsz : -2147483648 ≤ size ∧ size ≤ 2147483647) (hd : -9223372036854775808 ≤ dir ∧ dir ≤ 9223372036854775807) :
    Calls Try.prog 19 #[.pointer (some ⟨g, 0, none⟩), .int .i64 dir, .int .i32 size] w fun e w' => e = .returned (.int .i64 (valueV t dir size)) ∧ Below w.heap.size w w' := by
  obtain ⟨hg, a1, v1, a2, v2, hh, o1, o2⟩ := ht
  have HA1 := Bas.hid (at_any t.1 a1 v1 base size w o1 hV1 hsz)
  have HA2 := Bas.hid (at_any t.2 a2 v2 base size w o2 hV2 hsz)
  have hlt := heap_lt hh
  have e0 := cell_of_heap (i := 0) (v := a1) hh rfl
  have e1 := cell_of_heap (i := 1) (v := v1) hh rfl
  have e2 := cell_of_heap (i := 2) (v := a2) hh rfl
  have e3 := cell_of_heap (i := 3) (v := v2) hh rfl
  have HBR := Bas.hid (Below.refl w.heap.size w)
  clear o1 o2 hV1 hV2
  by_cases h2 : dir = 2
  · have hdb : (dir == 2) = true := by simpa using h2
    have HV : Hid (valueV t dir size = atV t.2 size) := by unfold Hid valueV; rw [if_pos h2]
    clear h2
    go_enter Try.func19, Try.ntmps19
    go_wp2_with (fail)
    refine HA2.out.mono ?_
    rintro e w' ⟨rfl, hb⟩
    have HB := Bas.hid hb
    clear hb
    go_wp2_with (fail)
    go_ret
    exact ⟨by rw [HV.out]; rfl, HB.out⟩
  · have hdb : (dir == 2) = false := by simpa using h2
    by_cases h0 : dir = 0
    · have hdc : (dir == 0) = true := by simpa using h0
      have HV : Hid (valueV t dir size = atV t.1 size) := by unfold Hid valueV; rw [if_neg h2, if_pos (.inl h0)]
      clear h2 h0
      go_enter Try.func19, Try.ntmps19
      go_wp2_with (fail)
      refine HA1.out.mono ?_
      rintro e w' ⟨rfl, hb⟩
      have HB := Bas.hid hb
      clear hb
      go_wp2_with (fail)
      go_ret
      exact ⟨by rw [HV.out]; rfl, HB.out⟩
    · have hdc : (dir == 0) = false := by simpa using h0
      by_cases h1 : dir = 1
      · have hdd : (dir == 1) = true := by simpa using h1
        have HV : Hid (valueV t dir size = atV t.1 size) := by unfold Hid valueV; rw [if_neg h2, if_pos (.inr h1)]
        clear h2 h0 h1
        go_enter Try.func19, Try.ntmps19
        go_wp2_with (fail)
        refine HA1.out.mono ?_
        rintro e w' ⟨rfl, hb⟩
        have HB := Bas.hid hb
        clear hb
        go_wp2_with (fail)
        go_ret
        exact ⟨by rw [HV.out]; rfl, HB.out⟩
      · have hdd : (dir == 1) = false := by simpa using h1
        have HV : Hid (valueV t dir size = 0) := by unfold Hid valueV; rw [if_neg h2, if_neg (by omega)]
        clear h2 h0 h1 HA1 HA2
        go_enter Try.func19, Try.ntmps19
        go_wp2_with (fail)
        go_ret
        exact ⟨by rw [HV.out]; rfl, HBR.out⟩
end Tk
end Go.Proofs.Ytfocjagkhoonmaa
