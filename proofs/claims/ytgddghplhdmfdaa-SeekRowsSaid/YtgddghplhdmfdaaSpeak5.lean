/- Layer 5 (seek): what 'speaks' answers. -/
import Derived.Test.YtgddghplhdmfdaaRead
namespace Go.Proofs.Ytgddghplhdmfdaa
open Go.RowKit
namespace Sk
open Vw

def demo : List Int := [0, 2, 0, 3, 0, 0, 0, 0, 0, 0, 0, 7, 0, 9, 255, 255]

theorem demo_rows : readRows demo 0 1 = [[0, 7], [0, 9]] := by kernel_rfl
theorem demo_take : takeB 16 demo 0 2 := ⟨by decide, by decide, by decide, ⟨by decide, by decide, by decide, by decide, by decide⟩⟩

theorem cell_lit (w : World) (k : IntKind) (l : List Int) (t : TypeId) (i : Nat) (hi : i < l.length) : (w.alloc (.cells (l.map (Value.int k)).toArray t)).cell? ⟨w.heap.size, 0 + i, none⟩ = some (.int k (l.getD i 0)) := by
  have h := Bas.heap_new w (.cells (l.map (Value.int k)).toArray t)
  unfold World.cell?
  simp only [h]
  simp [hi]

set_option maxHeartbeats 2000000 in
theorem speaks_any (w : World) : Calls Try.prog 28 #[] w fun e w' => e = .returned (.bool true) ∧ Below w.heap.size w w' := by
  have hv1 : VB (w.alloc (.cells (demo.map (Value.int .u8)).toArray 5)) (some ⟨w.heap.size, 0, none⟩) demo := by
    exact ⟨by decide, by decide, fun i hi => ⟨w.heap.size, 0, rfl, cell_lit w .u8 demo _ i hi⟩⟩
  have hr := fun W' (hv : VB W' (some ⟨w.heap.size, 0, none⟩) demo) => read_yes (some ⟨w.heap.size, 0, none⟩) 16 16 demo 0 2 1 W' (Nat.le_refl _) (by simp [maxLen]) rfl (by omega) (by omega) (by omega) (by decide) (by decide) hv demo_take
  rw [demo_rows] at hr
  have HV := Bas.hid hv1
  have HR := Bas.hid hr
  have hHB := (Below.refl w.heap.size w).alloc (Nat.le_refl _) (.cells (demo.map (Value.int .u8)).toArray 5)
  have HHB := Bas.hid hHB
  clear hv1 hr hHB
  go_enter Try.func28, Try.ntmps28
  go_wp2_with (fail)
  refine (HR.out _ HV.out).mono ?_
  rintro e w1 ⟨v, rfl, hb1, xs, hxs, hrows⟩
  obtain ⟨g0, c0, h0, hg0, hl0, hc0, hm0, hvb0, -⟩ := hrows 0 _ rfl
  obtain ⟨g1, c1, h1, hg1, hl1, hc1, hm1, hvb1, -⟩ := hrows 1 _ rfl
  rcases Row.owned_parts hxs with ⟨_, hn0, _⟩ | ⟨G, cp, rfl, hG, hGl, hGc, hGm, hcl, -⟩
  · simp at hn0
  have k1 := hcl 1 _ h1
  have cv := fun W' (hb : Below w1.heap.size w1 W') => conv_vb (hvb1.below hb) 2 c1 rfl
  have hst : strOfNums [0, 9] = ⟨#[0, 9]⟩ := by rfl
  have HCV := Bas.hid cv
  have HB1 : Below w.heap.size w w1 := HHB.out.trans (hb1.mono HHB.out.size)
  have lG : G < w1.heap.size := hGl
  clear hrows hcl hxs h0 h1 hvb0 hvb1 cv HR HV hb1
  go_wp2_with (fail)
  have hi : IntsAt (w1.alloc (.cells #[.int .i64 2, .int .i64 5, .int .i64 9] 3)) (some ⟨w1.heap.size, 0, none⟩) 3 3 [2, 5, 9] := by
    exact ⟨rfl, by omega, by simp [maxLen], fun i hi => ⟨w1.heap.size, 0, rfl, cell_lit w1 .i64 [2, 5, 9] _ i hi⟩⟩
  refine (place_any _ 3 3 [2, 5, 9] 5 _ hi (by omega) ?_).mono ?_
  · intro i j hij hj
    have : j < 3 := hj
    match j, this, i, hij with
    | 0, _, 0, _ | 1, _, 0, _ | 1, _, 1, _ | 2, _, 0, _ | 2, _, 1, _ | 2, _, 2, _ => decide
  rintro e w2 ⟨hb2, k, ⟨hp1, hp2, hp3⟩, hk⟩
  have hk1 : k = 1 := by
    have h4 : k < 4 := by simp at hp1; omega
    match k, h4 with
    | 0, _ => have := hp3 0 (by omega) (by decide); simp at this
    | 1, _ => rfl
    | 2, _ => have := hp2 1 (by omega); simp at this
    | 3, _ => have := hp2 1 (by omega); simp at this
  subst hk1
  have he : e = .returned (.tuple #[.int .i64 1, .bool true]) := by
    rcases hk with ⟨_, _, h⟩ | ⟨h, _⟩
    · exact h
    · exact absurd rfl (h (by decide))
  subst he
  have HB2 : Below w1.heap.size w1 w2 := Bas.on ((Below.refl w1.heap.size w1).alloc (Nat.le_refl _) _) hb2
  have k2 := (HB2.cell (p := ⟨G, 1, none⟩) lG).trans k1
  have cv2 := HCV.out _ HB2
  rw [hst] at cv2
  clear hi hp1 hp2 hp3 hk hb2 k1 HCV hst
  go_wp2_with (fail)
  go_ret
  exact ⟨rfl, HB1.trans (HB2.mono HB1.size)⟩
end Sk
end Go.Proofs.Ytgddghplhdmfdaa
