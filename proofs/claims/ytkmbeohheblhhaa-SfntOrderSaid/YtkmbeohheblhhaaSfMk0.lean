/- sfnt.Make of no part; of any parts. -/
import Derived.Test.YtkmbeohheblhhaaSfMk
namespace Go.Proofs.Ytkmbeohheblhhaa
open Go.RowKit
namespace Sy
open Fo Vw Wr

set_option maxRecDepth 100000 in
set_option maxHeartbeats 8000000 in
theorem smake_zero (v : Value) (dat : Sl → List Int) (D : Nat → Pt) (w : World) (hl : Row.Leads w v 0 []) :
    Calls Try.prog 11 #[v] w (MkP 0 D dat w) := by
  have HCL := Bas.hid (clone_any v [] 0 w hl rfl (by omega))
  have hbl0 : Lib.bitLen 0 = 0 := by decide +kernel
  clear hl
  go_enter Try.func11, Try.ntmps11
  go_wp2_with (fail)
  refine HCL.out.mono ?_
  rintro e w1 ⟨hb1, a1, cp, rfl, ho1⟩
  have HB1 := Bas.hid hb1
  have HSO := Bas.hid (sort_any w.heap.size 0 a1 cp D w1 ⟨[], ⟨rfl, fun i hi => by omega⟩, ho1⟩ (by omega))
  clear hb1 ho1 HCL
  go_wp2_with (fail)
  refine HSO.out.mono ?_
  rintro e w2 ⟨rfl, E, hat, hsr, hpm, hgr⟩
  have HSR := Bas.hid hsr
  have HPM := Bas.hid hpm
  have HB2 : Hid (Below w.heap.size w w2) := HB1.out.grown hgr HB1.out.size (fun g hg => by
    obtain ⟨ys, _, ho⟩ := hat
    exact (Row.own_block ho hg).1)
  have HLEN := Bas.hid (blen_int (0 : Int) w2 (by omega) (by omega))
  rw [show ((0 : Int)).toNat = 0 by rfl, hbl0] at HLEN
  clear hat hsr hpm hgr HSO HB1 hbl0
  go_wp2_with (fail)
  go_loopw [20] (fun vi wr => vi = .int .i64 0 ∧ wr = w2) (fun _ _ => 0)
  case atStart => exact ⟨rfl, rfl⟩
  case round =>
    obtain ⟨rfl, rfl⟩ := hrel
    go_wp2_with (fail)
    refine HLEN.out.mono ?_
    rintro e w5 ⟨rfl, rfl⟩
    have hB0 := HB2.out.size
    have hO0 : wr.ownsRow w.heap.size 5 1 (.slice none 0 0) ([] : List Int).length (([] : List Int).map (Value.int .u8)) := Row.owned_nil _ _ _ _
    go_wp2_with (fail)
    refine (sput_any 65536 4 w.heap.size _ [] wr (by omega) (by omega) (by omega) (by simp) hB0 hO0).mono ?_
    rintro e u1 ⟨y1, rfl, gr1⟩
    have hB1 := Nat.le_trans hB0 gr1.grow.size
    have hO1 := gr1.own
    go_wp2_with (fail)
    refine (sput_any 0 2 w.heap.size _ _ u1 (by omega) (by omega) (by omega) (by simp [putB_len]) hB1 hO1).mono ?_
    rintro e u2 ⟨y2, rfl, gr2⟩
    have hB2 := Nat.le_trans hB1 gr2.grow.size
    have hO2 := gr2.own
    go_wp2_with (fail)
    refine (sput_any 0 2 w.heap.size _ _ u2 (by omega) (by omega) (by omega) (by simp [putB_len]) hB2 hO2).mono ?_
    rintro e u3 ⟨y3, rfl, gr3⟩
    have hB3 := Nat.le_trans hB2 gr3.grow.size
    have hO3 := gr3.own
    go_wp2_with (fail)
    refine (sput_any 0 2 w.heap.size _ _ u3 (by omega) (by omega) (by omega) (by simp [putB_len]) hB3 hO3).mono ?_
    rintro e u4 ⟨y4, rfl, gr4⟩
    have hB4 := Nat.le_trans hB3 gr4.grow.size
    have hO4 := gr4.own
    go_wp2_with (fail)
    refine (sput_any 0 2 w.heap.size _ _ u4 (by omega) (by omega) (by omega) (by simp [putB_len]) hB4 hO4).mono ?_
    rintro e u5 ⟨y5, rfl, gr5⟩
    have gA := (((gr1.trans gr2).trans gr3).trans gr4).trans gr5
    have HBA := Bas.hid (gA.below HB2.out HB2.out.size (fun g hg => by cases hg))
    have HROW : Hid (u5.ownsRow w.heap.size 5 1 y5 (headM 0 0 0).length ((headM 0 0 0).map (Value.int .u8))) := by
      have h := gA.own
      simp only [List.nil_append] at h
      exact h
    clear gA gr1 gr2 gr3 gr4 gr5 hO0 hO1 hO2 hO3 hO4 hB0 hB1 hB2 hB3 hB4 HB2 HLEN
    go_wp2_with (fail)
    go_loopw [8, 76] (fun vb vi wr => vb = y5 ∧ vi = .int .i64 0 ∧ wr = u5) (fun _ _ _ => 0)
    case atStart => exact ⟨rfl, rfl, rfl⟩
    case round =>
      obtain ⟨rfl, rfl, rfl⟩ := hrel
      go_wp2_with (fail)
      go_loopw [8, 106] (fun vb vi w9 => vb = u8 ∧ vi = .int .i64 0 ∧ w9 = wr) (fun _ _ _ => 0)
      case atStart => exact ⟨rfl, rfl, rfl⟩
      case round =>
        obtain ⟨rfl, rfl, rfl⟩ := hrel
        go_wp2_with (fail)
        go_ret
        refine ⟨E, [], ⟨rfl, fun i hi => by omega⟩, HSR.out, HPM.out, HBA.out, .inl ⟨fun i hi => by omega, _, rfl, ?_⟩⟩
        have e : makeM ([].map (pdOf dat)) (nearN 0) (mostN 0) = headM 0 0 0 := by simp [makeM, nearN, mostN, rowsM]
        rw [e]
        exact HROW.out
end Sy
end Go.Proofs.Ytkmbeohheblhhaa
