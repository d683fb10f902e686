/- The walk of the law FaceNumbers. -/
import Derived.Test.YtfocjagkhoonmaaFaceSpeak
namespace Go.Proofs.Ytfocjagkhoonmaa
open Go.RowKit
namespace Fo
open Vw Wr

set_option maxRecDepth 100000 in
set_option maxHeartbeats 8000000 in
theorem faceNumbers_walk (g u m : Int) (w : World) (hg : 0 ≤ g ∧ g ≤ 65535) (hu : 0 ≤ u ∧ u ≤ 65535) (hm : 0 ≤ m ∧ m ≤ 65535) :
    Calls Try.prog 7 #[.int .u16 g, .int .u16 u, .int .u16 m] w fun e w' => e = .returned (.bool true) ∧ Below w.heap.size w w' := by
  obtain ⟨g0, g1⟩ := hg
  obtain ⟨u0, u1⟩ := hu
  obtain ⟨m0, m1⟩ := hm
  have HP := Bas.hid (fun w' => plain_any g u m w' (by omega) (by omega) (by omega))
  by_cases q0 : g < 1
  · have hfl : faceL (maxpL g) (headL u) (hheaL m) = none := by rw [plain_face g u m ⟨g0, g1⟩ ⟨u0, u1⟩ ⟨m0, m1⟩, if_neg (by omega)]
    have HFL := Bas.hid hfl
    have t0 : decide (g < 1) = true := by simpa using q0
    clear hfl q0
    go_enter Try.func7, Try.ntmps7
    go_wp2_with (fail)
    refine (fspeaks_any _).mono ?_
    rintro e w0 ⟨rfl, hb0⟩
    have HB0 := Bas.hid hb0
    clear hb0
    go_wp2_with (fail)
    refine (HP.out w0).mono ?_
    rintro e w1 ⟨G, r0, r1, r2, rfl, ho, hb1⟩
    have HM := Bas.hid (plain_made g u m G r0 r1 r2 _ w1 ho)
    have HB1 := Bas.hid (HB0.out.trans (hb1.mono HB0.out.size))
    clear hb1 ho HP HB0
    go_wp2_with (fail)
    refine HM.out.mono ?_
    rintro e w2 ⟨c, cap, bs, rfl, h1, h2, hv, hF, -, hb2⟩
    have HR := Bas.hid (plain_read g u m (some ⟨c, 0, none⟩) cap bs w2 h1 h2 hv hF)
    have HB2 := Bas.hid (HB1.out.trans (hb2.mono HB1.out.size))
    clear hb2 hv hF HM HB1 h1 h2
    go_wp2_with (fail)
    refine HR.out.mono ?_
    rintro e w3 ⟨hb3, rfl⟩
    rw [HFL.out]
    have HB3 := Bas.hid (HB2.out.trans (hb3.mono HB2.out.size))
    clear hb3 HR HB2
    simp only [Option.getD_none, Option.isSome_none, Bool.false_eq_true, if_false]
    have HB4 := Bas.hid (HB3.out.alloc HB3.out.size (.cells #[.int .i64 0, .int .i64 0, .int .i64 0] 63))
    go_wp2_with (fail)
    go_ret
    exact ⟨rfl, HB4.out⟩
  by_cases q1 : u < 16
  · have hfl : faceL (maxpL g) (headL u) (hheaL m) = none := by rw [plain_face g u m ⟨g0, g1⟩ ⟨u0, u1⟩ ⟨m0, m1⟩, if_neg (by omega)]
    have HFL := Bas.hid hfl
    have t0 : decide (g < 1) = false := by simpa using q0
    have t1 : decide (u < 16) = true := by simpa using q1
    clear hfl q0 q1
    go_enter Try.func7, Try.ntmps7
    go_wp2_with (fail)
    refine (fspeaks_any _).mono ?_
    rintro e w0 ⟨rfl, hb0⟩
    have HB0 := Bas.hid hb0
    clear hb0
    go_wp2_with (fail)
    refine (HP.out w0).mono ?_
    rintro e w1 ⟨G, r0, r1, r2, rfl, ho, hb1⟩
    have HM := Bas.hid (plain_made g u m G r0 r1 r2 _ w1 ho)
    have HB1 := Bas.hid (HB0.out.trans (hb1.mono HB0.out.size))
    clear hb1 ho HP HB0
    go_wp2_with (fail)
    refine HM.out.mono ?_
    rintro e w2 ⟨c, cap, bs, rfl, h1, h2, hv, hF, -, hb2⟩
    have HR := Bas.hid (plain_read g u m (some ⟨c, 0, none⟩) cap bs w2 h1 h2 hv hF)
    have HB2 := Bas.hid (HB1.out.trans (hb2.mono HB1.out.size))
    clear hb2 hv hF HM HB1 h1 h2
    go_wp2_with (fail)
    refine HR.out.mono ?_
    rintro e w3 ⟨hb3, rfl⟩
    rw [HFL.out]
    have HB3 := Bas.hid (HB2.out.trans (hb3.mono HB2.out.size))
    clear hb3 HR HB2
    simp only [Option.getD_none, Option.isSome_none, Bool.false_eq_true, if_false]
    have HB4 := Bas.hid (HB3.out.alloc HB3.out.size (.cells #[.int .i64 0, .int .i64 0, .int .i64 0] 63))
    go_wp2_with (fail)
    go_ret
    exact ⟨rfl, HB4.out⟩
  by_cases q2 : 16384 < u
  · have hfl : faceL (maxpL g) (headL u) (hheaL m) = none := by rw [plain_face g u m ⟨g0, g1⟩ ⟨u0, u1⟩ ⟨m0, m1⟩, if_neg (by omega)]
    have HFL := Bas.hid hfl
    have t0 : decide (g < 1) = false := by simpa using q0
    have t1 : decide (u < 16) = false := by simpa using q1
    have t2 : decide (16384 < u) = true := by simpa using q2
    clear hfl q0 q1 q2
    go_enter Try.func7, Try.ntmps7
    go_wp2_with (fail)
    refine (fspeaks_any _).mono ?_
    rintro e w0 ⟨rfl, hb0⟩
    have HB0 := Bas.hid hb0
    clear hb0
    go_wp2_with (fail)
    refine (HP.out w0).mono ?_
    rintro e w1 ⟨G, r0, r1, r2, rfl, ho, hb1⟩
    have HM := Bas.hid (plain_made g u m G r0 r1 r2 _ w1 ho)
    have HB1 := Bas.hid (HB0.out.trans (hb1.mono HB0.out.size))
    clear hb1 ho HP HB0
    go_wp2_with (fail)
    refine HM.out.mono ?_
    rintro e w2 ⟨c, cap, bs, rfl, h1, h2, hv, hF, -, hb2⟩
    have HR := Bas.hid (plain_read g u m (some ⟨c, 0, none⟩) cap bs w2 h1 h2 hv hF)
    have HB2 := Bas.hid (HB1.out.trans (hb2.mono HB1.out.size))
    clear hb2 hv hF HM HB1 h1 h2
    go_wp2_with (fail)
    refine HR.out.mono ?_
    rintro e w3 ⟨hb3, rfl⟩
    rw [HFL.out]
    have HB3 := Bas.hid (HB2.out.trans (hb3.mono HB2.out.size))
    clear hb3 HR HB2
    simp only [Option.getD_none, Option.isSome_none, Bool.false_eq_true, if_false]
    have HB4 := Bas.hid (HB3.out.alloc HB3.out.size (.cells #[.int .i64 0, .int .i64 0, .int .i64 0] 63))
    go_wp2_with (fail)
    go_ret
    exact ⟨rfl, HB4.out⟩
  by_cases q3 : m < 1
  · have hfl : faceL (maxpL g) (headL u) (hheaL m) = none := by rw [plain_face g u m ⟨g0, g1⟩ ⟨u0, u1⟩ ⟨m0, m1⟩, if_neg (by omega)]
    have HFL := Bas.hid hfl
    have t0 : decide (g < 1) = false := by simpa using q0
    have t1 : decide (u < 16) = false := by simpa using q1
    have t2 : decide (16384 < u) = false := by simpa using q2
    have t3 : decide (m < 1) = true := by simpa using q3
    clear hfl q0 q1 q2 q3
    go_enter Try.func7, Try.ntmps7
    go_wp2_with (fail)
    refine (fspeaks_any _).mono ?_
    rintro e w0 ⟨rfl, hb0⟩
    have HB0 := Bas.hid hb0
    clear hb0
    go_wp2_with (fail)
    refine (HP.out w0).mono ?_
    rintro e w1 ⟨G, r0, r1, r2, rfl, ho, hb1⟩
    have HM := Bas.hid (plain_made g u m G r0 r1 r2 _ w1 ho)
    have HB1 := Bas.hid (HB0.out.trans (hb1.mono HB0.out.size))
    clear hb1 ho HP HB0
    go_wp2_with (fail)
    refine HM.out.mono ?_
    rintro e w2 ⟨c, cap, bs, rfl, h1, h2, hv, hF, -, hb2⟩
    have HR := Bas.hid (plain_read g u m (some ⟨c, 0, none⟩) cap bs w2 h1 h2 hv hF)
    have HB2 := Bas.hid (HB1.out.trans (hb2.mono HB1.out.size))
    clear hb2 hv hF HM HB1 h1 h2
    go_wp2_with (fail)
    refine HR.out.mono ?_
    rintro e w3 ⟨hb3, rfl⟩
    rw [HFL.out]
    have HB3 := Bas.hid (HB2.out.trans (hb3.mono HB2.out.size))
    clear hb3 HR HB2
    simp only [Option.getD_none, Option.isSome_none, Bool.false_eq_true, if_false]
    have HB4 := Bas.hid (HB3.out.alloc HB3.out.size (.cells #[.int .i64 0, .int .i64 0, .int .i64 0] 63))
    go_wp2_with (fail)
    go_ret
    exact ⟨rfl, HB4.out⟩
  by_cases q4 : g < m
  · have hfl : faceL (maxpL g) (headL u) (hheaL m) = none := by rw [plain_face g u m ⟨g0, g1⟩ ⟨u0, u1⟩ ⟨m0, m1⟩, if_neg (by omega)]
    have HFL := Bas.hid hfl
    have t0 : decide (g < 1) = false := by simpa using q0
    have t1 : decide (u < 16) = false := by simpa using q1
    have t2 : decide (16384 < u) = false := by simpa using q2
    have t3 : decide (m < 1) = false := by simpa using q3
    have t4 : decide (g < m) = true := by simpa using q4
    clear hfl q0 q1 q2 q3 q4
    go_enter Try.func7, Try.ntmps7
    go_wp2_with (fail)
    refine (fspeaks_any _).mono ?_
    rintro e w0 ⟨rfl, hb0⟩
    have HB0 := Bas.hid hb0
    clear hb0
    go_wp2_with (fail)
    refine (HP.out w0).mono ?_
    rintro e w1 ⟨G, r0, r1, r2, rfl, ho, hb1⟩
    have HM := Bas.hid (plain_made g u m G r0 r1 r2 _ w1 ho)
    have HB1 := Bas.hid (HB0.out.trans (hb1.mono HB0.out.size))
    clear hb1 ho HP HB0
    go_wp2_with (fail)
    refine HM.out.mono ?_
    rintro e w2 ⟨c, cap, bs, rfl, h1, h2, hv, hF, -, hb2⟩
    have HR := Bas.hid (plain_read g u m (some ⟨c, 0, none⟩) cap bs w2 h1 h2 hv hF)
    have HB2 := Bas.hid (HB1.out.trans (hb2.mono HB1.out.size))
    clear hb2 hv hF HM HB1 h1 h2
    go_wp2_with (fail)
    refine HR.out.mono ?_
    rintro e w3 ⟨hb3, rfl⟩
    rw [HFL.out]
    have HB3 := Bas.hid (HB2.out.trans (hb3.mono HB2.out.size))
    clear hb3 HR HB2
    simp only [Option.getD_none, Option.isSome_none, Bool.false_eq_true, if_false]
    have HB4 := Bas.hid (HB3.out.alloc HB3.out.size (.cells #[.int .i64 0, .int .i64 0, .int .i64 0] 63))
    go_wp2_with (fail)
    go_ret
    exact ⟨rfl, HB4.out⟩
  have hfl : faceL (maxpL g) (headL u) (hheaL m) = some (g, u, m) := by rw [plain_face g u m ⟨g0, g1⟩ ⟨u0, u1⟩ ⟨m0, m1⟩, if_pos (by omega)]
  have HFL := Bas.hid hfl
  have t0 : decide (g < 1) = false := by simpa using q0
  have t1 : decide (u < 16) = false := by simpa using q1
  have t2 : decide (16384 < u) = false := by simpa using q2
  have t3 : decide (m < 1) = false := by simpa using q3
  have t4 : decide (g < m) = false := by simpa using q4
  clear hfl q0 q1 q2 q3 q4
  go_enter Try.func7, Try.ntmps7
  go_wp2_with (fail)
  refine (fspeaks_any _).mono ?_
  rintro e w0 ⟨rfl, hb0⟩
  have HB0 := Bas.hid hb0
  clear hb0
  go_wp2_with (fail)
  refine (HP.out w0).mono ?_
  rintro e w1 ⟨G, r0, r1, r2, rfl, ho, hb1⟩
  have HM := Bas.hid (plain_made g u m G r0 r1 r2 _ w1 ho)
  have HB1 := Bas.hid (HB0.out.trans (hb1.mono HB0.out.size))
  clear hb1 ho HP HB0
  go_wp2_with (fail)
  refine HM.out.mono ?_
  rintro e w2 ⟨c, cap, bs, rfl, h1, h2, hv, hF, -, hb2⟩
  have HR := Bas.hid (plain_read g u m (some ⟨c, 0, none⟩) cap bs w2 h1 h2 hv hF)
  have HB2 := Bas.hid (HB1.out.trans (hb2.mono HB1.out.size))
  clear hb2 hv hF HM HB1 h1 h2
  go_wp2_with (fail)
  refine HR.out.mono ?_
  rintro e w3 ⟨hb3, rfl⟩
  rw [HFL.out]
  have HB3 := Bas.hid (HB2.out.trans (hb3.mono HB2.out.size))
  clear hb3 HR HB2
  simp only [Option.getD_some, Option.isSome_some, if_true]
  have HB4 := Bas.hid (HB3.out.alloc HB3.out.size (.cells #[.int .i64 g, .int .i64 u, .int .i64 m] 63))
  go_wp2_with (fail)
  go_ret
  exact ⟨rfl, HB4.out⟩

theorem faceNumbers_law (g u m : Int) (w : World) (hg : (Lit.int .u16 g).wf = true) (hu : (Lit.int .u16 u).wf = true) (hm : (Lit.int .u16 m).wf = true) :
    Calls Try.prog 7 #[.int .u16 g, .int .u16 u, .int .u16 m] w fun e w' => e = .returned (.bool true) ∧ Below w.heap.size w w' :=
  faceNumbers_walk g u m w (Bas.wf_u16 hg) (Bas.wf_u16 hu) (Bas.wf_u16 hm)
end Fo
end Go.Proofs.Ytfocjagkhoonmaa
