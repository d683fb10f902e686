/- The walk of the law ViewCuts. -/
import Derived.Test.YtakpppgikgimnaaViewCutsB
import Derived.Test.YtakpppgikgimnaaSl
import Derived.Test.YtakpppgikgimnaaArr
namespace Go.Proofs.Ytakpppgikgimnaa
open Go.RowKit
namespace Vw
open Ref01

theorem cuts_0 (a : Option Addr) (len cap : Nat) (bs : List Int) (o0 o1 o2 : Int) (w : World) (hl : len ≤ cap) (hc : cap ≤ maxLen) (hv : VB w a bs) (hbl : bs.length = len) (f : 0 ≤ o0 ∧ 0 ≤ o1 ∧ o0 + o1 ≤ len) :
    Calls Try.prog 50 #[.slice a len cap, .int .i64 0, .agg #[.int .i64 o0, .int .i64 o1, .int .i64 o2]] w (CutPost w true o1.toNat ((bs.drop o0.toNat).take o1.toNat)) :=
  cut_try a len cap bs 0 o0 o1 o2 true _ _ w hv fun W bb bk b3 bo bn bt hvW n1 n2 n3 c1 c2 c3 c4 c5 c6 c7 c8 c9 c10 => cut1_yes0 a len cap bs o0 o1 o2 bb bk b3 bo bn bt W hl hc hvW hbl c1 c2 c3 c4 c5 c6 c7 c8 c9 n1 n2 n3 c10 f _ _ _ rfl rfl rfl
theorem cuts_n0 (a : Option Addr) (len cap : Nat) (bs : List Int) (o0 o1 o2 : Int) (w : World) (hl : len ≤ cap) (hc : cap ≤ maxLen) (hv : VB w a bs) (f : ¬ (0 ≤ o0 ∧ 0 ≤ o1 ∧ o0 + o1 ≤ len)) :
    Calls Try.prog 50 #[.slice a len cap, .int .i64 0, .agg #[.int .i64 o0, .int .i64 o1, .int .i64 o2]] w (CutPost w false 0 []) :=
  cut_try a len cap bs 0 o0 o1 o2 false _ _ w hv fun W bb bk b3 bo bn bt _ _ _ _ c1 c2 c3 c4 c5 c6 c7 c8 c9 c10 => cut1_no0 a len cap o0 o1 o2 bb bk b3 bo bn bt W hl hc c1 c2 c3 c4 c5 c6 c7 c8 c9 c10 _ _ f
theorem cuts_1 (a : Option Addr) (len cap : Nat) (bs : List Int) (o0 o1 o2 : Int) (w : World) (hl : len ≤ cap) (hc : cap ≤ maxLen) (hv : VB w a bs) (hbl : bs.length = len) (f : 0 ≤ o0 ∧ o0 ≤ len) :
    Calls Try.prog 50 #[.slice a len cap, .int .i64 1, .agg #[.int .i64 o0, .int .i64 o1, .int .i64 o2]] w (CutPost w true (len - o0.toNat) ((bs.drop o0.toNat).take (len - o0.toNat))) :=
  cut_try a len cap bs 1 o0 o1 o2 true _ _ w hv fun W bb bk b3 bo bn bt hvW n1 n2 n3 c1 c2 c3 c4 c5 c6 c7 c8 c9 c10 => cut1_yes1 a len cap bs o0 o1 o2 bb bk b3 bo bn bt W hl hc hvW hbl c1 c2 c3 c4 c5 c6 c7 c8 c9 n1 n2 n3 c10 f _ _ _ rfl rfl rfl
theorem cuts_n1 (a : Option Addr) (len cap : Nat) (bs : List Int) (o0 o1 o2 : Int) (w : World) (hl : len ≤ cap) (hc : cap ≤ maxLen) (hv : VB w a bs) (f : ¬ (0 ≤ o0 ∧ o0 ≤ len)) :
    Calls Try.prog 50 #[.slice a len cap, .int .i64 1, .agg #[.int .i64 o0, .int .i64 o1, .int .i64 o2]] w (CutPost w false 0 []) :=
  cut_try a len cap bs 1 o0 o1 o2 false _ _ w hv fun W bb bk b3 bo bn bt _ _ _ _ c1 c2 c3 c4 c5 c6 c7 c8 c9 c10 => cut1_no1 a len cap o0 o1 o2 bb bk b3 bo bn bt W hl hc c1 c2 c3 c4 c5 c6 c7 c8 c9 c10 _ _ f
theorem cuts_2 (a : Option Addr) (len cap : Nat) (bs : List Int) (o0 o1 o2 : Int) (w : World) (hl : len ≤ cap) (hc : cap ≤ maxLen) (hv : VB w a bs) (hbl : bs.length = len) (f : rowsB len o0 o1 o2) :
    Calls Try.prog 50 #[.slice a len cap, .int .i64 2, .agg #[.int .i64 o0, .int .i64 o1, .int .i64 o2]] w (CutPost w true (o1 * o2).toNat ((bs.drop o0.toNat).take (o1 * o2).toNat)) :=
  cut_try a len cap bs 2 o0 o1 o2 true _ _ w hv fun W bb bk b3 bo bn bt hvW n1 n2 n3 c1 c2 c3 c4 c5 c6 c7 c8 c9 c10 => cut1_yes2 a len cap bs o0 o1 o2 bb bk b3 bo bn bt W hl hc hvW hbl c1 c2 c3 c4 c5 c6 c7 c8 c9 n1 n2 n3 c10 f _ _ _ rfl rfl rfl
theorem cuts_n2 (a : Option Addr) (len cap : Nat) (bs : List Int) (o0 o1 o2 : Int) (w : World) (hl : len ≤ cap) (hc : cap ≤ maxLen) (hv : VB w a bs) (f : ¬ rowsB len o0 o1 o2) :
    Calls Try.prog 50 #[.slice a len cap, .int .i64 2, .agg #[.int .i64 o0, .int .i64 o1, .int .i64 o2]] w (CutPost w false 0 []) :=
  cut_try a len cap bs 2 o0 o1 o2 false _ _ w hv fun W bb bk b3 bo bn bt _ _ _ _ c1 c2 c3 c4 c5 c6 c7 c8 c9 c10 => cut1_no2 a len cap o0 o1 o2 bb bk b3 bo bn bt W hl hc c1 c2 c3 c4 c5 c6 c7 c8 c9 c10 _ _ f

set_option maxHeartbeats 8000000 in
theorem viewCuts_walk (a : Option Addr) (len cap : Nat) (z : List Int) (o0 o1 o2 : Int) (w : World) (hz : Bas.IsRow .u8 w a len cap z) (_w00 : -9223372036854775808 ≤ o0) (_w01 : o0 ≤ 9223372036854775807) (_w10 : -9223372036854775808 ≤ o1) (w11 : o1 ≤ 9223372036854775807) (_w20 : -9223372036854775808 ≤ o2) (w21 : o2 ≤ 9223372036854775807) :
    Calls Try.prog 11 #[.slice a len cap, .agg #[.int .i64 o0, .int .i64 o1, .int .i64 o2]] w fun e w' => e = .returned (.bool true) ∧ Below w.heap.size w w' := by
  by_cases hbig : 1000 < len
  · have hlm : len ≤ 9223372036854775807 := by
      rcases hz with ⟨rfl, rfl, rfl, rfl⟩ | ⟨x, rfl, hl, hm, _⟩
      · omega
      · unfold maxLen at hm; omega
    clear hz
    go_enter Try.func11, Try.ntmps11
    go_wp2_with (fail)
    refine (speaks_any _).mono ?_
    rintro e w1 ⟨rfl, hb1⟩
    go_wp2_with (fail)
    go_ret
    exact ⟨rfl, Bas.on ((Below.refl w.heap.size w).alloc (Nat.le_refl _) _) hb1⟩
  obtain ⟨hv, hbl, hlc, hcm, hnil⟩ := VB_of_row hz (by omega)
  clear hz
  generalize z.take len = bs at hv hbl
  have HV := Bas.hid hv
  have hin := fun w => in_any len o0 o1 w (by omega) (by omega)
  have hrw := fun w => rows_any len o0 o1 o2 w (by omega) w11 w21
  have F0 : ((0 ≤ o0 ∧ 0 ≤ o1 ∧ o0 + o1 ≤ len) → inB len o0 o1 = true) ∧ (¬ (0 ≤ o0 ∧ 0 ≤ o1 ∧ o0 + o1 ≤ len) → inB len o0 o1 = false) := ⟨fun h => decide_eq_true h, fun h => decide_eq_false h⟩
  have F2 : (rowsB len o0 o1 o2 → rowsC len o0 o1 o2 = true) ∧ (¬ rowsB len o0 o1 o2 → rowsC len o0 o1 o2 = false) := ⟨rowsC_yes, rowsC_no⟩
  obtain ⟨f1, hf1⟩ : ∃ f1 : Bool, f1 = decide (0 ≤ o0 ∧ o0 ≤ len) := ⟨_, rfl⟩
  have F1 : ((0 ≤ o0 ∧ o0 ≤ len) → f1 = true) ∧ (¬ (0 ≤ o0 ∧ o0 ≤ len) → f1 = false) := ⟨fun h => hf1.trans (decide_eq_true h), fun h => hf1.trans (decide_eq_false h)⟩
  generalize hg0 : inB len o0 o1 = f0 at hin F0
  generalize hg2 : rowsC len o0 o1 o2 = f2 at hrw F2
  have HF0 := Bas.hid F0
  have HF1 := Bas.hid F1
  have HF2 := Bas.hid F2
  have HIN := Bas.hid hin
  have HRW := Bas.hid hrw
  have hsz : ∀ w, (Go.sizeOf 5).run Try.prog w = .ok 1 w := fun _ => by kernel_rfl
  have HSZ := Bas.hid hsz
  have HC0 := Bas.hid (fun (wr : World) (hvr : VB wr a bs) (_ : Below w.heap.size w wr) f => cuts_0 a len cap bs o0 o1 o2 wr hlc hcm hvr hbl f)
  have HC1 := Bas.hid (fun (wr : World) (hvr : VB wr a bs) (_ : Below w.heap.size w wr) f => cuts_1 a len cap bs o0 o1 o2 wr hlc hcm hvr hbl f)
  have HC2 := Bas.hid (fun (wr : World) (hvr : VB wr a bs) (_ : Below w.heap.size w wr) f => cuts_2 a len cap bs o0 o1 o2 wr hlc hcm hvr hbl f)
  have HN0 := Bas.hid (fun (wr : World) (hvr : VB wr a bs) (_ : Below w.heap.size w wr) f => cuts_n0 a len cap bs o0 o1 o2 wr hlc hcm hvr f)
  have HN1 := Bas.hid (fun (wr : World) (hvr : VB wr a bs) (_ : Below w.heap.size w wr) f => cuts_n1 a len cap bs o0 o1 o2 wr hlc hcm hvr f)
  have HN2 := Bas.hid (fun (wr : World) (hvr : VB wr a bs) (_ : Below w.heap.size w wr) f => cuts_n2 a len cap bs o0 o1 o2 wr hlc hcm hvr f)
  have HFD := Bas.hid hf1
  clear hin hrw F0 F1 F2 hf1 hg0 hg2 hsz hv hnil
  go_enter Try.func11, Try.ntmps11
  go_wp2_with (fail)
  refine (speaks_any _).mono ?_
  rintro e w1 ⟨rfl, hb1⟩
  have hs1 := hb1.size
  simp only [World.size_alloc] at hs1
  have k0 := (hb1.cell (p := ⟨w.heap.size, 0, none⟩) (by simp)).trans (by simp : _ = some (.int .i64 o0))
  have k1 := (hb1.cell (p := ⟨w.heap.size, 1, none⟩) (by simp)).trans (by simp : _ = some (.int .i64 o1))
  have k2 := (hb1.cell (p := ⟨w.heap.size, 2, none⟩) (by simp)).trans (by simp : _ = some (.int .i64 o2))
  have HB1 := Bas.hid (Bas.on ((Below.refl w.heap.size w).alloc (Nat.le_refl _) _) hb1)
  clear hb1
  go_wp2_with (fail)
  go_quiet (fail)
  have HB2 := Bas.hid (Bas.below_drewN HB1.out nq)
  have q0 : (w1.drewN nq).cell? ⟨w.heap.size, 0, none⟩ = some (.int .i64 o0) := by simp [k0]
  have q1 : (w1.drewN nq).cell? ⟨w.heap.size, 1, none⟩ = some (.int .i64 o1) := by simp [k1]
  have q2 : (w1.drewN nq).cell? ⟨w.heap.size, 2, none⟩ = some (.int .i64 o2) := by simp [k2]
  have hs2 : w.heap.size + 1 ≤ (w1.drewN nq).heap.size := by simpa using hs1
  generalize w1.drewN nq = w2 at *
  clear k0 k1 k2 HB1
  go_wp2_with (fail)
  rcases (show ¬ 0 ≤ o0 ∨ (0 ≤ o0 ∧ ¬ o0 ≤ (len : Int)) ∨ (0 ≤ o0 ∧ o0 ≤ (len : Int)) by omega) with c0 | ⟨c0, c1⟩ | ⟨c0, c1⟩
  · have dc0 : decide (0 ≤ o0) = false := by simpa using c0
    have hf1 : f1 = false := HF1.out.2 (by omega)
    have HF1b := Bas.hid hf1
    clear hf1
    obtain ⟨I, F, hI, HF⟩ := Bas.fam w2.heap.size w2
    have x0 := fun i => Bas.cell_fam HF (by omega) q0 i
    have x1 := fun i => Bas.cell_fam HF (by omega) q1 i
    have x2 := fun i => Bas.cell_fam HF (by omega) q2 i
    refine Pl.region_plan [(true, 0), (true, 1), (true, 2), (true, 3), (true, 5), (true, 6), (true, 13), (true, 14), (true, 15), (true, 16), (true, 17), (true, 18), (true, 4), (true, 7), (true, 8), (true, 9), (true, 10), (true, 11), (true, 12), (true, 19), (true, 20), (false, 21), (false, 22)] [22] (by kernel_rfl) (by kernel_rfl) (fun _ _ _ _ e h => ⟨e ▸ h.1, h.2⟩) (HF.1 _ ((Below.refl _ _).drew)) ?_
    intro i0
    refine Pl.head_sel [(true, 0), (true, 1), (true, 2), (true, 3), (true, 5), (true, 6), (true, 13), (true, 14), (true, 15), (true, 16), (true, 17), (true, 18)] (by kernel_rfl) ?_ i0
    simp only [Pl.sel, List.drop_succ_cons, List.drop_zero]
    repeat (go_big_quiet_step (fail))
    refine wpQuiet_nil ?_
    intro j0
    refine Pl.same_sel 27 (.bool f0) (by simp) (by kernel_rfl) ?_ ?_
    · intro j
      simp only [Pl.sel, List.drop_succ_cons, List.drop_zero]
      go_wp2_with (fail)
      refine (HIN.out _).mono ?_
      rintro e w' ⟨rfl, rfl⟩
      go_wp2_with (fail)
    simp only [Act.put, List.setIfInBounds_toArray, List.set_cons_zero, List.set_cons_succ]
    refine Pl.head_sel [(true, 7), (true, 8), (true, 9), (true, 10), (true, 11), (true, 12)] (by kernel_rfl) ?_ j0
    simp only [Pl.sel, List.drop_succ_cons, List.drop_zero]
    repeat (go_big_quiet_step (fail))
    refine wpQuiet_nil ?_
    intro j1
    refine Pl.same_sel 42 (.bool f2) (by simp) (by kernel_rfl) ?_ ?_
    · intro j
      simp only [Pl.sel, List.drop_succ_cons, List.drop_zero]
      go_wp2_with (fail)
      refine (HRW.out _).mono ?_
      rintro e w' ⟨rfl, rfl⟩
      go_wp2_with (fail)
    simp only [Act.put, List.setIfInBounds_toArray, List.set_cons_zero, List.set_cons_succ]
    refine Pl.head_sel [(true, 20)] (by kernel_rfl) ?_ j1
    simp only [Pl.sel, List.drop_succ_cons, List.drop_zero]
    repeat (go_big_quiet_step (fail))
    refine wpQuiet_nil ?_
    intro j2
    have hb3 := HF.2 j2
    refine Pl.one_sel (by kernel_rfl) ?_
    intro Q' hQ' hP'
    simp only [Pl.sel, List.drop_succ_cons, List.drop_zero]
    go_wp2_with (fail)
    refine hQ' _ _ (fun _ _ => HF.1 _ (hb3.alloc hb3.size _)) ?_
    clear hQ' hP' Q'
    refine Pl.tail_sel [(false, 22)] (by kernel_rfl) (by kernel_rfl) ?_
    simp only [Pl.sel, List.drop_succ_cons, List.drop_zero]
    have HBW := Bas.hid (show Below w2.heap.size w2 ((F j2).alloc (.cells #[.bool f0, .bool false, .bool f2] 61)) from hb3.alloc hb3.size _)
    go_wp2_with (fail)
    clear x0 x1 x2 HF
    have i0 : ∀ w, (Instr.index 61 (.agg #[.bool f0, .bool false, .bool f2]) (.int .i64 0)).run Try.prog w = .ok (.bool f0) w := fun _ => by kernel_rfl
    have i1 : ∀ w, (Instr.index 61 (.agg #[.bool f0, .bool false, .bool f2]) (.int .i64 1)).run Try.prog w = .ok (.bool false) w := fun _ => by kernel_rfl
    have i2 : ∀ w, (Instr.index 61 (.agg #[.bool f0, .bool false, .bool f2]) (.int .i64 2)).run Try.prog w = .ok (.bool f2) w := fun _ => by kernel_rfl
    go_loopw [45] (fun c wr => ∃ k : Nat, k ≤ 3 ∧ c = .int .i64 k ∧ Below w2.heap.size w2 wr) (fun c _ => 3 - (intOf c).toNat)
    case atStart => exact ⟨0, by omega, rfl, HBW.out⟩
    case round =>
      obtain ⟨k, hk, rfl, hbr0⟩ := hrel
      have hbw : Below w.heap.size w wr := HB2.out.trans (hbr0.mono HB2.out.size)
      have hvr := HV.out.below hbw
      have r0 := (hbr0.cell (p := ⟨w.heap.size, 0, none⟩) (by show w.heap.size < _; omega)).trans q0
      have r1 := (hbr0.cell (p := ⟨w.heap.size, 1, none⟩) (by show w.heap.size < _; omega)).trans q1
      have r2 := (hbr0.cell (p := ⟨w.heap.size, 2, none⟩) (by show w.heap.size < _; omega)).trans q2
      have l0 : w.heap.size < wr.heap.size := by have := hbr0.size; omega
      have HBWR := Bas.hid hbw
      rcases (show k = 0 ∨ k = 1 ∨ k = 2 ∨ k = 3 by omega) with rfl | rfl | rfl | rfl
      · by_cases f : 0 ≤ o0 ∧ 0 ≤ o1 ∧ o0 + o1 ≤ len
        · have hb := HF0.out.1 f
          subst hb
          have hm0 : 0 ≤ o1 ∧ o0 + (o1) ≤ len ∧ 0 ≤ o0 := by
            omega
          obtain ⟨hm1, hm2, hm3⟩ := hm0
          have C := HC0.out wr hvr hbw f
          skip
          generalize hq : o0.toNat = q at C
          generalize hm : o1.toNat = m at C
          have eq0 : o0 = (q : Int) := by omega
          have em0 : o1 = (m : Int) := by omega
          have q1 : ((m : Int) == o1) = true := by simp; omega
          have q2 : ((m : Int) != o1) = false := by simp; omega
          have hqm : q + m ≤ len := by omega
          have SL := fun W => run_sl (P := Try.prog) W 37 5 Try.underlying37 HSZ.out a len cap o0 (o0 + (o1)) q (q + m) eq0 (by omega) (by omega) (by omega)
          rw [show q + m - q = m by omega] at SL
          have hvs := Bas.hid (hvr.sl q m cap (by omega) (by omega))
          have HSL := Bas.hid SL
          have HC := Bas.hid C
          have hbr := Bas.hid hbr0
          clear C SL eq0 em0 hq hm hbr0 f hvr
          go_wp2_with (fail)
          refine HC.out.mono ?_
          rintro e w5 ⟨v, n, rfl, hb5, -, hy⟩
          obtain ⟨rfl, g, cp, rfl, hgl, hgc, hgm, hvg⟩ := hy rfl
          have hl5 : ((bs.drop q).take m).length = m := by rw [List.length_take, List.length_drop]; omega
          have e0 := (hb5.cell (p := ⟨w.heap.size, 0, none⟩) l0).trans r0
          have e1 := (hb5.cell (p := ⟨w.heap.size, 1, none⟩) l0).trans r1
          have e2 := (hb5.cell (p := ⟨w.heap.size, 2, none⟩) l0).trans r2
          have HBR := Bas.hid (Bas.on hbr.out hb5)
          have HVG := Bas.hid hvg
          have HVS := Bas.hid (hvs.out.below hb5)
          clear hb5 hy hvg r0 r1 r2
          have HL5 := Bas.hid hl5
          clear hl5
          go_wp2_with (fail)
          have SL := HSL.out
          have sg1 : wrap64 (o0 + (o1)) = o0 + (o1) := IntWalk.wrap64_in _ ⟨by omega, by omega⟩
          have sg2 : IntKind.i64.wrap (o0 + (o1)) = o0 + (o1) := IntWalk.i64_in _ ⟨by omega, by omega⟩
          have sg3 : 0 ≤ o0 + (o1) := by omega
          have sg4 : o0 ≤ o0 + (o1) := by omega
          have sg5 : o0 + (o1) ≤ (cap : Int) := by omega
          have cv1 := fun n' => conv_vb (HVG.out.below (Bas.below_drewN (Below.refl _ _) n')) _ cp HL5.out
          have cv2 := fun n' => conv_vb (HVS.out.below (Bas.below_drewN (Below.refl _ _) n')) _ (cap - q) HL5.out
          go_quiet (fail)
          clear cv1 cv2 SL sg1 sg2 sg3 sg4 sg5
          go_wp2_with (fail)
          go_roundw
          case rel => exact ⟨1, by omega, by go_num, Bas.below_drewN HBR.out _⟩
          case measure => simp [intOf]
        · have hb := HF0.out.2 f
          subst hb
          have C := HN0.out wr hvr hbw f
          have hbr := Bas.hid hbr0
          have HC := Bas.hid C
          clear C hbr0 f hvr
          go_wp2_with (fail)
          refine HC.out.mono ?_
          rintro e w5 ⟨v, n, rfl, hb5, hy, -⟩
          obtain ⟨rfl, rfl⟩ := hy rfl
          have HBR := Bas.hid (Bas.on hbr.out hb5)
          clear hb5 hy r0 r1 r2
          go_wp2_with (fail)
          go_roundw
          case rel => exact ⟨1, by omega, by go_num, HBR.out⟩
          case measure => simp [intOf]
      · have f : ¬ (0 ≤ o0 ∧ o0 ≤ len) := by omega
        have C := HN1.out wr hvr hbw f
        have hbr := Bas.hid hbr0
        have HC := Bas.hid C
        clear C hbr0 f hvr
        go_wp2_with (fail)
        refine HC.out.mono ?_
        rintro e w5 ⟨v, n, rfl, hb5, hy, -⟩
        obtain ⟨rfl, rfl⟩ := hy rfl
        have HBR := Bas.hid (Bas.on hbr.out hb5)
        clear hb5 hy r0 r1 r2
        go_wp2_with (fail)
        go_roundw
        case rel => exact ⟨2, by omega, by go_num, HBR.out⟩
        case measure => simp [intOf]
      · by_cases f : rowsB len o0 o1 o2
        · have hb := HF2.out.1 f
          subst hb
          have hm0 : 0 ≤ o1 * o2 ∧ o0 + (o1 * o2) ≤ len ∧ 0 ≤ o0 := by
            obtain ⟨f1, f2, f3, f4, f5⟩ := f; exact ⟨Int.mul_nonneg f1 f2, f5, f4⟩
          obtain ⟨hm1, hm2, hm3⟩ := hm0
          have C := HC2.out wr hvr hbw f
          have hw : wrap64 (o1 * o2) = o1 * o2 := IntWalk.wrap64_in _ ⟨by omega, by omega⟩
          generalize hq : o0.toNat = q at C
          generalize hm : (o1 * o2).toNat = m at C
          have eq0 : o0 = (q : Int) := by omega
          have em0 : o1 * o2 = (m : Int) := by omega
          have q1 : ((m : Int) == o1 * o2) = true := by simp; omega
          have q2 : ((m : Int) != o1 * o2) = false := by simp; omega
          have hqm : q + m ≤ len := by omega
          have SL := fun W => run_sl (P := Try.prog) W 37 5 Try.underlying37 HSZ.out a len cap o0 (o0 + (o1 * o2)) q (q + m) eq0 (by omega) (by omega) (by omega)
          rw [show q + m - q = m by omega] at SL
          have hvs := Bas.hid (hvr.sl q m cap (by omega) (by omega))
          have HSL := Bas.hid SL
          have HC := Bas.hid C
          have hbr := Bas.hid hbr0
          clear C SL eq0 em0 hq hm hbr0 f hvr
          go_wp2_with (fail)
          refine HC.out.mono ?_
          rintro e w5 ⟨v, n, rfl, hb5, -, hy⟩
          obtain ⟨rfl, g, cp, rfl, hgl, hgc, hgm, hvg⟩ := hy rfl
          have hl5 : ((bs.drop q).take m).length = m := by rw [List.length_take, List.length_drop]; omega
          have e0 := (hb5.cell (p := ⟨w.heap.size, 0, none⟩) l0).trans r0
          have e1 := (hb5.cell (p := ⟨w.heap.size, 1, none⟩) l0).trans r1
          have e2 := (hb5.cell (p := ⟨w.heap.size, 2, none⟩) l0).trans r2
          have HBR := Bas.hid (Bas.on hbr.out hb5)
          have HVG := Bas.hid hvg
          have HVS := Bas.hid (hvs.out.below hb5)
          clear hb5 hy hvg r0 r1 r2
          have HL5 := Bas.hid hl5
          clear hl5
          go_wp2_with (fail)
          have SL := HSL.out
          have sg1 : wrap64 (o0 + (o1 * o2)) = o0 + (o1 * o2) := IntWalk.wrap64_in _ ⟨by omega, by omega⟩
          have sg2 : IntKind.i64.wrap (o0 + (o1 * o2)) = o0 + (o1 * o2) := IntWalk.i64_in _ ⟨by omega, by omega⟩
          have sg3 : 0 ≤ o0 + (o1 * o2) := by omega
          have sg4 : o0 ≤ o0 + (o1 * o2) := by omega
          have sg5 : o0 + (o1 * o2) ≤ (cap : Int) := by omega
          have cv1 := fun n' => conv_vb (HVG.out.below (Bas.below_drewN (Below.refl _ _) n')) _ cp HL5.out
          have cv2 := fun n' => conv_vb (HVS.out.below (Bas.below_drewN (Below.refl _ _) n')) _ (cap - q) HL5.out
          go_quiet (fail)
          clear cv1 cv2 SL sg1 sg2 sg3 sg4 sg5
          go_wp2_with (fail)
          go_roundw
          case rel => exact ⟨3, by omega, by go_num, Bas.below_drewN HBR.out _⟩
          case measure => simp [intOf]
        · have hb := HF2.out.2 f
          subst hb
          have C := HN2.out wr hvr hbw f
          have hbr := Bas.hid hbr0
          have HC := Bas.hid C
          clear C hbr0 f hvr
          go_wp2_with (fail)
          refine HC.out.mono ?_
          rintro e w5 ⟨v, n, rfl, hb5, hy, -⟩
          obtain ⟨rfl, rfl⟩ := hy rfl
          have HBR := Bas.hid (Bas.on hbr.out hb5)
          clear hb5 hy r0 r1 r2
          go_wp2_with (fail)
          go_roundw
          case rel => exact ⟨3, by omega, by go_num, HBR.out⟩
          case measure => simp [intOf]
      · clear hvr hbr0
        go_wp2_with (fail)
        go_ret
        exact ⟨rfl, HBWR.out⟩
  · have dc0 : decide (0 ≤ o0) = true := by simpa using c0
    have dc1 : decide (o0 ≤ (len : Int)) = false := by simpa using c1
    have hf1 : f1 = false := HF1.out.2 (by omega)
    have HF1b := Bas.hid hf1
    clear hf1
    obtain ⟨I, F, hI, HF⟩ := Bas.fam w2.heap.size w2
    have x0 := fun i => Bas.cell_fam HF (by omega) q0 i
    have x1 := fun i => Bas.cell_fam HF (by omega) q1 i
    have x2 := fun i => Bas.cell_fam HF (by omega) q2 i
    refine Pl.region_plan [(true, 0), (true, 1), (true, 2), (true, 3), (true, 5), (true, 6), (true, 13), (true, 14), (true, 15), (true, 16), (true, 17), (true, 18), (true, 4), (true, 7), (true, 8), (true, 9), (true, 10), (true, 11), (true, 12), (true, 19), (true, 20), (false, 21), (false, 22)] [22] (by kernel_rfl) (by kernel_rfl) (fun _ _ _ _ e h => ⟨e ▸ h.1, h.2⟩) (HF.1 _ ((Below.refl _ _).drew)) ?_
    intro i0
    refine Pl.head_sel [(true, 0), (true, 1), (true, 2), (true, 3), (true, 5), (true, 6), (true, 13), (true, 14), (true, 15), (true, 16), (true, 17), (true, 18)] (by kernel_rfl) ?_ i0
    simp only [Pl.sel, List.drop_succ_cons, List.drop_zero]
    repeat (go_big_quiet_step (fail))
    refine wpQuiet_nil ?_
    intro j0
    refine Pl.same_sel 27 (.bool f0) (by simp) (by kernel_rfl) ?_ ?_
    · intro j
      simp only [Pl.sel, List.drop_succ_cons, List.drop_zero]
      go_wp2_with (fail)
      refine (HIN.out _).mono ?_
      rintro e w' ⟨rfl, rfl⟩
      go_wp2_with (fail)
    simp only [Act.put, List.setIfInBounds_toArray, List.set_cons_zero, List.set_cons_succ]
    refine Pl.head_sel [(true, 7), (true, 8), (true, 9), (true, 10), (true, 11), (true, 12)] (by kernel_rfl) ?_ j0
    simp only [Pl.sel, List.drop_succ_cons, List.drop_zero]
    repeat (go_big_quiet_step (fail))
    refine wpQuiet_nil ?_
    intro j1
    refine Pl.same_sel 42 (.bool f2) (by simp) (by kernel_rfl) ?_ ?_
    · intro j
      simp only [Pl.sel, List.drop_succ_cons, List.drop_zero]
      go_wp2_with (fail)
      refine (HRW.out _).mono ?_
      rintro e w' ⟨rfl, rfl⟩
      go_wp2_with (fail)
    simp only [Act.put, List.setIfInBounds_toArray, List.set_cons_zero, List.set_cons_succ]
    refine Pl.head_sel [(true, 20)] (by kernel_rfl) ?_ j1
    simp only [Pl.sel, List.drop_succ_cons, List.drop_zero]
    repeat (go_big_quiet_step (fail))
    refine wpQuiet_nil ?_
    intro j2
    have hb3 := HF.2 j2
    refine Pl.one_sel (by kernel_rfl) ?_
    intro Q' hQ' hP'
    simp only [Pl.sel, List.drop_succ_cons, List.drop_zero]
    go_wp2_with (fail)
    refine hQ' _ _ (fun _ _ => HF.1 _ (hb3.alloc hb3.size _)) ?_
    clear hQ' hP' Q'
    refine Pl.tail_sel [(false, 22)] (by kernel_rfl) (by kernel_rfl) ?_
    simp only [Pl.sel, List.drop_succ_cons, List.drop_zero]
    have HBW := Bas.hid (show Below w2.heap.size w2 ((F j2).alloc (.cells #[.bool f0, .bool false, .bool f2] 61)) from hb3.alloc hb3.size _)
    go_wp2_with (fail)
    clear x0 x1 x2 HF
    have i0 : ∀ w, (Instr.index 61 (.agg #[.bool f0, .bool false, .bool f2]) (.int .i64 0)).run Try.prog w = .ok (.bool f0) w := fun _ => by kernel_rfl
    have i1 : ∀ w, (Instr.index 61 (.agg #[.bool f0, .bool false, .bool f2]) (.int .i64 1)).run Try.prog w = .ok (.bool false) w := fun _ => by kernel_rfl
    have i2 : ∀ w, (Instr.index 61 (.agg #[.bool f0, .bool false, .bool f2]) (.int .i64 2)).run Try.prog w = .ok (.bool f2) w := fun _ => by kernel_rfl
    go_loopw [45] (fun c wr => ∃ k : Nat, k ≤ 3 ∧ c = .int .i64 k ∧ Below w2.heap.size w2 wr) (fun c _ => 3 - (intOf c).toNat)
    case atStart => exact ⟨0, by omega, rfl, HBW.out⟩
    case round =>
      obtain ⟨k, hk, rfl, hbr0⟩ := hrel
      have hbw : Below w.heap.size w wr := HB2.out.trans (hbr0.mono HB2.out.size)
      have hvr := HV.out.below hbw
      have r0 := (hbr0.cell (p := ⟨w.heap.size, 0, none⟩) (by show w.heap.size < _; omega)).trans q0
      have r1 := (hbr0.cell (p := ⟨w.heap.size, 1, none⟩) (by show w.heap.size < _; omega)).trans q1
      have r2 := (hbr0.cell (p := ⟨w.heap.size, 2, none⟩) (by show w.heap.size < _; omega)).trans q2
      have l0 : w.heap.size < wr.heap.size := by have := hbr0.size; omega
      have HBWR := Bas.hid hbw
      rcases (show k = 0 ∨ k = 1 ∨ k = 2 ∨ k = 3 by omega) with rfl | rfl | rfl | rfl
      · by_cases f : 0 ≤ o0 ∧ 0 ≤ o1 ∧ o0 + o1 ≤ len
        · have hb := HF0.out.1 f
          subst hb
          have hm0 : 0 ≤ o1 ∧ o0 + (o1) ≤ len ∧ 0 ≤ o0 := by
            omega
          obtain ⟨hm1, hm2, hm3⟩ := hm0
          have C := HC0.out wr hvr hbw f
          skip
          generalize hq : o0.toNat = q at C
          generalize hm : o1.toNat = m at C
          have eq0 : o0 = (q : Int) := by omega
          have em0 : o1 = (m : Int) := by omega
          have q1 : ((m : Int) == o1) = true := by simp; omega
          have q2 : ((m : Int) != o1) = false := by simp; omega
          have hqm : q + m ≤ len := by omega
          have SL := fun W => run_sl (P := Try.prog) W 37 5 Try.underlying37 HSZ.out a len cap o0 (o0 + (o1)) q (q + m) eq0 (by omega) (by omega) (by omega)
          rw [show q + m - q = m by omega] at SL
          have hvs := Bas.hid (hvr.sl q m cap (by omega) (by omega))
          have HSL := Bas.hid SL
          have HC := Bas.hid C
          have hbr := Bas.hid hbr0
          clear C SL eq0 em0 hq hm hbr0 f hvr
          go_wp2_with (fail)
          refine HC.out.mono ?_
          rintro e w5 ⟨v, n, rfl, hb5, -, hy⟩
          obtain ⟨rfl, g, cp, rfl, hgl, hgc, hgm, hvg⟩ := hy rfl
          have hl5 : ((bs.drop q).take m).length = m := by rw [List.length_take, List.length_drop]; omega
          have e0 := (hb5.cell (p := ⟨w.heap.size, 0, none⟩) l0).trans r0
          have e1 := (hb5.cell (p := ⟨w.heap.size, 1, none⟩) l0).trans r1
          have e2 := (hb5.cell (p := ⟨w.heap.size, 2, none⟩) l0).trans r2
          have HBR := Bas.hid (Bas.on hbr.out hb5)
          have HVG := Bas.hid hvg
          have HVS := Bas.hid (hvs.out.below hb5)
          clear hb5 hy hvg r0 r1 r2
          have HL5 := Bas.hid hl5
          clear hl5
          go_wp2_with (fail)
          have SL := HSL.out
          have sg1 : wrap64 (o0 + (o1)) = o0 + (o1) := IntWalk.wrap64_in _ ⟨by omega, by omega⟩
          have sg2 : IntKind.i64.wrap (o0 + (o1)) = o0 + (o1) := IntWalk.i64_in _ ⟨by omega, by omega⟩
          have sg3 : 0 ≤ o0 + (o1) := by omega
          have sg4 : o0 ≤ o0 + (o1) := by omega
          have sg5 : o0 + (o1) ≤ (cap : Int) := by omega
          have cv1 := fun n' => conv_vb (HVG.out.below (Bas.below_drewN (Below.refl _ _) n')) _ cp HL5.out
          have cv2 := fun n' => conv_vb (HVS.out.below (Bas.below_drewN (Below.refl _ _) n')) _ (cap - q) HL5.out
          go_quiet (fail)
          clear cv1 cv2 SL sg1 sg2 sg3 sg4 sg5
          go_wp2_with (fail)
          go_roundw
          case rel => exact ⟨1, by omega, by go_num, Bas.below_drewN HBR.out _⟩
          case measure => simp [intOf]
        · have hb := HF0.out.2 f
          subst hb
          have C := HN0.out wr hvr hbw f
          have hbr := Bas.hid hbr0
          have HC := Bas.hid C
          clear C hbr0 f hvr
          go_wp2_with (fail)
          refine HC.out.mono ?_
          rintro e w5 ⟨v, n, rfl, hb5, hy, -⟩
          obtain ⟨rfl, rfl⟩ := hy rfl
          have HBR := Bas.hid (Bas.on hbr.out hb5)
          clear hb5 hy r0 r1 r2
          go_wp2_with (fail)
          go_roundw
          case rel => exact ⟨1, by omega, by go_num, HBR.out⟩
          case measure => simp [intOf]
      · have f : ¬ (0 ≤ o0 ∧ o0 ≤ len) := by omega
        have C := HN1.out wr hvr hbw f
        have hbr := Bas.hid hbr0
        have HC := Bas.hid C
        clear C hbr0 f hvr
        go_wp2_with (fail)
        refine HC.out.mono ?_
        rintro e w5 ⟨v, n, rfl, hb5, hy, -⟩
        obtain ⟨rfl, rfl⟩ := hy rfl
        have HBR := Bas.hid (Bas.on hbr.out hb5)
        clear hb5 hy r0 r1 r2
        go_wp2_with (fail)
        go_roundw
        case rel => exact ⟨2, by omega, by go_num, HBR.out⟩
        case measure => simp [intOf]
      · by_cases f : rowsB len o0 o1 o2
        · have hb := HF2.out.1 f
          subst hb
          have hm0 : 0 ≤ o1 * o2 ∧ o0 + (o1 * o2) ≤ len ∧ 0 ≤ o0 := by
            obtain ⟨f1, f2, f3, f4, f5⟩ := f; exact ⟨Int.mul_nonneg f1 f2, f5, f4⟩
          obtain ⟨hm1, hm2, hm3⟩ := hm0
          have C := HC2.out wr hvr hbw f
          have hw : wrap64 (o1 * o2) = o1 * o2 := IntWalk.wrap64_in _ ⟨by omega, by omega⟩
          generalize hq : o0.toNat = q at C
          generalize hm : (o1 * o2).toNat = m at C
          have eq0 : o0 = (q : Int) := by omega
          have em0 : o1 * o2 = (m : Int) := by omega
          have q1 : ((m : Int) == o1 * o2) = true := by simp; omega
          have q2 : ((m : Int) != o1 * o2) = false := by simp; omega
          have hqm : q + m ≤ len := by omega
          have SL := fun W => run_sl (P := Try.prog) W 37 5 Try.underlying37 HSZ.out a len cap o0 (o0 + (o1 * o2)) q (q + m) eq0 (by omega) (by omega) (by omega)
          rw [show q + m - q = m by omega] at SL
          have hvs := Bas.hid (hvr.sl q m cap (by omega) (by omega))
          have HSL := Bas.hid SL
          have HC := Bas.hid C
          have hbr := Bas.hid hbr0
          clear C SL eq0 em0 hq hm hbr0 f hvr
          go_wp2_with (fail)
          refine HC.out.mono ?_
          rintro e w5 ⟨v, n, rfl, hb5, -, hy⟩
          obtain ⟨rfl, g, cp, rfl, hgl, hgc, hgm, hvg⟩ := hy rfl
          have hl5 : ((bs.drop q).take m).length = m := by rw [List.length_take, List.length_drop]; omega
          have e0 := (hb5.cell (p := ⟨w.heap.size, 0, none⟩) l0).trans r0
          have e1 := (hb5.cell (p := ⟨w.heap.size, 1, none⟩) l0).trans r1
          have e2 := (hb5.cell (p := ⟨w.heap.size, 2, none⟩) l0).trans r2
          have HBR := Bas.hid (Bas.on hbr.out hb5)
          have HVG := Bas.hid hvg
          have HVS := Bas.hid (hvs.out.below hb5)
          clear hb5 hy hvg r0 r1 r2
          have HL5 := Bas.hid hl5
          clear hl5
          go_wp2_with (fail)
          have SL := HSL.out
          have sg1 : wrap64 (o0 + (o1 * o2)) = o0 + (o1 * o2) := IntWalk.wrap64_in _ ⟨by omega, by omega⟩
          have sg2 : IntKind.i64.wrap (o0 + (o1 * o2)) = o0 + (o1 * o2) := IntWalk.i64_in _ ⟨by omega, by omega⟩
          have sg3 : 0 ≤ o0 + (o1 * o2) := by omega
          have sg4 : o0 ≤ o0 + (o1 * o2) := by omega
          have sg5 : o0 + (o1 * o2) ≤ (cap : Int) := by omega
          have cv1 := fun n' => conv_vb (HVG.out.below (Bas.below_drewN (Below.refl _ _) n')) _ cp HL5.out
          have cv2 := fun n' => conv_vb (HVS.out.below (Bas.below_drewN (Below.refl _ _) n')) _ (cap - q) HL5.out
          go_quiet (fail)
          clear cv1 cv2 SL sg1 sg2 sg3 sg4 sg5
          go_wp2_with (fail)
          go_roundw
          case rel => exact ⟨3, by omega, by go_num, Bas.below_drewN HBR.out _⟩
          case measure => simp [intOf]
        · have hb := HF2.out.2 f
          subst hb
          have C := HN2.out wr hvr hbw f
          have hbr := Bas.hid hbr0
          have HC := Bas.hid C
          clear C hbr0 f hvr
          go_wp2_with (fail)
          refine HC.out.mono ?_
          rintro e w5 ⟨v, n, rfl, hb5, hy, -⟩
          obtain ⟨rfl, rfl⟩ := hy rfl
          have HBR := Bas.hid (Bas.on hbr.out hb5)
          clear hb5 hy r0 r1 r2
          go_wp2_with (fail)
          go_roundw
          case rel => exact ⟨3, by omega, by go_num, HBR.out⟩
          case measure => simp [intOf]
      · clear hvr hbr0
        go_wp2_with (fail)
        go_ret
        exact ⟨rfl, HBWR.out⟩
  · have dc0 : decide (0 ≤ o0) = true := by simpa using c0
    have dc1 : decide (o0 ≤ (len : Int)) = true := by simpa using c1
    have hf1 : f1 = true := HF1.out.1 (by omega)
    have HF1b := Bas.hid hf1
    clear hf1
    obtain ⟨I, F, hI, HF⟩ := Bas.fam w2.heap.size w2
    have x0 := fun i => Bas.cell_fam HF (by omega) q0 i
    have x1 := fun i => Bas.cell_fam HF (by omega) q1 i
    have x2 := fun i => Bas.cell_fam HF (by omega) q2 i
    refine Pl.region_plan [(true, 0), (true, 1), (true, 2), (true, 3), (true, 5), (true, 6), (true, 13), (true, 14), (true, 15), (true, 16), (true, 17), (true, 18), (true, 4), (true, 7), (true, 8), (true, 9), (true, 10), (true, 11), (true, 12), (true, 19), (true, 20), (false, 21), (false, 22)] [22] (by kernel_rfl) (by kernel_rfl) (fun _ _ _ _ e h => ⟨e ▸ h.1, h.2⟩) (HF.1 _ ((Below.refl _ _).drew)) ?_
    intro i0
    refine Pl.head_sel [(true, 0), (true, 1), (true, 2), (true, 3), (true, 5), (true, 6), (true, 13), (true, 14), (true, 15), (true, 16), (true, 17), (true, 18)] (by kernel_rfl) ?_ i0
    simp only [Pl.sel, List.drop_succ_cons, List.drop_zero]
    repeat (go_big_quiet_step (fail))
    refine wpQuiet_nil ?_
    intro j0
    refine Pl.same_sel 27 (.bool f0) (by simp) (by kernel_rfl) ?_ ?_
    · intro j
      simp only [Pl.sel, List.drop_succ_cons, List.drop_zero]
      go_wp2_with (fail)
      refine (HIN.out _).mono ?_
      rintro e w' ⟨rfl, rfl⟩
      go_wp2_with (fail)
    simp only [Act.put, List.setIfInBounds_toArray, List.set_cons_zero, List.set_cons_succ]
    refine Pl.head_sel [(true, 7), (true, 8), (true, 9), (true, 10), (true, 11), (true, 12)] (by kernel_rfl) ?_ j0
    simp only [Pl.sel, List.drop_succ_cons, List.drop_zero]
    repeat (go_big_quiet_step (fail))
    refine wpQuiet_nil ?_
    intro j1
    refine Pl.same_sel 42 (.bool f2) (by simp) (by kernel_rfl) ?_ ?_
    · intro j
      simp only [Pl.sel, List.drop_succ_cons, List.drop_zero]
      go_wp2_with (fail)
      refine (HRW.out _).mono ?_
      rintro e w' ⟨rfl, rfl⟩
      go_wp2_with (fail)
    simp only [Act.put, List.setIfInBounds_toArray, List.set_cons_zero, List.set_cons_succ]
    refine Pl.head_sel [(true, 20)] (by kernel_rfl) ?_ j1
    simp only [Pl.sel, List.drop_succ_cons, List.drop_zero]
    repeat (go_big_quiet_step (fail))
    refine wpQuiet_nil ?_
    intro j2
    have hb3 := HF.2 j2
    refine Pl.one_sel (by kernel_rfl) ?_
    intro Q' hQ' hP'
    simp only [Pl.sel, List.drop_succ_cons, List.drop_zero]
    go_wp2_with (fail)
    refine hQ' _ _ (fun _ _ => HF.1 _ (hb3.alloc hb3.size _)) ?_
    clear hQ' hP' Q'
    refine Pl.tail_sel [(false, 22)] (by kernel_rfl) (by kernel_rfl) ?_
    simp only [Pl.sel, List.drop_succ_cons, List.drop_zero]
    have HBW := Bas.hid (show Below w2.heap.size w2 ((F j2).alloc (.cells #[.bool f0, .bool true, .bool f2] 61)) from hb3.alloc hb3.size _)
    go_wp2_with (fail)
    clear x0 x1 x2 HF
    have i0 : ∀ w, (Instr.index 61 (.agg #[.bool f0, .bool true, .bool f2]) (.int .i64 0)).run Try.prog w = .ok (.bool f0) w := fun _ => by kernel_rfl
    have i1 : ∀ w, (Instr.index 61 (.agg #[.bool f0, .bool true, .bool f2]) (.int .i64 1)).run Try.prog w = .ok (.bool true) w := fun _ => by kernel_rfl
    have i2 : ∀ w, (Instr.index 61 (.agg #[.bool f0, .bool true, .bool f2]) (.int .i64 2)).run Try.prog w = .ok (.bool f2) w := fun _ => by kernel_rfl
    go_loopw [45] (fun c wr => ∃ k : Nat, k ≤ 3 ∧ c = .int .i64 k ∧ Below w2.heap.size w2 wr) (fun c _ => 3 - (intOf c).toNat)
    case atStart => exact ⟨0, by omega, rfl, HBW.out⟩
    case round =>
      obtain ⟨k, hk, rfl, hbr0⟩ := hrel
      have hbw : Below w.heap.size w wr := HB2.out.trans (hbr0.mono HB2.out.size)
      have hvr := HV.out.below hbw
      have r0 := (hbr0.cell (p := ⟨w.heap.size, 0, none⟩) (by show w.heap.size < _; omega)).trans q0
      have r1 := (hbr0.cell (p := ⟨w.heap.size, 1, none⟩) (by show w.heap.size < _; omega)).trans q1
      have r2 := (hbr0.cell (p := ⟨w.heap.size, 2, none⟩) (by show w.heap.size < _; omega)).trans q2
      have l0 : w.heap.size < wr.heap.size := by have := hbr0.size; omega
      have HBWR := Bas.hid hbw
      rcases (show k = 0 ∨ k = 1 ∨ k = 2 ∨ k = 3 by omega) with rfl | rfl | rfl | rfl
      · by_cases f : 0 ≤ o0 ∧ 0 ≤ o1 ∧ o0 + o1 ≤ len
        · have hb := HF0.out.1 f
          subst hb
          have hm0 : 0 ≤ o1 ∧ o0 + (o1) ≤ len ∧ 0 ≤ o0 := by
            omega
          obtain ⟨hm1, hm2, hm3⟩ := hm0
          have C := HC0.out wr hvr hbw f
          skip
          generalize hq : o0.toNat = q at C
          generalize hm : o1.toNat = m at C
          have eq0 : o0 = (q : Int) := by omega
          have em0 : o1 = (m : Int) := by omega
          have q1 : ((m : Int) == o1) = true := by simp; omega
          have q2 : ((m : Int) != o1) = false := by simp; omega
          have hqm : q + m ≤ len := by omega
          have SL := fun W => run_sl (P := Try.prog) W 37 5 Try.underlying37 HSZ.out a len cap o0 (o0 + (o1)) q (q + m) eq0 (by omega) (by omega) (by omega)
          rw [show q + m - q = m by omega] at SL
          have hvs := Bas.hid (hvr.sl q m cap (by omega) (by omega))
          have HSL := Bas.hid SL
          have HC := Bas.hid C
          have hbr := Bas.hid hbr0
          clear C SL eq0 em0 hq hm hbr0 f hvr
          go_wp2_with (fail)
          refine HC.out.mono ?_
          rintro e w5 ⟨v, n, rfl, hb5, -, hy⟩
          obtain ⟨rfl, g, cp, rfl, hgl, hgc, hgm, hvg⟩ := hy rfl
          have hl5 : ((bs.drop q).take m).length = m := by rw [List.length_take, List.length_drop]; omega
          have e0 := (hb5.cell (p := ⟨w.heap.size, 0, none⟩) l0).trans r0
          have e1 := (hb5.cell (p := ⟨w.heap.size, 1, none⟩) l0).trans r1
          have e2 := (hb5.cell (p := ⟨w.heap.size, 2, none⟩) l0).trans r2
          have HBR := Bas.hid (Bas.on hbr.out hb5)
          have HVG := Bas.hid hvg
          have HVS := Bas.hid (hvs.out.below hb5)
          clear hb5 hy hvg r0 r1 r2
          have HL5 := Bas.hid hl5
          clear hl5
          go_wp2_with (fail)
          have SL := HSL.out
          have sg1 : wrap64 (o0 + (o1)) = o0 + (o1) := IntWalk.wrap64_in _ ⟨by omega, by omega⟩
          have sg2 : IntKind.i64.wrap (o0 + (o1)) = o0 + (o1) := IntWalk.i64_in _ ⟨by omega, by omega⟩
          have sg3 : 0 ≤ o0 + (o1) := by omega
          have sg4 : o0 ≤ o0 + (o1) := by omega
          have sg5 : o0 + (o1) ≤ (cap : Int) := by omega
          have cv1 := fun n' => conv_vb (HVG.out.below (Bas.below_drewN (Below.refl _ _) n')) _ cp HL5.out
          have cv2 := fun n' => conv_vb (HVS.out.below (Bas.below_drewN (Below.refl _ _) n')) _ (cap - q) HL5.out
          go_quiet (fail)
          clear cv1 cv2 SL sg1 sg2 sg3 sg4 sg5
          go_wp2_with (fail)
          go_roundw
          case rel => exact ⟨1, by omega, by go_num, Bas.below_drewN HBR.out _⟩
          case measure => simp [intOf]
        · have hb := HF0.out.2 f
          subst hb
          have C := HN0.out wr hvr hbw f
          have hbr := Bas.hid hbr0
          have HC := Bas.hid C
          clear C hbr0 f hvr
          go_wp2_with (fail)
          refine HC.out.mono ?_
          rintro e w5 ⟨v, n, rfl, hb5, hy, -⟩
          obtain ⟨rfl, rfl⟩ := hy rfl
          have HBR := Bas.hid (Bas.on hbr.out hb5)
          clear hb5 hy r0 r1 r2
          go_wp2_with (fail)
          go_roundw
          case rel => exact ⟨1, by omega, by go_num, HBR.out⟩
          case measure => simp [intOf]
      · have f : (0 ≤ o0 ∧ o0 ≤ len) := by omega
        have hm0 : 0 ≤ (len : Int) - o0 ∧ o0 + ((len : Int) - o0) ≤ len ∧ 0 ≤ o0 := by
          omega
        obtain ⟨hm1, hm2, hm3⟩ := hm0
        have C := HC1.out wr hvr hbw f
        skip
        generalize hq : o0.toNat = q at C
        generalize hm : len - q = m at C
        have eq0 : o0 = (q : Int) := by omega
        have em0 : (len : Int) - o0 = (m : Int) := by omega
        have q1 : ((m : Int) == (len : Int) - o0) = true := by simp; omega
        have q2 : ((m : Int) != (len : Int) - o0) = false := by simp; omega
        have hqm : q + m ≤ len := by omega
        have SL := fun W => run_sl (P := Try.prog) W 37 5 Try.underlying37 HSZ.out a len cap o0 (o0 + ((len : Int) - o0)) q (q + m) eq0 (by omega) (by omega) (by omega)
        rw [show q + m - q = m by omega] at SL
        have hvs := Bas.hid (hvr.sl q m cap (by omega) (by omega))
        have HSL := Bas.hid SL
        have HC := Bas.hid C
        have hbr := Bas.hid hbr0
        clear C SL eq0 em0 hq hm hbr0 f hvr
        go_wp2_with (fail)
        refine HC.out.mono ?_
        rintro e w5 ⟨v, n, rfl, hb5, -, hy⟩
        obtain ⟨rfl, g, cp, rfl, hgl, hgc, hgm, hvg⟩ := hy rfl
        have hl5 : ((bs.drop q).take m).length = m := by rw [List.length_take, List.length_drop]; omega
        have e0 := (hb5.cell (p := ⟨w.heap.size, 0, none⟩) l0).trans r0
        have e1 := (hb5.cell (p := ⟨w.heap.size, 1, none⟩) l0).trans r1
        have e2 := (hb5.cell (p := ⟨w.heap.size, 2, none⟩) l0).trans r2
        have HBR := Bas.hid (Bas.on hbr.out hb5)
        have HVG := Bas.hid hvg
        have HVS := Bas.hid (hvs.out.below hb5)
        clear hb5 hy hvg r0 r1 r2
        have HL5 := Bas.hid hl5
        clear hl5
        go_wp2_with (fail)
        have SL := HSL.out
        have sg1 : wrap64 (o0 + ((len : Int) - o0)) = o0 + ((len : Int) - o0) := IntWalk.wrap64_in _ ⟨by omega, by omega⟩
        have sg2 : IntKind.i64.wrap (o0 + ((len : Int) - o0)) = o0 + ((len : Int) - o0) := IntWalk.i64_in _ ⟨by omega, by omega⟩
        have sg3 : 0 ≤ o0 + ((len : Int) - o0) := by omega
        have sg4 : o0 ≤ o0 + ((len : Int) - o0) := by omega
        have sg5 : o0 + ((len : Int) - o0) ≤ (cap : Int) := by omega
        have cv1 := fun n' => conv_vb (HVG.out.below (Bas.below_drewN (Below.refl _ _) n')) _ cp HL5.out
        have cv2 := fun n' => conv_vb (HVS.out.below (Bas.below_drewN (Below.refl _ _) n')) _ (cap - q) HL5.out
        go_quiet (fail)
        clear cv1 cv2 SL sg1 sg2 sg3 sg4 sg5
        go_wp2_with (fail)
        go_roundw
        case rel => exact ⟨2, by omega, by go_num, Bas.below_drewN HBR.out _⟩
        case measure => simp [intOf]
      · by_cases f : rowsB len o0 o1 o2
        · have hb := HF2.out.1 f
          subst hb
          have hm0 : 0 ≤ o1 * o2 ∧ o0 + (o1 * o2) ≤ len ∧ 0 ≤ o0 := by
            obtain ⟨f1, f2, f3, f4, f5⟩ := f; exact ⟨Int.mul_nonneg f1 f2, f5, f4⟩
          obtain ⟨hm1, hm2, hm3⟩ := hm0
          have C := HC2.out wr hvr hbw f
          have hw : wrap64 (o1 * o2) = o1 * o2 := IntWalk.wrap64_in _ ⟨by omega, by omega⟩
          generalize hq : o0.toNat = q at C
          generalize hm : (o1 * o2).toNat = m at C
          have eq0 : o0 = (q : Int) := by omega
          have em0 : o1 * o2 = (m : Int) := by omega
          have q1 : ((m : Int) == o1 * o2) = true := by simp; omega
          have q2 : ((m : Int) != o1 * o2) = false := by simp; omega
          have hqm : q + m ≤ len := by omega
          have SL := fun W => run_sl (P := Try.prog) W 37 5 Try.underlying37 HSZ.out a len cap o0 (o0 + (o1 * o2)) q (q + m) eq0 (by omega) (by omega) (by omega)
          rw [show q + m - q = m by omega] at SL
          have hvs := Bas.hid (hvr.sl q m cap (by omega) (by omega))
          have HSL := Bas.hid SL
          have HC := Bas.hid C
          have hbr := Bas.hid hbr0
          clear C SL eq0 em0 hq hm hbr0 f hvr
          go_wp2_with (fail)
          refine HC.out.mono ?_
          rintro e w5 ⟨v, n, rfl, hb5, -, hy⟩
          obtain ⟨rfl, g, cp, rfl, hgl, hgc, hgm, hvg⟩ := hy rfl
          have hl5 : ((bs.drop q).take m).length = m := by rw [List.length_take, List.length_drop]; omega
          have e0 := (hb5.cell (p := ⟨w.heap.size, 0, none⟩) l0).trans r0
          have e1 := (hb5.cell (p := ⟨w.heap.size, 1, none⟩) l0).trans r1
          have e2 := (hb5.cell (p := ⟨w.heap.size, 2, none⟩) l0).trans r2
          have HBR := Bas.hid (Bas.on hbr.out hb5)
          have HVG := Bas.hid hvg
          have HVS := Bas.hid (hvs.out.below hb5)
          clear hb5 hy hvg r0 r1 r2
          have HL5 := Bas.hid hl5
          clear hl5
          go_wp2_with (fail)
          have SL := HSL.out
          have sg1 : wrap64 (o0 + (o1 * o2)) = o0 + (o1 * o2) := IntWalk.wrap64_in _ ⟨by omega, by omega⟩
          have sg2 : IntKind.i64.wrap (o0 + (o1 * o2)) = o0 + (o1 * o2) := IntWalk.i64_in _ ⟨by omega, by omega⟩
          have sg3 : 0 ≤ o0 + (o1 * o2) := by omega
          have sg4 : o0 ≤ o0 + (o1 * o2) := by omega
          have sg5 : o0 + (o1 * o2) ≤ (cap : Int) := by omega
          have cv1 := fun n' => conv_vb (HVG.out.below (Bas.below_drewN (Below.refl _ _) n')) _ cp HL5.out
          have cv2 := fun n' => conv_vb (HVS.out.below (Bas.below_drewN (Below.refl _ _) n')) _ (cap - q) HL5.out
          go_quiet (fail)
          clear cv1 cv2 SL sg1 sg2 sg3 sg4 sg5
          go_wp2_with (fail)
          go_roundw
          case rel => exact ⟨3, by omega, by go_num, Bas.below_drewN HBR.out _⟩
          case measure => simp [intOf]
        · have hb := HF2.out.2 f
          subst hb
          have C := HN2.out wr hvr hbw f
          have hbr := Bas.hid hbr0
          have HC := Bas.hid C
          clear C hbr0 f hvr
          go_wp2_with (fail)
          refine HC.out.mono ?_
          rintro e w5 ⟨v, n, rfl, hb5, hy, -⟩
          obtain ⟨rfl, rfl⟩ := hy rfl
          have HBR := Bas.hid (Bas.on hbr.out hb5)
          clear hb5 hy r0 r1 r2
          go_wp2_with (fail)
          go_roundw
          case rel => exact ⟨3, by omega, by go_num, HBR.out⟩
          case measure => simp [intOf]
      · clear hvr hbr0
        go_wp2_with (fail)
        go_ret
        exact ⟨rfl, HBWR.out⟩

set_option maxRecDepth 100000 in
theorem viewCuts_law {H : Type} {enc : TypeId × Value → H} (a : Option Addr) (len cap : Nat) (z : List Int) (v : Value) (d : DataW H) (p : List MemPlace) (W : World) (hz : Bas.IsRow .u8 W a len cap z) {base : Nat}
    (hv : Value.okWide Try.prog W .any base 58 v) (ht : DataW.Trod enc Try.prog W 0 (fun _ => true) true 58 v d p) :
    Calls Try.prog 11 #[.slice a len cap, v] W fun e w' => e = .returned (.bool true) ∧ Below W.heap.size W w' := by
  obtain ⟨xs, hl, rfl, hw⟩ := Bas.open_arr Try.underlying58 Try.underlying3 (by kernel_rfl) (by kernel_rfl) hv ht
  match xs, hl with
  | [x0, x1, x2], _ =>
    have a0 := Bas.wf_i64 (hw x0 (by simp))
    have a1 := Bas.wf_i64 (hw x1 (by simp))
    have a2 := Bas.wf_i64 (hw x2 (by simp))
    exact viewCuts_walk a len cap z x0 x1 x2 W hz a0.1 a0.2 a1.1 a1.2 a2.1 a2.2
end Vw
end Go.Proofs.Ytakpppgikgimnaa
