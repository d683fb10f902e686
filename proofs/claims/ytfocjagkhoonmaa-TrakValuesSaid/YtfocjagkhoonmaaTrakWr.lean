/- The law's own Write (layer 27). -/
import Derived.Test.YtfocjagkhoonmaaTrakDat
namespace Go.Proofs.Ytfocjagkhoonmaa
open Go.RowKit
namespace Tk
open Vw Wr

structure WPlanT where
  s0 : List Int
  s1 : List Int
  t0 : List PTrack
  t1 : List PTrack

def PPlan (w : World) (a b c d : Value) (p : WPlanT) : Prop := PSizes w a p.s0 ∧ PSizes w b p.s1 ∧ PTracks w c p.t0 ∧ PTracks w d p.t1
theorem PPlan.below {w w' : World} {a b c d : Value} {p : WPlanT} (h : PPlan w a b c d p) (hb : Below w.heap.size w w') : PPlan w' a b c d p :=
  ⟨Row.leads_below h.1 hb, Row.leads_below h.2.1 hb, h.2.2.1.below hb, h.2.2.2.below hb⟩
def smallP (p : WPlanT) : Prop := (p.s0.length ≤ 20 ∧ p.t0.length ≤ 10) ∧ p.s1.length ≤ 20 ∧ p.t1.length ≤ 10
def rgPlan (p : WPlanT) : Prop := (rgSizes p.s0 ∧ ∀ t ∈ p.t0, rgTrack t) ∧ rgSizes p.s1 ∧ ∀ t ∈ p.t1, rgTrack t

def d0 (p : WPlanT) : List Int := if p.t0.length = 0 then [] else dataW p.s0 p.t0 12
def a0 (p : WPlanT) : Nat := if p.t0.length = 0 then 0 else 12
def a1 (p : WPlanT) : Nat := if p.t1.length = 0 then 0 else 12 + (d0 p).length
def d1 (p : WPlanT) : List Int := if p.t1.length = 0 then [] else dataW p.s1 p.t1 (12 + (d0 p).length)
def stB (p : WPlanT) : Nat → List Int
  | 0 => putB 65536 4 ++ putB 0 2
  | 1 => putB 65536 4 ++ putB 0 2 ++ putB (a0 p : Int) 2
  | _ => putB 65536 4 ++ putB 0 2 ++ putB (a0 p : Int) 2 ++ putB (a1 p : Int) 2
def stI (p : WPlanT) : Nat → List Int
  | 0 => []
  | 1 => d0 p
  | _ => d0 p ++ d1 p
def writeT (p : WPlanT) : List Int := stB p 2 ++ [0, 0] ++ stI p 2

theorem d0_len (p : WPlanT) (h : smallP p) : (d0 p).length ≤ 600 := by
  unfold d0
  split
  · simp
  · rw [dataW_len]
    have : p.s0.length * p.t0.length ≤ 20 * 10 := Nat.mul_le_mul h.1.1 h.1.2
    have := h.1.1; have := h.1.2
    rw [Nat.mul_assoc]; omega
theorem d1_len (p : WPlanT) (h : smallP p) : (d1 p).length ≤ 600 := by
  unfold d1
  split
  · simp
  · rw [dataW_len]
    have : p.s1.length * p.t1.length ≤ 20 * 10 := Nat.mul_le_mul h.2.1 h.2.2
    have := h.2.1; have := h.2.2
    rw [Nat.mul_assoc]; omega
theorem a0_le (p : WPlanT) : a0 p ≤ 12 := by unfold a0; split <;> omega
theorem a1_le (p : WPlanT) (h : smallP p) : a1 p ≤ 612 := by
  have := d0_len p h
  unfold a1; split <;> omega
theorem stB_len (p : WPlanT) (k : Nat) : (stB p k).length ≤ 10 := by
  match k with
  | 0 => simp [stB, putB_len]
  | 1 => simp [stB, putB_len]
  | _ + 2 => simp [stB, putB_len]
theorem stI_len (p : WPlanT) (h : smallP p) (k : Nat) : (stI p k).length ≤ 1200 := by
  have := d0_len p h
  have := d1_len p h
  match k with
  | 0 => simp [stI]
  | 1 => simp only [stI]; omega
  | _ + 2 => simp only [stI, List.length_append]; omega
theorem writeT_len (p : WPlanT) (h : smallP p) : 12 ≤ (writeT p).length ∧ (writeT p).length ≤ 1212 := by
  have := stI_len p h 2
  simp only [writeT, stB, List.length_append, putB_len, List.length_cons, List.length_nil]; omega

theorem two_set {w : World} {base : Nat} {v u : Value} {xs ys : List Int} (h : TwoRows w base v xs u ys) {T i : Nat} {cs : Array Value} {t : TypeId} (hT : w.heap[T]? = some (.cells cs t (0, 0))) (ht : 5 ≠ t) (x : Value) : TwoRows (w.setCell ⟨T, i, none⟩ x) base v xs u ys :=
  ⟨Row.owned_keep h.l fun g hg => Below.heap_setCell _ _ _ _ (fun e => own_ty h.l hT ht (by rw [hg, e])), Row.owned_keep h.r fun g hg => Below.heap_setCell _ _ _ _ (fun e => own_ty h.r hT ht (by rw [hg, e])), h.apart⟩

set_option maxRecDepth 100000 in
set_option maxHeartbeats 16000000 in
theorem twrite_any (sa sb ta tb : Value) (p : WPlanT) (w : World) (hsm : smallP p) (hrg : rgPlan p) (hin : PPlan w sa sb ta tb p) :
    Calls Try.prog 16 #[.agg #[sa, sb, ta, tb]] w fun e w' => ∃ v', e = .returned v' ∧ w'.ownsRow w.heap.size 5 1 v' (writeT p).length ((writeT p).map (Value.int .u8)) ∧ Below w.heap.size w w' := by
  obtain ⟨hs0, hs1, ⟨rs0, hrl0, hlead0, hel0⟩, ⟨rs1, hrl1, hlead1, hel1⟩⟩ := hin
  have HS0 := Bas.hid hs0
  have HS1 := Bas.hid hs1
  have HT0 : Hid (PTracks w ta p.t0) := ⟨rs0, hrl0, hlead0, hel0⟩
  have HT1 : Hid (PTracks w tb p.t1) := ⟨rs1, hrl1, hlead1, hel1⟩
  obtain ⟨sad0, scap0, rfl⟩ := Row.leads_slice hs0
  obtain ⟨sad1, scap1, rfl⟩ := Row.leads_slice hs1
  obtain ⟨tad0, tcap0, rfl⟩ := Row.leads_slice hlead0
  obtain ⟨tad1, tcap1, rfl⟩ := Row.leads_slice hlead1
  have HSM := Bas.hid hsm
  have HRG := Bas.hid hrg
  obtain ⟨n0, hn0⟩ : ∃ n, n = p.t0.length := ⟨_, rfl⟩
  obtain ⟨n1, hn1⟩ : ∃ n, n = p.t1.length := ⟨_, rfl⟩
  obtain ⟨m0, hm0⟩ : ∃ n, n = p.s0.length := ⟨_, rfl⟩
  obtain ⟨m1, hm1⟩ : ∃ n, n = p.s1.length := ⟨_, rfl⟩
  have HD0 := Bas.hid fun w' (hb : Below w.heap.size w w') => wdata_any (.slice sad0 m0 scap0) (.slice tad0 n0 tcap0) p.s0 p.t0 12 w' hsm.1.1 hsm.1.2 (by omega) hrg.1.2 hrg.1.1 (by rw [hn0]; exact HT0.out.below hb) (by rw [hm0]; exact Row.leads_below HS0.out hb)
  have HD1 := Bas.hid fun w' (hb : Below w.heap.size w w') => wdata_any (.slice sad1 m1 scap1) (.slice tad1 n1 tcap1) p.s1 p.t1 (12 + (d0 p).length) w' hsm.2.1 hsm.2.2 (by have := d0_len p hsm; omega) hrg.2.2 hrg.2.1 (by rw [hn1]; exact HT1.out.below hb) (by rw [hm1]; exact Row.leads_below HS1.out hb)
  rw [← hn0, ← hn1, ← hm0, ← hm1]
  have hn0b : n0 ≤ 10 := hn0 ▸ hsm.1.2
  have hn1b : n1 ≤ 10 := hn1 ▸ hsm.2.2
  have HN0 := Bas.hid hn0
  have HN1 := Bas.hid hn1
  clear hs0 hs1 hrl0 hlead0 hel0 hrl1 hlead1 hel1 HS0 HS1 HT0 HT1 hsm hrg hn0 hn1 hm0 hm1
  have HE : Hid (w.ownsRow w.heap.size 5 1 (.slice none 0 0) ([] : List Int).length (([] : List Int).map (Value.int .u8))) := Row.owned_nil _ _ _ _
  go_enter Try.func16, Try.ntmps16
  go_wp2_with (fail)
  have k1 := Bas.heap_new w (.cells #[.slice sad0 m0 scap0, .slice sad1 m1 scap1, .slice tad0 n0 tcap0, .slice tad1 n1 tcap1] 27)
  have HB1 := Bas.hid ((Below.refl w.heap.size w).alloc (Nat.le_refl _) (.cells #[.slice sad0 m0 scap0, .slice sad1 m1 scap1, .slice tad0 n0 tcap0, .slice tad1 n1 tcap1] 27))
  generalize w.alloc (.cells #[.slice sad0 m0 scap0, .slice sad1 m1 scap1, .slice tad0 n0 tcap0, .slice tad1 n1 tcap1] 27) = W1 at *
  have hem : W1.ownsRow w.heap.size 5 1 (.slice none 0 0) ([] : List Int).length (([] : List Int).map (Value.int .u8)) := Row.owned_nil _ _ _ _
  refine (put_any 65536 4 w.heap.size _ [] W1 (by omega) (by omega) (by omega) (by simp) HB1.out.size hem).mono ?_
  rintro e w2 ⟨v2, rfl, hg2⟩
  go_wp2_with (fail)
  refine (put_any 0 2 w.heap.size _ _ w2 (by omega) (by omega) (by omega) (by simp [putB_len]) (Nat.le_trans HB1.out.size hg2.grow.size) hg2.own).mono ?_
  rintro e w3 ⟨v3, rfl, hg3⟩
  have hg := hg2.trans hg3
  have HB3 := Bas.hid (hg.below HB1.out HB1.out.size (fun g h => by cases h))
  have k3 := (hg.grow.block _ (heap_lt k1) (by simp [Value.ownBlock])).trans k1
  have HO3 := Bas.hid hg.own
  clear hg2 hg3 hg k1 HB1 HE hem
  go_wp2_with (fail)
  have k4 := Bas.heap_new w3 (.cells #[.int .i64 0, .int .i64 0] 88)
  have hb4 := (Below.refl w3.heap.size w3).alloc (Nat.le_refl _) (.cells #[.int .i64 0, .int .i64 0] 88)
  have HB4 := Bas.hid (HB3.out.trans (hb4.mono HB3.out.size))
  have j1 := (hb4.block _ (heap_lt k3)).trans k3
  have hT4 : w.heap.size < w3.heap.size := heap_lt k3
  have HT4 : Hid (TwoRows (w3.alloc (.cells #[.int .i64 0, .int .i64 0] 88)) w.heap.size v3 (stB p 0) (.slice none 0 0) (stI p 0)) :=
    ⟨by simpa [stB] using Row.owned_below HO3.out hb4, Row.owned_nil _ _ _ _, fun g _ h => by cases h⟩
  generalize w3.alloc (.cells #[.int .i64 0, .int .i64 0] 88) = W4 at *
  generalize w3.heap.size = T4 at *
  clear hb4 HB3 k3 HO3
  go_loopw [3, 5, 6, 9] (fun xb xs _ vi wr => ∃ (k : Nat) (vb vs : Value) (x0 x1 : Int), k ≤ 2 ∧ vi = .int .i64 k ∧ vb = xb ∧ vs = xs ∧ TwoRows wr w.heap.size vb (stB p k) vs (stI p k) ∧ Below w.heap.size w wr ∧
      wr.heap[w.heap.size]? = some (.cells #[.slice sad0 m0 scap0, .slice sad1 m1 scap1, .slice tad0 n0 tcap0, .slice tad1 n1 tcap1] 27 (0, 0)) ∧ wr.heap[T4]? = some (.cells #[.int .i64 x0, .int .i64 x1] 88 (0, 0)) ∧ (k = 0 → x0 = 0) ∧ (k ≤ 1 → x1 = 0)) (fun _ _ _ vi _ => 2 - (intOf vi).toNat)
  case atStart => exact ⟨0, _, _, 0, 0, by omega, rfl, rfl, rfl, HT4.out, HB4.out, j1, k4, fun _ => rfl, fun _ => rfl⟩
  case round =>
    obtain ⟨k, vb, vs, x0, x1, hk, rfl, hvb, hvs, htw, hb, y1, y4, hx⟩ := hrel
    rw [← hvb, ← hvs]
    clear hvb hvs HT4 HB4 j1 k4
    have HT := Bas.hid htw
    have HB := Bas.hid hb
    have hlb := stB_len p k
    have hli := stI_len p HSM.out k
    obtain ⟨sl, hsl⟩ : ∃ sl, sl = (stI p k).length := ⟨_, rfl⟩
    have HSL := Bas.hid hsl
    rw [← hsl] at hli
    clear hsl
    have q0 := cell_of_heap (i := 0) (v := .slice sad0 m0 scap0) y1 rfl
    have q1 := cell_of_heap (i := 1) (v := .slice sad1 m1 scap1) y1 rfl
    have q2 := cell_of_heap (i := 2) (v := .slice tad0 n0 tcap0) y1 rfl
    have q3 := cell_of_heap (i := 3) (v := .slice tad1 n1 tcap1) y1 rfl
    have c0 := cell_of_heap (i := 0) (v := .int .i64 x0) y4 rfl
    have c1 := cell_of_heap (i := 1) (v := .int .i64 x1) y4 rfl
    have f4 := fun i => free_of_heap (i := i) y4
    have e1 : vb.ownBlock ≠ some w.heap.size := own_ty HT.out.l y1 (by decide)
    have e4 : vb.ownBlock ≠ some T4 := own_ty HT.out.l y4 (by decide)
    rcases (by omega : k = 0 ∨ k = 1 ∨ k = 2) with rfl | rfl | rfl
    · have hx0 : x0 = 0 := hx.1 rfl
      have hx1 : x1 = 0 := hx.2 (by omega)
      subst hx0 hx1
      by_cases hz : n0 = 0
      · have hd : decide ((0 : Int) < (n0 : Int)) = false := by simp; omega
        have hd2 : decide (0 < n0) = false := by simp; omega
        have HA : Hid (stB p 1 = stB p 0 ++ putB 0 2) := by
          have : a0 p = 0 := by unfold a0; rw [if_pos (HN0.out ▸ hz)]
          unfold Hid
          show stB p 0 ++ putB (a0 p : Int) 2 = _
          rw [this]; rfl
        have HI : Hid (stI p 1 = stI p 0) := by
          have : d0 p = [] := by unfold d0; rw [if_pos (HN0.out ▸ hz)]
          unfold Hid
          simp [stI, this]
        clear hz htw hb
        go_wp2_with (fail)
        refine (put_any 0 2 w.heap.size _ _ wr (by omega) (by omega) (by omega) (by omega) HB.out.size HT.out.l).mono ?_
        rintro e wF ⟨vF, rfl, gF⟩
        have HTF := Bas.hid (HT.out.growL gF)
        have HBF := Bas.hid (gF.below HB.out HB.out.size (fun g hg => (Row.own_block HT.out.l hg).1))
        have z1 := (gF.grow.block _ (heap_lt y1) (fun e => e1 e.symm)).trans y1
        have z4 := (gF.grow.block _ (heap_lt y4) (fun e => e4 e.symm)).trans y4
        clear gF HT HB y1 y4 c0 c1 q0 q1 q2 q3 f4 e1 e4
        go_wp2_with (fail)
        go_roundw
        case rel => exact ⟨1, _, _, 0, 0, by omega, by go_num, rfl, rfl, by rw [HA.out, HI.out]; exact HTF.out, HBF.out, z1, z4, ⟨fun h => by omega, fun _ => rfl⟩⟩
        case measure => simp [intOf]
      · have hd : decide ((0 : Int) < (n0 : Int)) = true := by simp; omega
        have hd2 : decide (0 < n0) = true := by simp; omega
        have HA : Hid (stB p 1 = stB p 0 ++ putB (12 + (sl : Int)) 2) := by
          have : a0 p = 12 + sl := by unfold a0; rw [if_neg (HN0.out ▸ hz), HSL.out]; rfl
          unfold Hid
          show stB p 0 ++ putB (a0 p : Int) 2 = _
          rw [this]; rfl
        have HI : Hid (stI p 1 = stI p 0 ++ dataW p.s0 p.t0 (12 + sl)) := by
          have : d0 p = dataW p.s0 p.t0 (12 + sl) := by unfold d0; rw [if_neg (HN0.out ▸ hz), HSL.out]; rfl
          unfold Hid
          rw [← this]; rfl
        have HDK : Hid (∀ w', Below w.heap.size w w' → Calls Try.prog 38 #[.slice sad0 m0 scap0, .slice tad0 n0 tcap0, .int .i64 (12 + (sl : Int))] w' fun e w'' => ∃ v', e = .returned v' ∧ w''.ownsRow w'.heap.size 5 1 v' (dataW p.s0 p.t0 (12 + sl)).length ((dataW p.s0 p.t0 (12 + sl)).map (Value.int .u8)) ∧ Below w'.heap.size w' w'') := by
          intro w' hb
          have h := HD0.out w' hb
          have e2 : 12 + (stI p 0).length = 12 + sl := by rw [HSL.out]
          simp only [stI, List.length_nil, Nat.add_zero] at e2
          first | rw [e2] at h | (have e3 : sl = 0 := by omega
                                  rw [e3])
          simpa using h
        have hdl : (dataW p.s0 p.t0 (12 + sl)).length ≤ 600 := by
          have h := d0_len p HSM.out
          have : d0 p = dataW p.s0 p.t0 (12 + sl) := by unfold d0; rw [if_neg (HN0.out ▸ hz), HSL.out]; rfl
          rwa [this] at h
        generalize dataW p.s0 p.t0 (12 + sl) = D at *
        obtain ⟨ads, cps, hvs⟩ := row_slice HT.out.r
        rw [← HSL.out] at hvs
        rw [hvs]
        clear hz htw hb
        go_wp2_with (fail)
        have HT5 := Bas.hid (two_set HT.out y4 (by decide) (i := 0) (.int .i64 (12 + (sl : Int))))
        have HB5 := Bas.hid (HB.out.setCell (p := ⟨T4, 0, none⟩) (Nat.le_of_lt hT4) (.int .i64 (12 + (sl : Int))))
        have z4 : (wr.setCell ⟨T4, 0, none⟩ (.int .i64 (12 + (sl : Int)))).heap[T4]? = some (.cells #[.int .i64 (12 + (sl : Int)), .int .i64 0] 88 (0, 0)) := heap_set (i := 0) y4 (.int .i64 (12 + (sl : Int)))
        have z1 := (Below.heap_setCell wr ⟨T4, 0, none⟩ (.int .i64 (12 + (sl : Int))) w.heap.size (by show w.heap.size ≠ T4; omega)).trans y1
        generalize wr.setCell ⟨T4, 0, none⟩ (.int .i64 (12 + (sl : Int))) = W5 at *
        clear y1 y4 c0 c1 q0 q1 q2 q3 f4 e1 e4 HT HB
        refine' Pl.region_v0 48 [0] [1, 2, 3, 4, 5, 6, 7, 8, 9, 10, 11] [12, 13, 14] _ (by kernel_rfl) (by kernel_rfl) (by simp) (fun _ _ _ _ e h => ⟨e ▸ h.1, h.2⟩) ?_ ?_
        rotate_left
        · intro I F hI hF
          simp only [Pl.selN, List.cons_append, List.nil_append, List.drop_succ_cons, List.drop_zero]
          have x0 := fun i => hF.cell (heap_lt z1) (cell_of_heap (i := 0) (v := .slice sad0 m0 scap0) z1 rfl) i
          have x1 := fun i => hF.cell (heap_lt z1) (cell_of_heap (i := 2) (v := .slice tad0 n0 tcap0) z1 rfl) i
          have x2 := fun i => hF.cell (heap_lt z4) (cell_of_heap (i := 0) (v := .int .i64 (12 + (sl : Int))) z4 rfl) i
          repeat (go_big_quiet_step (fail))
          refine wpQuiet_nil ?_
          rfl
        intro u hu
        simp only [Pl.selN, List.drop_succ_cons, List.drop_zero]
        have HTU := Bas.hid (HT5.out.below hu)
        have HBU := Bas.hid (HB5.out.trans (hu.mono HB5.out.size))
        have u1 := (hu.block _ (heap_lt z1)).trans z1
        have u4 := (hu.block _ (heap_lt z4)).trans z4
        clear hu HT5 HB5 z1 z4
        go_wp2_with (fail)
        refine (HDK.out _ HBU.out).mono ?_
        rintro e W6 ⟨vd, rfl, hod, hb6⟩
        have HT6 := Bas.hid (HTU.out.below hb6)
        have HB6 := Bas.hid (HBU.out.trans (hb6.mono HBU.out.size))
        have w1 := (hb6.block _ (heap_lt u1)).trans u1
        have w4 := (hb6.block _ (heap_lt u4)).trans u4
        have HOD := Bas.hid hod
        obtain ⟨dad, dcp, rfl⟩ := row_slice hod
        obtain ⟨dl, hdl2⟩ : ∃ dl, dl = D.length := ⟨_, rfl⟩
        have HDL := Bas.hid hdl2
        have f1 : (Value.slice ads sl cps).ownBlock ≠ some w.heap.size := by rw [← hvs]; exact own_ty HT6.out.r w1 (by decide)
        have f4 : (Value.slice ads sl cps).ownBlock ≠ some T4 := by rw [← hvs]; exact own_ty HT6.out.r w4 (by decide)
        have HVS := Bas.hid hvs
        rw [← hdl2] at hdl ⊢
        clear hb6 u1 u4 HTU HBU HDK hod hdl2 hvs
        go_wp2_with (at_builtin; refine Row.fence ?_)
        refine Row.unfence ?_
        refine Row.append_at rfl _ _ 30 5 rfl (.int .u8 0) 1 1 Try.underlying30 info8 rfl (by decide) w.heap.size (.slice ads sl cps) sl _ rfl (by have h := HT6.out.r; rw [HVS.out, ← HSL.out] at h; exact h) (.slice dad dl dcp) dl _ rfl (by rw [HDL.out]; exact Row.leads_owned HOD.out) (by simp [HDL.out]) (by simp; intros; rfl) (by unfold maxLen; omega) (by omega) HB6.out.size ?_
        intro v9 w9 h91 h92 _ h93
        have g9 : Grown W6 w.heap.size (.slice ads sl cps) (stI p 0 ++ D) v9 w9 :=
          ⟨by simpa only [List.map_append, List.length_append, HDL.out, HSL.out] using h91, h92, h93.imp id fun h => ⟨_, h, Nat.le_refl _⟩⟩
        have HT9 : Hid (TwoRows w9 w.heap.size vb (stB p 0) v9 (stI p 1)) := by
          unfold Hid
          rw [HI.out]
          have h := HT6.out
          rw [HVS.out] at h
          exact h.growR g9
        have HB9 := Bas.hid (HB6.out.grown h92 HB6.out.size (fun g hg => (Row.own_block HT6.out.r (by rw [HVS.out]; exact hg)).1))
        have m1' := (h92.block _ (heap_lt w1) (fun e => f1 e.symm)).trans w1
        have m4' := (h92.block _ (heap_lt w4) (fun e => f4 e.symm)).trans w4
        have e1 : vb.ownBlock ≠ some w.heap.size := own_ty HT9.out.l m1' (by decide)
        have e4 : vb.ownBlock ≠ some T4 := own_ty HT9.out.l m4' (by decide)
        obtain ⟨ad9, cp9, rfl⟩ := row_slice HT9.out.r
        have cx := cell_of_heap (i := 0) (v := .int .i64 (12 + (sl : Int))) m4' rfl
        clear h91 h92 h93 g9 HT6 HB6 w1 w4 HOD f1 f4
        go_wp2_with (fail)
        refine (put_any _ 2 w.heap.size _ _ w9 (by omega) (by omega) (by omega) (by omega) HB9.out.size HT9.out.l).mono ?_
        rintro e wF ⟨vF, rfl, gF⟩
        have HTF := Bas.hid (HT9.out.growL gF)
        have HBF := Bas.hid (gF.below HB9.out HB9.out.size (fun g hg => (Row.own_block HT9.out.l hg).1))
        have z1 := (gF.grow.block _ (heap_lt m1') (fun e => e1 e.symm)).trans m1'
        have z4 := (gF.grow.block _ (heap_lt m4') (fun e => e4 e.symm)).trans m4'
        clear gF HT9 HB9 m1' m4' cx e1 e4
        go_wp2_with (fail)
        go_roundw
        case rel => exact ⟨1, _, _, _, _, by omega, by go_num, rfl, rfl, by rw [HA.out]; exact HTF.out, HBF.out, z1, z4, ⟨fun h => by omega, fun _ => rfl⟩⟩
        case measure => simp [intOf]
    · have hx1 : x1 = 0 := hx.2 (by omega)
      subst hx1
      by_cases hz : n1 = 0
      · have hd : decide ((0 : Int) < (n1 : Int)) = false := by simp; omega
        have hd2 : decide (0 < n1) = false := by simp; omega
        have HA : Hid (stB p 2 = stB p 1 ++ putB 0 2) := by
          have : a1 p = 0 := by unfold a1; rw [if_pos (HN1.out ▸ hz)]
          unfold Hid
          show stB p 1 ++ putB (a1 p : Int) 2 = _
          rw [this]; rfl
        have HI : Hid (stI p 2 = stI p 1) := by
          have : d1 p = [] := by unfold d1; rw [if_pos (HN1.out ▸ hz)]
          unfold Hid
          simp [stI, this]
        clear hz htw hb
        go_wp2_with (fail)
        refine (put_any 0 2 w.heap.size _ _ wr (by omega) (by omega) (by omega) (by omega) HB.out.size HT.out.l).mono ?_
        rintro e wF ⟨vF, rfl, gF⟩
        have HTF := Bas.hid (HT.out.growL gF)
        have HBF := Bas.hid (gF.below HB.out HB.out.size (fun g hg => (Row.own_block HT.out.l hg).1))
        have z1 := (gF.grow.block _ (heap_lt y1) (fun e => e1 e.symm)).trans y1
        have z4 := (gF.grow.block _ (heap_lt y4) (fun e => e4 e.symm)).trans y4
        clear gF HT HB y1 y4 c0 c1 q0 q1 q2 q3 f4 e1 e4
        go_wp2_with (fail)
        go_roundw
        case rel => exact ⟨2, _, _, x0, 0, by omega, by go_num, rfl, rfl, by rw [HA.out, HI.out]; exact HTF.out, HBF.out, z1, z4, ⟨fun h => by omega, fun h => by omega⟩⟩
        case measure => simp [intOf]
      · have hd : decide ((0 : Int) < (n1 : Int)) = true := by simp; omega
        have hd2 : decide (0 < n1) = true := by simp; omega
        have HA : Hid (stB p 2 = stB p 1 ++ putB (12 + (sl : Int)) 2) := by
          have : a1 p = 12 + sl := by unfold a1; rw [if_neg (HN1.out ▸ hz), HSL.out]; rfl
          unfold Hid
          show stB p 1 ++ putB (a1 p : Int) 2 = _
          rw [this]; rfl
        have HI : Hid (stI p 2 = stI p 1 ++ dataW p.s1 p.t1 (12 + sl)) := by
          have : d1 p = dataW p.s1 p.t1 (12 + sl) := by unfold d1; rw [if_neg (HN1.out ▸ hz), HSL.out]; rfl
          unfold Hid
          rw [← this]; rfl
        have HDK : Hid (∀ w', Below w.heap.size w w' → Calls Try.prog 38 #[.slice sad1 m1 scap1, .slice tad1 n1 tcap1, .int .i64 (12 + (sl : Int))] w' fun e w'' => ∃ v', e = .returned v' ∧ w''.ownsRow w'.heap.size 5 1 v' (dataW p.s1 p.t1 (12 + sl)).length ((dataW p.s1 p.t1 (12 + sl)).map (Value.int .u8)) ∧ Below w'.heap.size w' w'') := by
          intro w' hb
          have h := HD1.out w' hb
          have e2 : 12 + (stI p 1).length = 12 + sl := by rw [HSL.out]
          simp only [stI, List.length_nil, Nat.add_zero] at e2
          first | rw [e2] at h | (have e3 : sl = 0 := by omega
                                  rw [e3])
          simpa using h
        have hdl : (dataW p.s1 p.t1 (12 + sl)).length ≤ 600 := by
          have h := d1_len p HSM.out
          have : d1 p = dataW p.s1 p.t1 (12 + sl) := by unfold d1; rw [if_neg (HN1.out ▸ hz), HSL.out]; rfl
          rwa [this] at h
        generalize dataW p.s1 p.t1 (12 + sl) = D at *
        obtain ⟨ads, cps, hvs⟩ := row_slice HT.out.r
        rw [← HSL.out] at hvs
        rw [hvs]
        clear hz htw hb
        go_wp2_with (fail)
        have HT5 := Bas.hid (two_set HT.out y4 (by decide) (i := 1) (.int .i64 (12 + (sl : Int))))
        have HB5 := Bas.hid (HB.out.setCell (p := ⟨T4, 1, none⟩) (Nat.le_of_lt hT4) (.int .i64 (12 + (sl : Int))))
        have z4 : (wr.setCell ⟨T4, 1, none⟩ (.int .i64 (12 + (sl : Int)))).heap[T4]? = some (.cells #[.int .i64 x0, .int .i64 (12 + (sl : Int))] 88 (0, 0)) := heap_set (i := 1) y4 (.int .i64 (12 + (sl : Int)))
        have z1 := (Below.heap_setCell wr ⟨T4, 1, none⟩ (.int .i64 (12 + (sl : Int))) w.heap.size (by show w.heap.size ≠ T4; omega)).trans y1
        generalize wr.setCell ⟨T4, 1, none⟩ (.int .i64 (12 + (sl : Int))) = W5 at *
        clear y1 y4 c0 c1 q0 q1 q2 q3 f4 e1 e4 HT HB
        refine' Pl.region_v0 48 [0] [1, 2, 3, 4, 5, 6, 7, 8, 9, 10, 11] [12, 13, 14] _ (by kernel_rfl) (by kernel_rfl) (by simp) (fun _ _ _ _ e h => ⟨e ▸ h.1, h.2⟩) ?_ ?_
        rotate_left
        · intro I F hI hF
          simp only [Pl.selN, List.cons_append, List.nil_append, List.drop_succ_cons, List.drop_zero]
          have x0 := fun i => hF.cell (heap_lt z1) (cell_of_heap (i := 1) (v := .slice sad1 m1 scap1) z1 rfl) i
          have x1 := fun i => hF.cell (heap_lt z1) (cell_of_heap (i := 3) (v := .slice tad1 n1 tcap1) z1 rfl) i
          have x2 := fun i => hF.cell (heap_lt z4) (cell_of_heap (i := 1) (v := .int .i64 (12 + (sl : Int))) z4 rfl) i
          repeat (go_big_quiet_step (fail))
          refine wpQuiet_nil ?_
          rfl
        intro u hu
        simp only [Pl.selN, List.drop_succ_cons, List.drop_zero]
        have HTU := Bas.hid (HT5.out.below hu)
        have HBU := Bas.hid (HB5.out.trans (hu.mono HB5.out.size))
        have u1 := (hu.block _ (heap_lt z1)).trans z1
        have u4 := (hu.block _ (heap_lt z4)).trans z4
        clear hu HT5 HB5 z1 z4
        go_wp2_with (fail)
        refine (HDK.out _ HBU.out).mono ?_
        rintro e W6 ⟨vd, rfl, hod, hb6⟩
        have HT6 := Bas.hid (HTU.out.below hb6)
        have HB6 := Bas.hid (HBU.out.trans (hb6.mono HBU.out.size))
        have w1 := (hb6.block _ (heap_lt u1)).trans u1
        have w4 := (hb6.block _ (heap_lt u4)).trans u4
        have HOD := Bas.hid hod
        obtain ⟨dad, dcp, rfl⟩ := row_slice hod
        obtain ⟨dl, hdl2⟩ : ∃ dl, dl = D.length := ⟨_, rfl⟩
        have HDL := Bas.hid hdl2
        have f1 : (Value.slice ads sl cps).ownBlock ≠ some w.heap.size := by rw [← hvs]; exact own_ty HT6.out.r w1 (by decide)
        have f4 : (Value.slice ads sl cps).ownBlock ≠ some T4 := by rw [← hvs]; exact own_ty HT6.out.r w4 (by decide)
        have HVS := Bas.hid hvs
        rw [← hdl2] at hdl ⊢
        clear hb6 u1 u4 HTU HBU HDK hod hdl2 hvs
        go_wp2_with (at_builtin; refine Row.fence ?_)
        refine Row.unfence ?_
        refine Row.append_at rfl _ _ 30 5 rfl (.int .u8 0) 1 1 Try.underlying30 info8 rfl (by decide) w.heap.size (.slice ads sl cps) sl _ rfl (by have h := HT6.out.r; rw [HVS.out, ← HSL.out] at h; exact h) (.slice dad dl dcp) dl _ rfl (by rw [HDL.out]; exact Row.leads_owned HOD.out) (by simp [HDL.out]) (by simp; intros; rfl) (by unfold maxLen; omega) (by omega) HB6.out.size ?_
        intro v9 w9 h91 h92 _ h93
        have g9 : Grown W6 w.heap.size (.slice ads sl cps) (stI p 1 ++ D) v9 w9 :=
          ⟨by simpa only [List.map_append, List.length_append, HDL.out, HSL.out] using h91, h92, h93.imp id fun h => ⟨_, h, Nat.le_refl _⟩⟩
        have HT9 : Hid (TwoRows w9 w.heap.size vb (stB p 1) v9 (stI p 2)) := by
          unfold Hid
          rw [HI.out]
          have h := HT6.out
          rw [HVS.out] at h
          exact h.growR g9
        have HB9 := Bas.hid (HB6.out.grown h92 HB6.out.size (fun g hg => (Row.own_block HT6.out.r (by rw [HVS.out]; exact hg)).1))
        have m1' := (h92.block _ (heap_lt w1) (fun e => f1 e.symm)).trans w1
        have m4' := (h92.block _ (heap_lt w4) (fun e => f4 e.symm)).trans w4
        have e1 : vb.ownBlock ≠ some w.heap.size := own_ty HT9.out.l m1' (by decide)
        have e4 : vb.ownBlock ≠ some T4 := own_ty HT9.out.l m4' (by decide)
        obtain ⟨ad9, cp9, rfl⟩ := row_slice HT9.out.r
        have cx := cell_of_heap (i := 1) (v := .int .i64 (12 + (sl : Int))) m4' rfl
        clear h91 h92 h93 g9 HT6 HB6 w1 w4 HOD f1 f4
        go_wp2_with (fail)
        refine (put_any _ 2 w.heap.size _ _ w9 (by omega) (by omega) (by omega) (by omega) HB9.out.size HT9.out.l).mono ?_
        rintro e wF ⟨vF, rfl, gF⟩
        have HTF := Bas.hid (HT9.out.growL gF)
        have HBF := Bas.hid (gF.below HB9.out HB9.out.size (fun g hg => (Row.own_block HT9.out.l hg).1))
        have z1 := (gF.grow.block _ (heap_lt m1') (fun e => e1 e.symm)).trans m1'
        have z4 := (gF.grow.block _ (heap_lt m4') (fun e => e4 e.symm)).trans m4'
        clear gF HT9 HB9 m1' m4' cx e1 e4
        go_wp2_with (fail)
        go_roundw
        case rel => exact ⟨2, _, _, _, _, by omega, by go_num, rfl, rfl, by rw [HA.out]; exact HTF.out, HBF.out, z1, z4, ⟨fun h => by omega, fun h => by omega⟩⟩
        case measure => simp [intOf]
    · have h := htw
      obtain ⟨ads, cps, hvs⟩ := row_slice HT.out.r
      rw [← HSL.out] at hvs
      rw [hvs]
      have HVS := Bas.hid hvs
      clear htw hb h hvs y1 y4 c0 c1 q0 q1 q2 q3 f4 e1 e4 hx
      go_wp2_with (at_builtin; refine Row.fence ?_)
      refine Row.unfence ?_
      have k6 := Bas.heap_new wr (.cells #[.int .u8 0, .int .u8 0] 5)
      have hb6 := (Below.refl wr.heap.size wr).alloc (Nat.le_refl _) (.cells #[.int .u8 0, .int .u8 0] 5)
      have HT6 := Bas.hid (HT.out.below hb6)
      have HB6 := Bas.hid (HB.out.trans (hb6.mono HB.out.size))
      generalize wr.alloc (.cells #[.int .u8 0, .int .u8 0] 5) = W6 at *
      generalize wr.heap.size = T6 at *
      clear hb6 HT HB
      refine Row.append_at rfl _ _ 30 5 rfl (.int .u8 0) 1 1 Try.underlying30 info8 rfl (by decide) w.heap.size vb _ _ rfl HT6.out.l (.slice (some ⟨T6, 0, none⟩) 2 2) 2 [.int .u8 0, .int .u8 0] rfl (leads_heap k6) rfl (by simp; rfl) (by unfold maxLen; omega) (by omega) HB6.out.size ?_
      intro v7 w7 h71 h72 _ h73
      have g7 : Grown W6 w.heap.size vb (stB p 2 ++ [0, 0]) v7 w7 := ⟨by simpa using h71, h72, h73.imp id fun h => ⟨_, h, Nat.le_refl _⟩⟩
      have HT7 := Bas.hid (HT6.out.growL g7)
      have HB7 := Bas.hid (g7.below HB6.out HB6.out.size (fun g hg => (Row.own_block HT6.out.l hg).1))
      obtain ⟨ad7, cp7, rfl⟩ := row_slice HT7.out.l
      clear h71 h72 h73 g7 HT6 HB6 k6
      go_wp2_with (at_builtin; refine Row.fence ?_)
      refine Row.unfence ?_
      refine Row.append_at rfl _ _ 30 5 rfl (.int .u8 0) 1 1 Try.underlying30 info8 rfl (by decide) w.heap.size _ _ _ rfl HT7.out.l (.slice ads sl cps) sl _ rfl (by have h := Row.leads_owned HT7.out.r; rw [HVS.out, ← HSL.out] at h; exact h) (by simp [HSL.out]) (by simp; intros; rfl) (by unfold maxLen; simp only [List.length_append, List.length_cons, List.length_nil]; omega) (by simp only [List.length_append, List.length_cons, List.length_nil]; omega) HB7.out.size ?_
      intro v9 w9 h91 h92 _ h93
      have h91' : w9.ownsRow w.heap.size 5 1 v9 (writeT p).length ((writeT p).map (Value.int .u8)) := by
        unfold writeT
        simpa only [List.map_append, List.length_append, HSL.out, Nat.add_assoc, List.append_assoc] using h91
      have HB9 := Bas.hid (HB7.out.grown h92 HB7.out.size (fun g hg => (Row.own_block HT7.out.l hg).1))
      have HO9 := Bas.hid h91'
      obtain ⟨ad9, cp9, rfl⟩ := row_slice h91'
      clear h91 h92 h93 h91' HT7
      go_wp2_with (fail)
      go_ret
      exact ⟨_, rfl, HO9.out, HB9.out⟩
end Tk
end Go.Proofs.Ytfocjagkhoonmaa
