/- The walk of the law PickOne. -/
import Derived.Test.YtdmhenlfhbigbaaPickPre
namespace Go.Proofs.Ytdmhenlfhbigbaa
open Go.RowKit
namespace Pk
open Ch Ft Go.Maps

set_option maxRecDepth 100000 in
set_option maxHeartbeats 16000000 in
theorem pickOne_core (a : Option Addr) (n c : Nat) (ka : Option Addr) (kn kc : Nat) (ba : Option Addr) (bn bc : Nat) (l : List (Int × Int)) (K : Nat → Int) (B : Nat → Bool) (w : World) (hok : CaseOk w a n c ka kn kc ba bn bc l K B) :
    Calls Try.prog 7 #[.agg #[.slice a n c, .slice ka kn kc, .slice ba bn bc]] w fun e w' => e = .returned (.bool true) ∧ Below w.heap.size w w' := by
  go_enter Try.func7, Try.ntmps7
  go_wp2_with (fail)
  have kc0 := Bas.heap_new w (.cells #[.slice a n c, .slice ka kn kc, .slice ba bn bc] 49)
  have HB0 := Bas.hid ((Below.refl w.heap.size w).alloc (Nat.le_refl _) (.cells #[.slice a n c, .slice ka kn kc, .slice ba bn bc] 49))
  generalize w.alloc (.cells #[.slice a n c, .slice ka kn kc, .slice ba bn bc] 49) = W0 at *
  obtain ⟨T0, hT0⟩ : ∃ T0, w.heap.size = T0 := ⟨_, rfl⟩
  have HT0 := Bas.hid hT0
  rw [hT0] at kc0 ⊢
  clear hT0
  refine (speaks_any _).mono ?_
  rintro e w1 ⟨rfl, hb1⟩
  have kc1 := (hb1.block _ (heap_lt kc0)).trans kc0
  have HB1 := Bas.hid (HB0.out.trans (hb1.mono HB0.out.size))
  clear hb1 HB0 kc0
  have c0 := cell_of_heap (i := 0) (v := .slice a n c) kc1 rfl
  have c1 := cell_of_heap (i := 1) (v := .slice ka kn kc) kc1 rfl
  have c2 := cell_of_heap (i := 2) (v := .slice ba bn bc) kc1 rfl
  go_wp2_with (fail)
  refine (big_any a ka ba n c kn kc bn bc w1).mono ?_
  rintro e w2 ⟨rfl, hb2⟩
  have kc2 := (hb2.block _ (heap_lt kc1)).trans kc1
  have HB2 := Bas.hid (HB1.out.trans (hb2.mono HB1.out.size))
  clear hb2 HB1 kc1 c0 c1 c2
  obtain ⟨bg, hbg⟩ : ∃ bg, (decide (100 < n) || decide (40 < kn)) = bg := ⟨_, rfl⟩
  have HBG := Bas.hid hbg
  rw [hbg]
  clear hbg
  cases bg with
  | true =>
    go_wp2_with (fail)
    go_ret
    exact ⟨rfl, HB2.out⟩
  | false =>
    have hbg := HBG.out
    simp only [Bool.or_eq_false_iff, decide_eq_false_iff_not] at hbg
    have hn100 : n ≤ 100 := by omega
    have hk40 : kn ≤ 40 := by omega
    have HOK := Bas.hid hok
    have hok2 := caseOk_below hok HB2.out
    have HFE := Bas.hid (features_any ka kn kc K ba bn bc B w2 (by omega) hok.b63 hok2.kinds hok2.excl)
    have HOK2 := Bas.hid hok2
    clear hok hok2 hbg HBG
    have c0 := cell_of_heap (i := 0) (v := .slice a n c) kc2 rfl
    have c1 := cell_of_heap (i := 1) (v := .slice ka kn kc) kc2 rfl
    have c2 := cell_of_heap (i := 2) (v := .slice ba bn bc) kc2 rfl
    go_wp2_with (fail)
    refine HFE.out.mono ?_
    rintro e w3 ⟨v6, v7, fs, rfl, hfs, ho6, ho7, hb3⟩
    have kc3 := (hb3.block _ (heap_lt kc2)).trans kc2
    have HB3 := Bas.hid (HB2.out.trans (hb3.mono HB2.out.size))
    have hfl : fs.length ≤ 40 := by rw [← hfs]; exact Nat.le_trans (featsN_len _ _ _) hk40
    have hfd : (fs.map FeatD.type).Nodup := by rw [← hfs]; exact featsN_nodup _ _ _
    have HFR := Bas.hid (feats_frow hfs ho6)
    have HRR := Bas.hid (feats_rrow ho7)
    have HFD := Bas.hid hfd
    have HOK3 := Bas.hid (caseOk_below HOK.out HB3.out)
    obtain ⟨a6, c6, rfl⟩ := own_slice ho6
    obtain ⟨a7, c7, rfl⟩ := own_slice ho7
    clear hb3 hfs ho6 ho7 HFE HOK2 HB2 c0 c1 c2 kc2 hfd
    have c0 := cell_of_heap (i := 0) (v := .slice a n c) kc3 rfl
    have c1 := cell_of_heap (i := 1) (v := .slice ka kn kc) kc3 rfl
    have c2 := cell_of_heap (i := 2) (v := .slice ba bn bc) kc3 rfl
    go_wp2_with (fail)
    refine (settle_any a n c l _ fs (fs.map fun _ => .slice none 0 0) w2.heap.size w3 HOK3.out.leads HOK3.out.len (by omega) HFR.out (by omega) HOK3.out.wf).mono ?_
    rintro e w4 ⟨v, ys, rfl, his, hown, hb4⟩
    have kc4 := (hb4.block _ (heap_lt kc3)).trans kc3
    have HB4 := Bas.hid (HB3.out.trans (hb4.mono HB3.out.size))
    have HFR4 := Bas.hid (fRow_below HFR.out hb4)
    have HRR4 := Bas.hid (rRow_below HRR.out hb4)
    have HOK4 := Bas.hid (caseOk_below HOK.out HB4.out)
    have hyl : ys.length ≤ 100 := by have := isSet_len his; rw [HOK4.out.len] at this; omega
    have HIS := Bas.hid his
    have hld := Row.leads_owned hown
    have HLD := Bas.hid hld
    have HON := Bas.hid (fun (t u : Int) w' (hb : Below w4.heap.size w4 w') => on_any v ys t u w' (Row.leads_below hld hb) his.1 (by omega))
    have HRON := Bas.hid (fun (t u : Int) (h : wf64 (t, u)) w' (hb : Below w4.heap.size w4 w') => ron_any a n c l _ fs _ t u w' (Row.leads_below HOK4.out.leads hb) HOK4.out.len (by omega) (rRow_below HRR4.out hb) (by omega) HOK4.out.wf h)
    have HOVR := Bas.hid (fun (a0 a1 b0 b1 : Int) (ha : wf64 (a0, a1)) (hb0 : wf64 (b0, b1)) w' (hb : Below w4.heap.size w4 w') => over_any a0 a1 b0 b1 _ fs _ w' (rRow_below HRR4.out hb) (by omega) (wf64_rng ha).2 (wf64_rng hb0).2)
    have HYW : Hid (∀ s ∈ ys, wf64 s) := fun s hs => HOK4.out.wf s (isSet_sub his s hs)
    obtain ⟨va, vc, rfl⟩ := own_slice hown
    have HVC := Bas.hid (own_cap hown).2
    obtain ⟨L, hL⟩ : ∃ L, ys.length = L := ⟨_, rfl⟩
    have HL := Bas.hid hL
    rw [hL] at HON HLD HVC hyl ⊢
    clear hb4 his hown hld hL HFR HRR HOK3 HB3 c0 c1 c2 kc3
    have c0 := cell_of_heap (i := 0) (v := .slice a n c) kc4 rfl
    have c1 := cell_of_heap (i := 1) (v := .slice ka kn kc) kc4 rfl
    have c2 := cell_of_heap (i := 2) (v := .slice ba bn bc) kc4 rfl
    go_wp2_with (fail)
    go_loopw [33] (fun vi wr => ∃ i : Nat, i ≤ L ∧ vi = .int .i64 i ∧ Below w4.heap.size w4 wr) (fun vi _ => L - (intOf vi).toNat)
    case atStart => exact ⟨0, Nat.zero_le _, rfl, Below.refl _ _⟩
    case round =>
      obtain ⟨i, hi, rfl, hb5⟩ := hrel
      have HB5 := Bas.hid hb5
      have kc5 := (hb5.block _ (heap_lt kc4)).trans kc4
      clear hb5 c0 c1 c2
      by_cases hin : i < L
      · have e1 : decide ((i : Int) < (L : Int)) = true := by simp; omega
        have e2 : decide (i < L) = true := by simp; omega
        have hiv : i ≤ vc := Nat.le_trans hi HVC.out.1
        have e3 : decide (i ≤ vc) = true := by simp; omega
        obtain ⟨s, hs⟩ : ∃ s, ys[i]? = some s := ⟨_, List.getElem?_eq_getElem (by rw [HL.out]; exact hin)⟩
        have hsm := List.mem_of_getElem? hs
        have HAP := Bas.hid (fun j x (hx : ys[j]? = some x) (hji : j < i) => one_apart HFD.out HIS.out hs hx (Nat.ne_of_gt hji))
        have HSW := Bas.hid (HYW.out _ hsm)
        obtain ⟨s0, s1⟩ := s
        obtain ⟨B1, O1, cp1, hv1, hcl⟩ := Row.leads_elem setC_len (Row.leads_below HLD.out HB5.out) hs (by omega)
        cases hv1
        have d0 := hcl 0 _ rfl
        have d1 := hcl 1 _ rfl
        simp only [Nat.add_zero] at d0
        have lB : B1 < wr.heap.size := World.block_lt_of_cell? _ _ d0
        clear hcl hs hsm
        go_wp2_with (fail)
        have q6 := Bas.heap_new wr (.cells #[.int .i64 s0, .int .i64 s1] 27)
        have HB6 := Bas.hid (HB5.out.alloc HB5.out.size (.cells #[.int .i64 s0, .int .i64 s1] 27))
        have kc6 := (Below.heap_alloc wr (.cells #[.int .i64 s0, .int .i64 s1] 27) _ (heap_lt kc5)).trans kc5
        generalize wr.alloc (.cells #[.int .i64 s0, .int .i64 s1] 27) = W6 at *
        obtain ⟨T6, hT6⟩ : ∃ T6, wr.heap.size = T6 := ⟨_, rfl⟩
        rw [hT6] at q6 ⊢
        have l6 := heap_lt q6
        clear d0 d1 kc5 hT6 lB HB5
        go_wp2_with (fail)
        go_loopw [42] (fun vi wi => ∃ j : Nat, j ≤ i ∧ vi = .int .i64 j ∧ Below W6.heap.size W6 wi) (fun vi _ => i - (intOf vi).toNat)
        case atStart => exact ⟨0, Nat.zero_le _, rfl, Below.refl _ _⟩
        case round =>
          obtain ⟨j, hj, rfl, hb7⟩ := hrel
          have HB7 := Bas.hid (HB6.out.trans (hb7.mono HB6.out.size))
          have HBI := Bas.hid hb7
          have q7 := (hb7.block _ l6).trans q6
          have kc7 := (hb7.block _ (heap_lt kc6)).trans kc6
          clear hb7
          by_cases hji : j < i
          · have e4 : decide ((j : Int) < (i : Int)) = true := by simp; omega
            have e5 : decide (j < i) = true := by simp; omega
            obtain ⟨x, hx⟩ : ∃ x, ys[j]? = some x := ⟨_, List.getElem?_eq_getElem (by rw [HL.out]; omega)⟩
            have hxm := List.mem_of_getElem? hx
            have hap := HAP.out j x hx hji
            have hxw := HYW.out _ hxm
            obtain ⟨x0, x1⟩ := x
            obtain ⟨B2, O2, cp2, hv2, hcl⟩ := Row.leads_elem setC_len (Row.leads_below HLD.out HB7.out) hx (by omega)
            cases hv2
            have d0 := hcl 0 _ rfl
            have d1 := hcl 1 _ rfl
            simp only [Nat.add_zero] at d0
            have lB : B1 < wr.heap.size := World.block_lt_of_cell? _ _ d0
            have HO1 := Bas.hid (fun w' hb => HOVR.out s0 s1 x0 x1 HSW.out hxw w' hb)
            rw [hap] at HO1
            have r0 := cell_of_heap (i := 0) (v := .int .i64 s0) q7 rfl
            have r1 := cell_of_heap (i := 1) (v := .int .i64 s1) q7 rfl
            have l7 := heap_lt q7
            clear hcl hx hxm hap hxw
            go_wp2_with (fail)
            have q8 := Bas.heap_new wr (.cells #[.int .i64 x0, .int .i64 x1] 27)
            have HB8 := Bas.hid (HB7.out.alloc HB7.out.size (.cells #[.int .i64 x0, .int .i64 x1] 27))
            have HBI8 := Bas.hid (HBI.out.alloc HBI.out.size (.cells #[.int .i64 x0, .int .i64 x1] 27))
            have q68 := (Below.heap_alloc wr (.cells #[.int .i64 x0, .int .i64 x1] 27) _ (heap_lt q7)).trans q7
            generalize wr.alloc (.cells #[.int .i64 x0, .int .i64 x1] 27) = W8 at *
            obtain ⟨T8, hT8⟩ : ∃ T8, wr.heap.size = T8 := ⟨_, rfl⟩
            rw [hT8] at q8 ⊢
            clear d0 d1 hT8 lB HB7 HBI q7 kc7 r0 r1
            refine (HO1.out _ HB8.out).mono ?_
            rintro e w9 ⟨rfl, hb9⟩
            have HB9 := Bas.hid (HBI8.out.trans (hb9.mono HBI8.out.size))
            clear hb9 HB8 HBI8 q68 q8
            go_wp2_with (fail)
            go_roundw
            case rel => exact ⟨j + 1, by omega, by go_num, HB9.out⟩
            case measure => simp [intOf]; omega
          · have hji2 : j = i := by omega
            subst hji2
            go_wp2_with (fail)
            go_roundw
            case rel => exact ⟨j + 1, by omega, by go_num, HB7.out⟩
            case measure => simp [intOf]; omega
      · have hin2 : L = i := by omega
        subst hin2
        have c0 := cell_of_heap (i := 0) (v := .slice a n c) kc5 rfl
        have HVC2 := HVC
        clear hin kc4 HVC
        go_wp2_with (fail)
        go_loopw [55] (fun vi wr' => ∃ j : Nat, j ≤ n ∧ vi = .int .i64 j ∧ Below w4.heap.size w4 wr') (fun vi _ => n - (intOf vi).toNat)
        case atStart => exact ⟨0, Nat.zero_le _, rfl, HB5.out⟩
        case round =>
          obtain ⟨j, hj, rfl, hb5⟩ := hrel
          clear kc5 c0 HB5
          have HB4' := Bas.hid hb5
          clear hb5
          by_cases hjn : j < n
          · have e1 : decide ((j : Int) < (n : Int)) = true := by simp; omega
            have e2 : decide (j < n) = true := by simp; omega
            obtain ⟨s, hs⟩ : ∃ s, l[j]? = some s := ⟨_, List.getElem?_eq_getElem (by rw [HOK4.out.len]; exact hjn)⟩
            have hsm := List.mem_of_getElem? hs
            have HST := Bas.hid (one_stands HFD.out HIS.out hsm)
            have HSW := Bas.hid (HOK4.out.wf _ hsm)
            obtain ⟨s0, s1⟩ := s
            obtain ⟨B1, O1, cp1, hv1, hcl⟩ := Row.leads_elem setC_len (Row.leads_below HOK4.out.leads HB4'.out) hs (by omega)
            cases hv1
            have d0 := hcl 0 _ rfl
            have d1 := hcl 1 _ rfl
            simp only [Nat.add_zero] at d0
            have lB : B1 < wr.heap.size := World.block_lt_of_cell? _ _ d0
            clear hcl hs hsm
            go_wp2_with (fail)
            have q6 := Bas.heap_new wr (.cells #[.int .i64 s0, .int .i64 s1] 27)
            have HB5 := Bas.hid (HB4'.out.alloc HB4'.out.size (.cells #[.int .i64 s0, .int .i64 s1] 27))
            generalize wr.alloc (.cells #[.int .i64 s0, .int .i64 s1] 27) = W6 at *
            obtain ⟨T6, hT6⟩ : ∃ T6, wr.heap.size = T6 := ⟨_, rfl⟩
            rw [hT6] at q6 ⊢
            clear d0 d1 hT6 HB4' lB
            refine (rright_any s0 s1 _).mono ?_
            rintro e w7 ⟨rfl, hb7⟩
            have HB7 := Bas.hid (HB5.out.trans (hb7.mono HB5.out.size))
            have q7 := (hb7.block _ (heap_lt q6)).trans q6
            clear hb7 HB5 q6
            obtain ⟨rs, hrs⟩ : ∃ rs, (!rightB (s0, s1)) = rs := ⟨_, rfl⟩
            have HRS := Bas.hid hrs
            obtain ⟨rr, hrr⟩ : ∃ rr, rightB (s0, s1) = rr := ⟨_, rfl⟩
            have hrr2 : (!rr) = rs := by rw [← hrr]; exact hrs
            rw [hrr]
            clear hrs hrr
            go_wp2_with (fail)
            go_loopw [12, 64] (fun vb vi wi => ∃ (i : Nat) (st : Bool), i ≤ L ∧ vb = .bool st ∧ vi = .int .i64 i ∧ (rs || (ys.take i).any (fun x => overB fs (s0, s1) x)) = st ∧ Below w7.heap.size w7 wi) (fun _ vi _ => L - (intOf vi).toNat)
            case atStart => exact ⟨0, rs, Nat.zero_le _, by first | rfl | rw [hrr2], rfl, by simp, Below.refl _ _⟩
            case round =>
              obtain ⟨i, st, hi2, rfl, rfl, hst, hb8⟩ := hrel
              have HST8 := Bas.hid hst
              have HBI := Bas.hid hb8
              have HB8 := Bas.hid (HB7.out.trans (hb8.mono HB7.out.size))
              have q8 := (hb8.block _ (heap_lt q7)).trans q7
              clear hst hb8
              by_cases hil : i < L
              · have e3 : decide ((i : Int) < (L : Int)) = true := by simp; omega
                have e4 : decide (i < L) = true := by simp; omega
                obtain ⟨x, hx⟩ : ∃ x, ys[i]? = some x := ⟨_, List.getElem?_eq_getElem (by rw [HL.out]; exact hil)⟩
                have hxw := HYW.out _ (List.mem_of_getElem? hx)
                have hnx : (rs || (ys.take (i + 1)).any (fun x => overB fs (s0, s1) x)) = (st || overB fs (s0, s1) x) := by
                  rw [List.take_add_one, hx, List.any_append, ← HST8.out]; simp [Bool.or_assoc]
                have HNX := Bas.hid hnx
                clear hnx
                obtain ⟨x0, x1⟩ := x
                obtain ⟨B2, O2, cp2, hv2, hcl⟩ := Row.leads_elem setC_len (Row.leads_below HLD.out HB8.out) hx (by omega)
                cases hv2
                have d0 := hcl 0 _ rfl
                have d1 := hcl 1 _ rfl
                simp only [Nat.add_zero] at d0
                have lB : B2 < wr.heap.size := World.block_lt_of_cell? _ _ d0
                have HO1 := Bas.hid (fun w' hb => HOVR.out s0 s1 x0 x1 HSW.out hxw w' hb)
                obtain ⟨ob, hob⟩ : ∃ ob, overB fs (s0, s1) (x0, x1) = ob := ⟨_, rfl⟩
                rw [hob] at HO1 HNX
                clear hcl hx hxw hob
                cases st with
                | true =>
                  go_wp2_with (fail)
                  have HBI8 := Bas.hid (HBI.out.alloc HBI.out.size (.cells #[.int .i64 x0, .int .i64 x1] 27))
                  generalize wr.alloc (.cells #[.int .i64 x0, .int .i64 x1] 27) = W8 at *
                  clear HBI d0 d1
                  go_roundw
                  case rel => exact ⟨i + 1, true, by omega, rfl, by go_num, by rw [HNX.out]; rfl, HBI8.out⟩
                  case measure => simp [intOf]; omega
                | false =>
                  have r0 := cell_of_heap (i := 0) (v := .int .i64 s0) q8 rfl
                  have r1 := cell_of_heap (i := 1) (v := .int .i64 s1) q8 rfl
                  have l8 := heap_lt q8
                  go_wp2_with (fail)
                  have q9 := Bas.heap_new wr (.cells #[.int .i64 x0, .int .i64 x1] 27)
                  have HB9 := Bas.hid (HB8.out.alloc HB8.out.size (.cells #[.int .i64 x0, .int .i64 x1] 27))
                  have HBI8 := Bas.hid (HBI.out.alloc HBI.out.size (.cells #[.int .i64 x0, .int .i64 x1] 27))
                  have q68 := (Below.heap_alloc wr (.cells #[.int .i64 x0, .int .i64 x1] 27) _ (heap_lt q8)).trans q8
                  generalize wr.alloc (.cells #[.int .i64 x0, .int .i64 x1] 27) = W8 at *
                  obtain ⟨T8, hT8⟩ : ∃ T8, wr.heap.size = T8 := ⟨_, rfl⟩
                  rw [hT8] at q9 ⊢
                  clear d0 d1 hT8 lB HB8 HBI q8 r0 r1
                  refine (HO1.out _ HB9.out).mono ?_
                  rintro e w10 ⟨rfl, hb10⟩
                  have HB10 := Bas.hid (HBI8.out.trans (hb10.mono HBI8.out.size))
                  clear hb10 HBI8 HB9 q68 q9
                  go_wp2_with (fail)
                  go_roundw
                  case rel => exact ⟨i + 1, ob, by omega, rfl, by go_num, by rw [HNX.out]; rfl, HB10.out⟩
                  case measure => simp [intOf]; omega
              · have hil2 : i = L := by omega
                subst hil2
                have hst := HST.out
                have htk : ys.take i = ys := List.take_of_length_le (by rw [HL.out]; exact Nat.le_refl _)
                have h8 := HST8.out
                rw [htk, ← HRS.out, hst] at h8
                subst h8
                clear hst htk HST8 HST HRS
                go_wp2_with (fail)
                go_roundw
                case rel => exact ⟨j + 1, by omega, by go_num, HB8.out⟩
                case measure => simp [intOf]; omega
          · have hjn2 : j = n := by omega
            subst hjn2
            have HBE := Bas.hid (HB4.out.trans (HB4'.out.mono HB4.out.size))
            go_wp2_with (fail)
            go_ret
            exact ⟨rfl, HBE.out⟩

set_option maxRecDepth 100000 in
theorem pickOne_walk {H : Type} {enc : TypeId × Value → H} (v : Value) (d : DataW H) (p : List MemPlace) (W : World) {base : Nat} (hv : Value.okWide Try.prog W .any base 49 v) (ht : DataW.Trod enc Try.prog W 0 (fun _ => true) true 49 v d p) :
    Calls Try.prog 7 #[v] W fun e w' => e = .returned (.bool true) ∧ Below W.heap.size W w' := by
  obtain ⟨a, n, c, ka, kn, kc, ba, bn, bc, l, K, B, rfl, hok⟩ := open_case v d p W hv ht
  exact pickOne_core a n c ka kn kc ba bn bc l K B W hok
end Pk
end Go.Proofs.Ytdmhenlfhbigbaa
