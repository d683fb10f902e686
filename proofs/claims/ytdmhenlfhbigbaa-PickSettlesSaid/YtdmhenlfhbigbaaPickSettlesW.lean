/- The walk of the law PickSettles. -/
import Derived.Test.YtdmhenlfhbigbaaPickPre
namespace Go.Proofs.Ytdmhenlfhbigbaa
open Go.RowKit
namespace Pk
open Ch Ft Go.Maps

set_option maxRecDepth 100000 in
set_option maxHeartbeats 16000000 in
theorem pickSettles_core (a : Option Addr) (n c : Nat) (ka : Option Addr) (kn kc : Nat) (ba : Option Addr) (bn bc : Nat) (l : List (Int × Int)) (K : Nat → Int) (B : Nat → Bool) (x y : Int) (w : World) (hok : CaseOk w a n c ka kn kc ba bn bc l K B) (hxy : wf64 (x, y)) :
    Calls Try.prog 4 #[.agg #[.slice a n c, .slice ka kn kc, .slice ba bn bc], .agg #[.int .i64 x, .int .i64 y]] w fun e w' => e = .returned (.bool true) ∧ Below w.heap.size w w' := by
  go_enter Try.func4, Try.ntmps4
  go_wp2_with (fail)
  have kc0 := (Below.heap_alloc (w.alloc (.cells #[.slice a n c, .slice ka kn kc, .slice ba bn bc] 49)) (.cells #[.int .i64 x, .int .i64 y] 27) _ (by simp)).trans (Bas.heap_new w (.cells #[.slice a n c, .slice ka kn kc, .slice ba bn bc] 49))
  have kx0 := Bas.heap_new2 w (.cells #[.slice a n c, .slice ka kn kc, .slice ba bn bc] 49) (.cells #[.int .i64 x, .int .i64 y] 27)
  have HB0 := Bas.hid (((Below.refl w.heap.size w).alloc (Nat.le_refl _) (.cells #[.slice a n c, .slice ka kn kc, .slice ba bn bc] 49)).alloc (by simp) (.cells #[.int .i64 x, .int .i64 y] 27))
  generalize (w.alloc (.cells #[.slice a n c, .slice ka kn kc, .slice ba bn bc] 49)).alloc (.cells #[.int .i64 x, .int .i64 y] 27) = W0 at *
  obtain ⟨T0, hT0⟩ : ∃ T0, w.heap.size = T0 := ⟨_, rfl⟩
  have HT0 := Bas.hid hT0
  rw [hT0] at kc0 kx0 ⊢
  clear hT0
  refine (speaks_any _).mono ?_
  rintro e w1 ⟨rfl, hb1⟩
  have kc1 := (hb1.block _ (heap_lt kc0)).trans kc0
  have kx1 := (hb1.block _ (heap_lt kx0)).trans kx0
  have HB1 := Bas.hid (HB0.out.trans (hb1.mono HB0.out.size))
  clear hb1 HB0 kc0 kx0
  have c0 := cell_of_heap (i := 0) (v := .slice a n c) kc1 rfl
  have c1 := cell_of_heap (i := 1) (v := .slice ka kn kc) kc1 rfl
  have c2 := cell_of_heap (i := 2) (v := .slice ba bn bc) kc1 rfl
  go_wp2_with (fail)
  refine (big_any a ka ba n c kn kc bn bc w1).mono ?_
  rintro e w2 ⟨rfl, hb2⟩
  have kc2 := (hb2.block _ (heap_lt kc1)).trans kc1
  have kx2 := (hb2.block _ (heap_lt kx1)).trans kx1
  have HB2 := Bas.hid (HB1.out.trans (hb2.mono HB1.out.size))
  clear hb2 HB1 kc1 c0 c1 c2 kx1
  obtain ⟨bg, hbg⟩ : ∃ bg, (decide (100 < n) || decide (40 < kn)) = bg := ⟨_, rfl⟩
  have HBG := Bas.hid hbg
  rw [hbg]
  clear hbg
  cases bg with
  | true =>
    go_wp2_with (fail)
    go_ret
    exact ⟨rfl, HB2.out⟩
  | false =>
    have hbg := HBG.out
    simp only [Bool.or_eq_false_iff, decide_eq_false_iff_not] at hbg
    have hn100 : n ≤ 100 := by omega
    have hk40 : kn ≤ 40 := by omega
    have HOK := Bas.hid hok
    have hok2 := caseOk_below hok HB2.out
    have HFE := Bas.hid (features_any ka kn kc K ba bn bc B w2 (by omega) hok.b63 hok2.kinds hok2.excl)
    have HOK2 := Bas.hid hok2
    clear hok hok2 hbg HBG
    have c0 := cell_of_heap (i := 0) (v := .slice a n c) kc2 rfl
    have c1 := cell_of_heap (i := 1) (v := .slice ka kn kc) kc2 rfl
    have c2 := cell_of_heap (i := 2) (v := .slice ba bn bc) kc2 rfl
    go_wp2_with (fail)
    refine HFE.out.mono ?_
    rintro e w3 ⟨v6, v7, fs, rfl, hfs, ho6, ho7, hb3⟩
    have kc3 := (hb3.block _ (heap_lt kc2)).trans kc2
    have kx3 := (hb3.block _ (heap_lt kx2)).trans kx2
    have HB3 := Bas.hid (HB2.out.trans (hb3.mono HB2.out.size))
    have hfl : fs.length ≤ 40 := by rw [← hfs]; exact Nat.le_trans (featsN_len _ _ _) hk40
    have hfd : (fs.map FeatD.type).Nodup := by rw [← hfs]; exact featsN_nodup _ _ _
    have HFR := Bas.hid (feats_frow hfs ho6)
    have HRR := Bas.hid (feats_rrow ho7)
    have HFD := Bas.hid hfd
    have HOK3 := Bas.hid (caseOk_below HOK.out HB3.out)
    obtain ⟨a6, c6, rfl⟩ := own_slice ho6
    obtain ⟨a7, c7, rfl⟩ := own_slice ho7
    clear hb3 hfs ho6 ho7 HFE HOK2 HB2 c0 c1 c2 kc2 kx2 hfd
    have c0 := cell_of_heap (i := 0) (v := .slice a n c) kc3 rfl
    have c1 := cell_of_heap (i := 1) (v := .slice ka kn kc) kc3 rfl
    have c2 := cell_of_heap (i := 2) (v := .slice ba bn bc) kc3 rfl
    go_wp2_with (fail)
    refine (settle_any a n c l _ fs (fs.map fun _ => .slice none 0 0) w2.heap.size w3 HOK3.out.leads HOK3.out.len (by omega) HFR.out (by omega) HOK3.out.wf).mono ?_
    rintro e w4 ⟨v, ys, rfl, his, hown, hb4⟩
    have kc4 := (hb4.block _ (heap_lt kc3)).trans kc3
    have kx4 := (hb4.block _ (heap_lt kx3)).trans kx3
    have HB4 := Bas.hid (HB3.out.trans (hb4.mono HB3.out.size))
    have HFR4 := Bas.hid (fRow_below HFR.out hb4)
    have HRR4 := Bas.hid (rRow_below HRR.out hb4)
    have HOK4 := Bas.hid (caseOk_below HOK.out HB4.out)
    have hyl : ys.length ≤ 100 := by have := isSet_len his; rw [HOK4.out.len] at this; omega
    have HIS := Bas.hid his
    have hld := Row.leads_owned hown
    have HLD := Bas.hid hld
    have HON := Bas.hid (fun (t u : Int) w' (hb : Below w4.heap.size w4 w') => on_any v ys t u w' (Row.leads_below hld hb) his.1 (by omega))
    have HRON := Bas.hid (fun (t u : Int) (h : wf64 (t, u)) w' (hb : Below w4.heap.size w4 w') => ron_any a n c l _ fs _ t u w' (Row.leads_below HOK4.out.leads hb) HOK4.out.len (by omega) (rRow_below HRR4.out hb) (by omega) HOK4.out.wf h)
    have HOVR := Bas.hid (fun (a0 a1 b0 b1 : Int) (ha : wf64 (a0, a1)) (hb0 : wf64 (b0, b1)) w' (hb : Below w4.heap.size w4 w') => over_any a0 a1 b0 b1 _ fs _ w' (rRow_below HRR4.out hb) (by omega) (wf64_rng ha).2 (wf64_rng hb0).2)
    have HYW : Hid (∀ s ∈ ys, wf64 s) := fun s hs => HOK4.out.wf s (isSet_sub his s hs)
    obtain ⟨va, vc, rfl⟩ := own_slice hown
    have HVC := Bas.hid (own_cap hown).2
    obtain ⟨L, hL⟩ : ∃ L, ys.length = L := ⟨_, rfl⟩
    have HL := Bas.hid hL
    rw [hL] at HON HLD HVC hyl ⊢
    clear hb4 his hown hld hL HFR HRR HOK3 HB3 c0 c1 c2 kc3 kx3
    have c0 := cell_of_heap (i := 0) (v := .slice a n c) kc4 rfl
    have c1 := cell_of_heap (i := 1) (v := .slice ka kn kc) kc4 rfl
    have c2 := cell_of_heap (i := 2) (v := .slice ba bn bc) kc4 rfl
    go_wp2_with (fail)
    go_loopw [30] (fun vi wr => ∃ i : Nat, i ≤ L ∧ vi = .int .i64 i ∧ Below w4.heap.size w4 wr) (fun vi _ => L - (intOf vi).toNat)
    case atStart => exact ⟨0, Nat.zero_le _, rfl, Below.refl _ _⟩
    case round =>
      obtain ⟨i, hi, rfl, hb5⟩ := hrel
      have HB5 := Bas.hid hb5
      have kc5 := (hb5.block _ (heap_lt kc4)).trans kc4
      clear hb5 c0 c1 c2
      by_cases hin : i < L
      · have e1 : decide ((i : Int) < (L : Int)) = true := by simp; omega
        have e2 : decide (i < L) = true := by simp; omega
        obtain ⟨s, hs⟩ : ∃ s, ys[i]? = some s := ⟨_, List.getElem?_eq_getElem (by rw [HL.out]; exact hin)⟩
        have hsm := List.mem_of_getElem? hs
        have HPREV : Hid (∀ j, i = j + 1 → ∃ p, ys[j]? = some p ∧ ltP p s = true) := fun j hj => by
          have hjl : j < ys.length := by rw [HL.out]; omega
          refine ⟨ys[j], List.getElem?_eq_getElem hjl, ?_⟩
          obtain ⟨h1, h2⟩ := List.getElem?_eq_some_iff.1 hs
          rw [← h2]
          exact List.pairwise_iff_getElem.1 HIS.out.1 j i hjl h1 (by omega)
        obtain ⟨s0, s1⟩ := s
        obtain ⟨B1, O1, cp1, hv1, hcl⟩ := Row.leads_elem setC_len (Row.leads_below HLD.out HB5.out) hs (by omega)
        cases hv1
        have d0 := hcl 0 _ rfl
        have d1 := hcl 1 _ rfl
        simp only [Nat.add_zero] at d0
        have lB : B1 < wr.heap.size := World.block_lt_of_cell? _ _ d0
        have hron : refOn fs l (s0, s1) = true := by rw [← refOn_mem HFD.out HIS.out]; exact decide_eq_true hsm
        have HR1 := Bas.hid (fun w' hb => HRON.out s0 s1 (HYW.out _ hsm) w' hb)
        rw [hron] at HR1
        clear hcl hs hsm hron
        go_wp2_with (fail)
        have q6 := Bas.heap_new wr (.cells #[.int .i64 s0, .int .i64 s1] 27)
        have HB6 := Bas.hid (HB5.out.alloc HB5.out.size (.cells #[.int .i64 s0, .int .i64 s1] 27))
        have kc6 := (Below.heap_alloc wr (.cells #[.int .i64 s0, .int .i64 s1] 27) _ (heap_lt kc5)).trans kc5
        have HAL := Bas.hid ((Below.refl wr.heap.size wr).alloc (Nat.le_refl _) (.cells #[.int .i64 s0, .int .i64 s1] 27))
        generalize wr.alloc (.cells #[.int .i64 s0, .int .i64 s1] 27) = W6 at *
        obtain ⟨T6, hT6⟩ : ∃ T6, wr.heap.size = T6 := ⟨_, rfl⟩
        rw [hT6] at q6 ⊢
        have l6 := heap_lt q6
        have lT := heap_lt kc6
        have c0 := cell_of_heap (i := 0) (v := .slice a n c) kc6 rfl
        have q0 := cell_of_heap (i := 0) (v := .int .i64 s0) q6 rfl
        have q1 := cell_of_heap (i := 1) (v := .int .i64 s1) q6 rfl
        have HT6 := Bas.hid hT6
        clear d0 d1 kc5 q6 hT6
        have HB5' := HB5
        clear HB5
        have HB5 := HB6
        by_cases hi0 : i = 0
        · subst hi0
          have e3 : decide (((0 : Nat) : Int) > 0) = false := by decide
          have e4 : decide ((0 : Int) < ((0 : Nat) : Int)) = false := by decide
          obtain ⟨I, F, hI, HF⟩ := Bas.fam W6.heap.size W6
          have hB0 : W6.heap.size ≤ W6.heap.size := Nat.le_refl _
          have x0 := fun q => Bas.cell_fam HF l6 q0 q
          have x1 := fun q => Bas.cell_fam HF l6 q1 q
          have y0 := fun q => Bas.cell_fam HF lT c0 q
          have hst := HF.1 _ ((Below.refl _ _).drew)
          have HST := Bas.hid hst
          clear hst q0 q1 c0
          refine Bas.region_fam (by kernel_rfl) (by kernel_rfl) HST.out ?_
          repeat (go_big_quiet_step ((go_at_call 18; with_reducible exact Bas.call_fam HF hB0 (HR1.out _ (HB5.out.trans ((HF.2 _).mono HB5.out.size))))))
          refine wpQuiet_nil ?_
          intro i7
          have HB7 := Bas.hid (HB6.out.trans ((HF.2 i7).mono HB6.out.size))
          clear x0 x1 y0
          go_wp2_with (fail)
          go_roundw
          case rel => exact ⟨0 + 1, by omega, by go_num, HB7.out⟩
          case measure => simp [intOf]; omega
        · obtain ⟨j, hj⟩ : ∃ j, i = j + 1 := ⟨i - 1, by omega⟩
          have e3 : decide ((i : Int) > 0) = true := by simp; omega
          have e4 : decide ((0 : Int) < (i : Int)) = true := by simp; omega
          have e5 : (i : Int) - 1 = (j : Int) := by omega
          have hji : j < L := by omega
          have e6 : decide ((j : Int) < (L : Int)) = true := by simp; omega
          have e7 : decide (j < L) = true := by simp; omega
          obtain ⟨pp, hp, hlt⟩ := HPREV.out j hj
          obtain ⟨p0, p1⟩ := pp
          obtain ⟨B2, O2, cp2, hv2, hcl⟩ := Row.leads_elem setC_len (Row.leads_below HLD.out HB6.out) hp (by omega)
          cases hv2
          have g0 := hcl 0 _ rfl
          have g1 := hcl 1 _ rfl
          simp only [Nat.add_zero] at g0
          have lG : B1 < W6.heap.size := World.block_lt_of_cell? _ _ g0
          simp only [ltP, decide_eq_true_eq] at hlt
          clear hcl hp
          by_cases hp0 : p0 = s0
          · subst hp0
            have f1 : decide (p0 > p0) = false := by simp
            have f2 : (p0 == p0) = true := by simp
            have f3 : decide (p1 ≥ s1) = false := by simp; omega
            have f4 : decide (s1 ≤ p1) = false := by simp; omega
            clear hlt
            obtain ⟨I, F, hI, HF⟩ := Bas.fam W6.heap.size W6
            have hB0 : W6.heap.size ≤ W6.heap.size := Nat.le_refl _
            have x0 := fun q => Bas.cell_fam HF l6 q0 q
            have x1 := fun q => Bas.cell_fam HF l6 q1 q
            have y0 := fun q => Bas.cell_fam HF lT c0 q
            have z0 := fun q => Bas.cell_fam HF lG g0 q
            have z1 := fun q => Bas.cell_fam HF lG g1 q
            have hst := HF.1 _ ((Below.refl _ _).drew)
            have HST := Bas.hid hst
            clear hst q0 q1 c0 g0 g1
            refine Bas.region_fam (by kernel_rfl) (by kernel_rfl) HST.out ?_
            repeat (go_big_quiet_step ((go_at_call 18; with_reducible exact Bas.call_fam HF hB0 (HR1.out _ (HB5.out.trans ((HF.2 _).mono HB5.out.size))))))
            refine wpQuiet_nil ?_
            intro i7
            have HB7 := Bas.hid (HB6.out.trans ((HF.2 i7).mono HB6.out.size))
            clear x0 x1 y0 z0 z1
            go_wp2_with (fail)
            go_roundw
            case rel => exact ⟨i + 1, by omega, by go_num, HB7.out⟩
            case measure => simp [intOf]; omega
          · have f1 : decide (p0 > s0) = false := by simp; omega
            have f2 : (p0 == s0) = false := by simpa using hp0
            have f3 : decide (s0 < p0) = false := by simp; omega
            have f4 : decide (p0 = s0) = false := by simpa using hp0
            clear hlt hp0
            obtain ⟨I, F, hI, HF⟩ := Bas.fam W6.heap.size W6
            have hB0 : W6.heap.size ≤ W6.heap.size := Nat.le_refl _
            have x0 := fun q => Bas.cell_fam HF l6 q0 q
            have x1 := fun q => Bas.cell_fam HF l6 q1 q
            have y0 := fun q => Bas.cell_fam HF lT c0 q
            have z0 := fun q => Bas.cell_fam HF lG g0 q
            have z1 := fun q => Bas.cell_fam HF lG g1 q
            have hst := HF.1 _ ((Below.refl _ _).drew)
            have HST := Bas.hid hst
            clear hst q0 q1 c0 g0 g1
            refine Bas.region_fam (by kernel_rfl) (by kernel_rfl) HST.out ?_
            repeat (go_big_quiet_step ((go_at_call 18; with_reducible exact Bas.call_fam HF hB0 (HR1.out _ (HB5.out.trans ((HF.2 _).mono HB5.out.size))))))
            refine wpQuiet_nil ?_
            intro i7
            have HB7 := Bas.hid (HB6.out.trans ((HF.2 i7).mono HB6.out.size))
            clear x0 x1 y0 z0 z1
            go_wp2_with (fail)
            go_roundw
            case rel => exact ⟨i + 1, by omega, by go_num, HB7.out⟩
            case measure => simp [intOf]; omega
      · have hin2 : i = L := by omega
        subst hin2
        have c0 := cell_of_heap (i := 0) (v := .slice a n c) kc5 rfl
        have kx5 := (HB5.out.block _ (heap_lt kx4)).trans kx4
        clear hin kx4 kc4
        go_wp2_with (fail)
        go_loopw [82] (fun vi wr' => ∃ j : Nat, j ≤ n ∧ vi = .int .i64 j ∧ Below w4.heap.size w4 wr' ∧ wr'.heap[T0]? = some (.cells #[.slice a n c, .slice ka kn kc, .slice ba bn bc] 49) ∧ wr'.heap[T0 + 1]? = some (.cells #[.int .i64 x, .int .i64 y] 27)) (fun vi _ => n - (intOf vi).toNat)
        case atStart => exact ⟨0, Nat.zero_le _, rfl, HB5.out, kc5, kx5⟩
        case round =>
          obtain ⟨j, hj, rfl, hb5, kc6, kx6⟩ := hrel
          clear kc5 kx5 c0 HB5
          have HB4' := Bas.hid hb5
          clear hb5
          by_cases hjn : j < n
          · have e1 : decide ((j : Int) < (n : Int)) = true := by simp; omega
            have e2 : decide (j < n) = true := by simp; omega
            obtain ⟨s, hs⟩ : ∃ s, l[j]? = some s := ⟨_, List.getElem?_eq_getElem (by rw [HOK4.out.len]; exact hjn)⟩
            have hsm := List.mem_of_getElem? hs
            obtain ⟨s0, s1⟩ := s
            obtain ⟨B1, O1, cp1, hv1, hcl⟩ := Row.leads_elem setC_len (Row.leads_below HOK4.out.leads HB4'.out) hs (by omega)
            cases hv1
            have d0 := hcl 0 _ rfl
            have d1 := hcl 1 _ rfl
            simp only [Nat.add_zero] at d0
            have lB : B1 < wr.heap.size := World.block_lt_of_cell? _ _ d0
            have HR1 := Bas.hid (fun w' hb => HRON.out s0 s1 (HOK4.out.wf _ hsm) w' hb)
            have HO1 := Bas.hid (fun w' hb => HON.out s0 s1 w' hb)
            simp only [refOn_mem HFD.out HIS.out] at HO1
            obtain ⟨bb, hbb⟩ : ∃ bb, refOn fs l (s0, s1) = bb := ⟨_, rfl⟩
            rw [hbb] at HO1 HR1
            clear hcl hs hsm hbb
            as_aux_lemma =>
              go_wp2_with (fail)
              have q6 := Bas.heap_new wr (.cells #[.int .i64 s0, .int .i64 s1] 27)
              have HB5 := Bas.hid (HB4'.out.alloc HB4'.out.size (.cells #[.int .i64 s0, .int .i64 s1] 27))
              have kc7 := (Below.heap_alloc wr (.cells #[.int .i64 s0, .int .i64 s1] 27) _ (heap_lt kc6)).trans kc6
              have kx7 := (Below.heap_alloc wr (.cells #[.int .i64 s0, .int .i64 s1] 27) _ (heap_lt kx6)).trans kx6
              generalize wr.alloc (.cells #[.int .i64 s0, .int .i64 s1] 27) = W6 at *
              obtain ⟨T6, hT6⟩ : ∃ T6, wr.heap.size = T6 := ⟨_, rfl⟩
              rw [hT6] at q6 ⊢
              have l6 := heap_lt q6
              have lT := heap_lt kc7
              have lX := heap_lt kx7
              have c0 := cell_of_heap (i := 0) (v := .slice (some ⟨B1, O1, none⟩) n c) kc7 rfl
              have q0 := cell_of_heap (i := 0) (v := .int .i64 s0) q6 rfl
              have q1 := cell_of_heap (i := 1) (v := .int .i64 s1) q6 rfl
              have HT6 := Bas.hid hT6
              clear d0 d1 q6 hT6 kc6 kx6
              refine' Pl.region_v0 112 [] [0, 1, 2, 3, 4, 5, 6, 7, 8] [] _ (by kernel_rfl) (by kernel_rfl) (by simp) (fun _ _ _ _ e h => ⟨e ▸ h.1, h.2⟩) ?_ ?_
              rotate_left
              · intro I F hI hF
                simp only [Pl.selN, List.nil_append, List.drop_succ_cons, List.drop_zero]
                have x0 := fun q => hF.cell l6 q0 q
                have x1 := fun q => hF.cell l6 q1 q
                have y0 := fun q => hF.cell lT c0 q
                repeat (go_big_quiet_step (first | (go_at_call 18; with_reducible exact hF.call (HR1.out _ (hF.on HB5.out _))) | (go_at_call 19; with_reducible exact hF.call (HO1.out _ (hF.on HB5.out _)))))
                refine wpQuiet_nil ?_
                rfl
              intro w7 hw7
              simp only [Pl.selN]
              have HB7 := Bas.hid (HB5.out.trans (hw7.mono HB5.out.size))
              have kc8 := (hw7.block _ lT).trans kc7
              have kx8 := (hw7.block _ lX).trans kx7
              clear hw7 c0 q0 q1 HB5
              have hbb : (bb != bb) = false := by cases bb <;> rfl
              go_wp2_with (fail)
              go_roundw
              case rel => exact ⟨j + 1, by omega, by go_num, HB7.out, kc8, kx8⟩
              case measure => simp [intOf]; omega
          · have hjn2 : j = n := by omega
            subst hjn2
            have HR1 := Bas.hid (fun w' hb => HRON.out x y hxy w' hb)
            have HO1 := Bas.hid (fun w' hb => HON.out x y w' hb)
            simp only [refOn_mem HFD.out HIS.out] at HO1
            obtain ⟨bb, hbb⟩ : ∃ bb, refOn fs l (x, y) = bb := ⟨_, rfl⟩
            rw [hbb] at HO1 HR1
            have HRA := Bas.hid (fun w' => right_any x y w')
            have HRB := Bas.hid (fun w' => rright_any x y w')
            obtain ⟨rb, hrb⟩ : ∃ rb, rightB (x, y) = rb := ⟨_, rfl⟩
            rw [hrb] at HRA HRB
            have lT := heap_lt kc6
            have lX := heap_lt kx6
            have c0 := cell_of_heap (i := 0) (v := .slice a j c) kc6 rfl
            have q0 := cell_of_heap (i := 0) (v := .int .i64 x) kx6 rfl
            have q1 := cell_of_heap (i := 1) (v := .int .i64 y) kx6 rfl
            have HB5 := HB4'
            clear hjn hbb hrb
            as_aux_lemma =>
              have hbb : (bb == bb) = true := by cases bb <;> rfl
              have hrb : (rb == rb) = true := by cases rb <;> rfl
              go_wp2_with (fail)
              refine' Pl.region_v0 112 [] [0, 1, 2, 3, 4, 5, 6, 7, 8, 9, 10, 11, 12, 13, 14, 15, 16] [] _ (by kernel_rfl) (by kernel_rfl) (by simp) (fun _ _ _ _ e h => ⟨e ▸ h.1, h.2⟩) ?_ ?_
              rotate_left
              · intro I F hI hF
                simp only [Pl.selN, List.nil_append, List.drop_succ_cons, List.drop_zero]
                have x0 := fun q => hF.cell lX q0 q
                have x1 := fun q => hF.cell lX q1 q
                have y0 := fun q => hF.cell lT c0 q
                repeat (go_big_quiet_step (first | (go_at_call 18; with_reducible exact hF.call (HR1.out _ (hF.on HB5.out _))) | (go_at_call 19; with_reducible exact hF.call (HO1.out _ (hF.on HB5.out _))) | (go_at_call 20; with_reducible exact hF.call (HRA.out _)) | (go_at_call 21; with_reducible exact hF.call (HRB.out _))))
                refine wpQuiet_nil ?_
                rfl
              intro w7 hw7
              simp only [Pl.selN]
              have HB7 := Bas.hid (HB4.out.trans ((HB5.out.trans (hw7.mono HB5.out.size)).mono HB4.out.size))
              clear hw7 c0 q0 q1 HB5
              go_wp2_with (fail)
              go_ret
              exact ⟨rfl, HB7.out⟩

set_option maxRecDepth 100000 in
theorem pickSettles_walk {H : Type} {enc : TypeId × Value → H} (v : Value) (d : DataW H) (p : List MemPlace) (v1 : Value) (d1 : DataW H) (p1 : List MemPlace) (W : World) {base base1 : Nat} (hv : Value.okWide Try.prog W .any base 49 v) (ht : DataW.Trod enc Try.prog W 0 (fun _ => true) true 49 v d p) (hv1 : Value.okWide Try.prog W .any base1 27 v1) (ht1 : DataW.Trod enc Try.prog W 0 (fun _ => true) true 27 v1 d1 p1) :
    Calls Try.prog 4 #[v, v1] W fun e w' => e = .returned (.bool true) ∧ Below W.heap.size W w' := by
  obtain ⟨a, n, c, ka, kn, kc, ba, bn, bc, l, K, B, rfl, hok⟩ := open_case v d p W hv ht
  obtain ⟨x, y, rfl, hxy⟩ := open_one v1 d1 p1 W hv1 ht1
  exact pickSettles_core a n c ka kn kc ba bn bc l K B x y W hok hxy
end Pk
end Go.Proofs.Ytdmhenlfhbigbaa
