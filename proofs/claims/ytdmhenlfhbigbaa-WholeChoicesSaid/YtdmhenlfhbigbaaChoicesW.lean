/- The walk of the law WholeChoices. -/
import Derived.Test.YtdmhenlfhbigbaaChoicesL
import Derived.Test.YtdmhenlfhbigbaaPickCase
import Derived.Test.YtdmhenlfhbigbaaFeatRef
import Derived.Test.YtdmhenlfhbigbaaFeatBackW
import Derived.Test.YtdmhenlfhbigbaaFeatReadB
import Derived.BigRegion
namespace Go.Proofs.Ytdmhenlfhbigbaa
open Go.RowKit Go.ChangeShapes Go.WideShapes Go.ChangeAt
namespace Pk
open Ch Ft Go.Maps Vw

theorem infoRl : (Try.prog.info? 44).map (fun i => (i.zero, i.size, i.bytes)) = some (some (.agg #[.int .i64 0, .int .i64 0, .int .u32 0, .int .u32 0]), 4, 24) := by kernel_rfl

set_option maxRecDepth 100000 in
set_option maxHeartbeats 16000000 in
theorem choices_core (v : Value) (P : List WPlan) (a : Option Addr) (n c : Nat) (l : List (Int × Int)) (ka : Option Addr) (kn kc : Nat) (K : Nat → Int) (w : World) (hin : WPlans w v P) (hrg : ∀ p ∈ P, rgPlan p)
    (hld : Row.Leads w (.slice a n c) n (l.flatMap setC)) (hln : l.length = n) (hwf : ∀ s ∈ l, wf64 s) (n63 : n ≤ 9223372036854775807) (hk : ∀ i, i < kn → (∃ b o, ka = some ⟨b, o, none⟩ ∧ w.cell? ⟨b, o + i, none⟩ = some (.int .u8 (K i))) ∧ 0 ≤ K i ∧ K i ≤ 255) (k63 : kn ≤ 9223372036854775807) :
    Calls Try.prog 3 #[v, .slice a n c, .slice ka kn kc] w fun e w' => e = .returned (.bool true) ∧ Below w.heap.size w w' := by
  have HIN := Bas.hid hin
  have HRG := Bas.hid hrg
  obtain ⟨rs, hrl, hlead, hel⟩ := hin
  obtain ⟨ad, cp, rfl⟩ := Row.leads_slice hlead
  obtain ⟨np, hn⟩ : ∃ np, P.length = np := ⟨_, rfl⟩
  rw [hn] at HIN hlead ⊢
  have HN := Bas.hid hn
  have HEL := Bas.hid hel
  have HPL := Bas.hid hlead
  have HRL := Bas.hid hrl
  have HLD := Bas.hid hld
  have HLN := Bas.hid hln
  have HWF := Bas.hid hwf
  have HK := Bas.hid hk
  clear hrl hlead hel hn hrg hld hln hwf hk
  go_enter Try.func3, Try.ntmps3
  go_wp2_with (fail)
  have k1 := Bas.heap_new w (.cells #[.int .i64 1, .int .i64 2] 27)
  have HB1 := Bas.hid ((Below.refl w.heap.size w).alloc (Nat.le_refl _) (.cells #[.int .i64 1, .int .i64 2] 27))
  generalize w.alloc (.cells #[.int .i64 1, .int .i64 2] 27) = W1 at *
  refine (settle_any (some ⟨w.heap.size, 0, none⟩) 1 1 [(1, 2)] (.slice none 0 0) [] [] 0 W1 (leads_heap k1) rfl (by decide) (fRow_nil _ _) (by decide) (fun s hs => by simp at hs; subst hs; exact ⟨by decide, by decide⟩)).mono ?_
  rintro e w2 ⟨v2, ys, rfl, his, hown, hb2⟩
  obtain rfl := isSet_uniq his speak_set2
  have HB2 := Bas.hid (HB1.out.trans (hb2.mono HB1.out.size))
  rw [show ([((1, 2) : Int × Int)]).length = 1 from rfl] at hown
  obtain ⟨va, vc, rfl⟩ := own_slice hown
  clear his hb2 hown k1 HB1
  by_cases g1 : np ≤ 20
  rotate_left
  · have e1 : decide ((np : Int) > 20) = true := by simp; omega
    have e2 : decide ((20 : Int) < (np : Int)) = true := by simp; omega
    go_wp2_with (fail)
    go_ret
    exact ⟨rfl, HB2.out⟩
  have e1 : decide ((np : Int) > 20) = false := by simp; omega
  have e2 : decide ((20 : Int) < (np : Int)) = false := by simp; omega
  by_cases g2 : n ≤ 30
  rotate_left
  · have e3 : decide ((n : Int) > 30) = true := by simp; omega
    have e4 : decide ((30 : Int) < (n : Int)) = true := by simp; omega
    go_wp2_with (fail)
    go_ret
    exact ⟨rfl, HB2.out⟩
  have e3 : decide ((n : Int) > 30) = false := by simp; omega
  have e4 : decide ((30 : Int) < (n : Int)) = false := by simp; omega
  by_cases g3 : kn ≤ 100
  rotate_left
  · have e5 : decide ((kn : Int) > 100) = true := by simp; omega
    have e6 : decide ((100 : Int) < (kn : Int)) = true := by simp; omega
    go_wp2_with (fail)
    go_ret
    exact ⟨rfl, HB2.out⟩
  have e5 : decide ((kn : Int) > 100) = false := by simp; omega
  have e6 : decide ((100 : Int) < (kn : Int)) = false := by simp; omega
  go_wp2_with (fail)
  clear e1 e2 e3 e4 e5 e6
  go_loopw [46] (fun vi wr => ∃ k : Nat, k ≤ np ∧ vi = .int .i64 k ∧ (∀ c ∈ P.take k, c.sets.length ≤ 60) ∧ Below w.heap.size w wr) (fun vi _ => np - (intOf vi).toNat)
  case atStart => exact ⟨0, Nat.zero_le _, rfl, fun c hc => by simp at hc, HB2.out⟩
  case round =>
    obtain ⟨k, hk, rfl, hsz, hb⟩ := hrel
    have HSZ := Bas.hid hsz
    have HB := Bas.hid hb
    clear hsz
    by_cases hkn : k < np
    · have hlen := HN.out
      have e0 : decide ((k : Int) < (np : Int)) = true := by simp; omega
      obtain ⟨c', hc⟩ : ∃ c', P[k]? = some c' := ⟨_, List.getElem?_eq_getElem (by omega)⟩
      obtain ⟨r, hr⟩ : ∃ r, rs[k]? = some r := ⟨_, List.getElem?_eq_getElem (by rw [HRL.out]; omega)⟩
      have hse := HEL.out k c' r hc hr
      have hz : (P.zip rs)[k]? = some (c', r) := List.getElem?_zip_eq_some.2 ⟨hc, hr⟩
      obtain ⟨B0, O0, cp0, hv0, hcl⟩ := Row.leads_elem wPC_len HPL.out hz (by omega)
      obtain ⟨as', cs', rfl⟩ := Row.leads_slice hse
      cases hv0
      have q0 := (hb.cell (p := ⟨B0, O0 + k * 3, none⟩) (World.block_lt_of_cell? _ _ (hcl 0 _ rfl))).trans (hcl 0 _ rfl)
      have q1 := (hb.cell (p := ⟨B0, O0 + k * 3 + 1, none⟩) (World.block_lt_of_cell? _ _ (hcl 1 _ rfl))).trans (hcl 1 _ rfl)
      have q2 := (hb.cell (p := ⟨B0, O0 + k * 3 + 2, none⟩) (World.block_lt_of_cell? _ _ (hcl 2 _ rfl))).trans (hcl 2 _ rfl)
      have HCK := Bas.hid hc
      obtain ⟨ct, cf, cs⟩ := c'
      simp only at q0 q1 q2
      obtain ⟨ns, hns⟩ : ∃ ns, ns = cs.length := ⟨_, rfl⟩
      have HNS := Bas.hid hns
      rw [← hns] at q2
      have HB5 := Bas.hid (HB.out.trans (((Below.refl wr.heap.size wr).alloc (Nat.le_refl _) (.cells #[.int .u16 ct, .int .u16 cf, .slice as' ns cs'] 31)).mono HB.out.size))
      clear hcl hse hb hr hz hlen hc hns
      by_cases h60 : 60 < ns
      · have d1 : decide ((60 : Int) < (ns : Int)) = true := by simp; omega
        have d2 : decide ((ns : Int) > 60) = true := by simp; omega
        go_wp2_with (fail)
        exact bodyPost_ret (v := .bool true) (by simp [results, Try.results3, go_sem]) rfl ⟨rfl, HB5.out⟩
      · have d1 : decide ((60 : Int) < (ns : Int)) = false := by simp; omega
        have d2 : decide ((ns : Int) > 60) = false := by simp; omega
        have HSZ2 : Hid (∀ c ∈ P.take (k + 1), c.sets.length ≤ 60) := fun y hy => by
          rw [List.take_add_one, HCK.out] at hy
          rcases List.mem_append.1 hy with h | h
          · exact HSZ.out y h
          · simp at h; subst h; show cs.length ≤ 60; rw [← HNS.out]; omega
        go_wp2_with (fail)
        generalize wr.alloc (.cells #[.int .u16 ct, .int .u16 cf, .slice as' ns cs'] 31) = W5 at *
        go_roundw
        case rel => exact ⟨k + 1, by omega, by go_num, HSZ2.out, HB5.out⟩
        case measure => simp [intOf]; omega
    · have hkn2 : k = np := by omega
      have hok : ∀ p ∈ P, okPlan p := fun p hp => ⟨HRG.out p hp, by
        have h := HSZ.out p
        rw [hkn2, ← HN.out, List.take_length] at h
        exact h hp⟩
      have hl30 : P.length ≤ 30 := by have := HN.out; omega
      have HW := Bas.hid (fwrite_any _ P wr hl30 hok (HIN.out.below HB.out))
      have HOK := Bas.hid hok
      have hwl := featW_len_le P hl30 hok
      obtain ⟨w81, w82⟩ := hwl
      have e0 : decide ((k : Int) < (np : Int)) = false := by simp; omega
      clear hb hok hkn2
      go_wp2_with (fail)
      refine HW.out.mono ?_
      rintro e w3 ⟨v3, rfl, hown, hb3⟩
      obtain ⟨g, cg, rfl, hgc, hgm, hvg⟩ := Ft.written hown (by omega) (featW_byte P) (by omega)
      have HB3 := Bas.hid (HB.out.trans (hb3.mono HB.out.size))
      obtain ⟨L, hL⟩ : ∃ L, L = (featW P).length := ⟨_, rfl⟩
      have hLs := hL.symm
      rw [← hL] at hgc w82 ⊢
      have HRD := Bas.hid (fRead_any (some ⟨g, 0, none⟩) L cg (featW P) w3 hgc hgm hvg hLs (by omega))
      have HRF := Bas.hid (fun w' (hb : Below w3.heap.size w3 w') => fref_any (some ⟨g, 0, none⟩) L cg (featW P) w' (by omega) (hvg.below hb) hLs)
      clear hown hb3 hvg HW hL hLs w81
      go_wp2_with (fail)
      refine HRD.out.mono ?_
      rintro e w4 ⟨hb4, h⟩
      rw [fall_back P hl30 HOK.out] at h
      have HB34 := Bas.hid hb4
      have HB4 := Bas.hid (HB3.out.trans (hb4.mono HB3.out.size))
      clear hb4 HRD
      by_cases hris : risesL none P = true
      rotate_left
      · rw [if_neg hris] at h
        subst h
        go_wp2_with (fail)
        refine (HRF.out _ HB34.out).mono ?_
        rintro e w5 ⟨hb5, h5⟩
        rw [fall_back P hl30 HOK.out, if_neg hris] at h5
        subst h5
        have HB5 := Bas.hid (HB4.out.trans (hb5.mono HB4.out.size))
        clear hb5
        go_wp2_with (fail)
        go_ret
        exact ⟨rfl, HB5.out⟩
      rw [if_pos hris] at h
      obtain ⟨v5, ss, rfl, hrow⟩ := h
      have hfp := rises_nodup P none hris
      have hfl : (P.map toF).length ≤ 20 := by rw [List.length_map]; have := HN.out; omega
      have HFB := Bas.hid (fall_back P hl30 HOK.out)
      have hfb := HFB.out
      rw [if_pos hris] at hfb
      have HFB2 := Bas.hid hfb
      generalize P.map toF = fs at *
      have HFD := Bas.hid hfp
      have HFR4 := Bas.hid hrow
      obtain ⟨a5, c5, rfl⟩ := own_slice hrow.own
      clear hrow hfp hfb HFB hris
      go_wp2_with (fail)
      refine (HRF.out _ HB34.out).mono ?_
      rintro e w5 ⟨hb5, h5⟩
      rw [HFB2.out] at h5
      obtain ⟨v13, sr, rfl, hrr⟩ := h5
      have HB5 := Bas.hid (HB4.out.trans (hb5.mono HB4.out.size))
      have HFR := Bas.hid (fRow_below HFR4.out hb5)
      have hrow : RRow w5 v13 fs sr := ⟨hrr.1, Row.leads_owned hrr.2⟩
      have HOVR := Bas.hid (fun (a0 a1 b0 b1 : Int) (ha : wf64 (a0, a1)) (hb0 : wf64 (b0, b1)) w' (hb : Below w5.heap.size w5 w') => over_any a0 a1 b0 b1 v13 fs sr w' (rRow_below hrow hb) (by omega) (wf64_rng ha).2 (wf64_rng hb0).2)
      have HLD5 := Bas.hid (Row.leads_below HLD.out HB5.out)
      obtain ⟨a13, c13, rfl⟩ := own_slice hrr.2
      clear hb5 hrr hrow HRF HB34 HFR4
      go_wp2_with (at_builtin; refine Row.fence ?_)
      refine Row.unfence ?_
      have k6 := Bas.heap_new w5 (.cells #[] 27)
      have hb6 := (Below.refl w5.heap.size w5).alloc (Nat.le_refl _) (.cells #[] 27)
      generalize w5.alloc (.cells #[] 27) = W6 at *
      have ho6 := own_empty (e := 27) (size := 2) k6 (Nat.le_refl _)
      refine (Row.append_any rfl _ _ 23 27 rfl (.agg #[.int .i64 0, .int .i64 0]) 2 16 Try.underlying23 infoS rfl (by decide) w5.heap.size (.slice (some ⟨w5.heap.size, 0, none⟩) 0 0) 0 [] rfl ho6 (.slice a n c) n (l.flatMap setC) rfl (Row.leads_below HLD5.out hb6) (by rw [← HLN.out]; exact setC_flat l) (setC_one l) (by unfold maxLen; omega) (by omega) hb6.size ?_)
      intro v15 w7 ho7 hg7 _
      have HB7 := Bas.hid (hb6.grown hg7 hb6.size (fun g' hg' => (Row.own_block ho6 hg').1))
      rw [List.nil_append, Nat.zero_add] at ho7
      obtain ⟨a7, c7, rfl⟩ := own_slice ho7
      have HO7 := Bas.hid ho7
      clear ho6 hg7 hb6 k6 ho7
      go_wp2_with (fail)
      go_loopw [84] (fun vi wr => ∃ (j : Nat) (m : List (Int × Int)), j ≤ kn ∧ vi = .int .i64 j ∧ m.length = n ∧ (∀ s ∈ m, wf64 s) ∧ (∀ c, lastK fs m c = lastK fs l c) ∧ wr.ownsRow w5.heap.size 27 2 (.slice a7 n c7) n (m.flatMap setC) ∧ Below w5.heap.size w5 wr) (fun vi _ => kn - (intOf vi).toNat)
      case atStart => exact ⟨0, l, Nat.zero_le _, rfl, HLN.out, HWF.out, fun _ => rfl, HO7.out, HB7.out⟩
      case round =>
        obtain ⟨j, m, hj, rfl, hmn, hmw, hmk, hmo, hmb⟩ := hrel
        have HMN := Bas.hid hmn
        have HMW := Bas.hid hmw
        have HMK := Bas.hid hmk
        have HMO := Bas.hid hmo
        have HMB := Bas.hid hmb
        have HC7 := Bas.hid (own_cap hmo).2
        clear hmn hmw hmk hmo hmb HO7 HB7
        by_cases hjn : j < kn
        · have e1 : decide ((j : Int) < (kn : Int)) = true := by simp; omega
          have e2 : decide (j < kn) = true := by simp; omega
          obtain ⟨⟨kb, ko, rfl, kcell⟩, kx0, kx1⟩ := HK.out j hjn
          have hbw := HB5.out.trans (HMB.out.mono HB5.out.size)
          have ck := (hbw.cell (p := ⟨kb, ko + j, none⟩) (World.block_lt_of_cell? _ _ kcell)).trans kcell
          generalize K j = x at *
          clear kcell hbw
          by_cases hn2 : n < 2
          · have e3 : decide ((n : Int) < 2) = true := by simp; omega
            have e4 : decide (n < 2) = true := by simp; omega
            have HFRe := Bas.hid (fRow_below HFR.out HMB.out)
            have HLe := Bas.hid (Row.leads_below HLD5.out HMB.out)
            go_wp2_with (fail)
            refine (settle_any a n c l _ fs ss w3.heap.size _ HLe.out HLN.out (by omega) HFRe.out (by omega) HWF.out).mono ?_
            rintro e w10 ⟨v10, ys, rfl, his, ho10, hb10⟩
            have HB10 := Bas.hid (HMB.out.trans (hb10.mono HMB.out.size))
            have HFR10 := Bas.hid (fRow_below HFRe.out hb10)
            have HML10 := Bas.hid (Row.leads_below (Row.leads_owned HMO.out) hb10)
            have hyl : ys.length ≤ 30 := by have := isSet_len his; rw [HLN.out] at this; omega
            obtain ⟨Y, hY⟩ : ∃ Y, ys.length = Y := ⟨_, rfl⟩
            rw [hY] at ho10 hyl
            have HY := Bas.hid hY
            have HIS := Bas.hid his
            have HX10 := Bas.hid (Row.leads_owned ho10)
            obtain ⟨a10, c10, rfl⟩ := own_slice ho10
            have HC10 := Bas.hid (own_cap ho10).2
            clear hb10 ho10 his hY
            go_wp2_with (fail)
            refine (settle_any _ n _ m _ fs ss w3.heap.size w10 HML10.out HMN.out (by omega) HFR10.out (by omega) HMW.out).mono ?_
            rintro e w11 ⟨v11, zs, rfl, hiz, ho11, hb11⟩
            obtain rfl := isSet_uniq (isSet_last HMK.out hiz) HIS.out
            have HB11 := Bas.hid (HB10.out.trans (hb11.mono HB10.out.size))
            have HX11 := Bas.hid (Row.leads_below HX10.out hb11)
            rw [HY.out] at ho11
            have HY11 := Bas.hid (Row.leads_owned ho11)
            obtain ⟨a11, c11, rfl⟩ := own_slice ho11
            have HC11 := Bas.hid (own_cap ho11).2
            have HL11 := Bas.hid (Row.leads_below HLD5.out HB11.out)
            clear hb11 ho11 hiz
            go_wp2_with (fail)
            go_loopw [21, 134] (fun v21 vi wr => ∃ (i : Nat) (rl : List RuleD), i ≤ n ∧ vi = .int .i64 i ∧ rl.length = i ∧ wr.ownsRow w11.heap.size 44 4 v21 i (rl.flatMap ruC) ∧ Below w11.heap.size w11 wr) (fun _ vi _ => n - (intOf vi).toNat)
            case atStart => exact ⟨0, [], Nat.zero_le _, rfl, rfl, Row.owned_nil _ _ _ _, Below.refl _ _⟩
            case round =>
              obtain ⟨i, rl, hi, rfl, hrl, ho12, hb12⟩ := hrel
              obtain ⟨a12, c12, rfl⟩ := own_slice ho12
              have HO12 := Bas.hid ho12
              have HB12 := Bas.hid hb12
              have HRL := Bas.hid hrl
              clear ho12 hb12 hrl
              by_cases hin : i < n
              · have e1 : decide ((i : Int) < (n : Int)) = true := by simp; omega
                have e2 : decide (i < n) = true := by simp; omega
                have r0 : 0 ≤ (i : Int) % 32 := by omega
                have r1 : (i : Int) % 32 < 32 := by omega
                obtain ⟨s, hs⟩ : ∃ s, l[i]? = some s := ⟨_, List.getElem?_eq_getElem (by rw [HLN.out]; exact hin)⟩
                obtain ⟨s0, s1⟩ := s
                obtain ⟨B1, O1, cp1, hv1, hcl⟩ := Row.leads_elem setC_len (Row.leads_below HL11.out HB12.out) hs (by omega)
                cases hv1
                have d0 := hcl 0 _ rfl
                have d1 := hcl 1 _ rfl
                simp only [Nat.add_zero] at d0
                have lB : B1 < wr.heap.size := World.block_lt_of_cell? _ _ d0
                clear hcl hs
                go_wp2_with (fail)
                have q6 := Bas.heap_new wr (.cells #[.int .i64 s0, .int .i64 s1] 27)
                have hb6 := (Below.refl wr.heap.size wr).alloc (Nat.le_refl _) (.cells #[.int .i64 s0, .int .i64 s1] 27)
                have HB6 := Bas.hid (HB12.out.trans (hb6.mono HB12.out.size))
                have HO6 := Bas.hid (Row.owned_below HO12.out hb6)
                generalize wr.alloc (.cells #[.int .i64 s0, .int .i64 s1] 27) = W6 at *
                obtain ⟨T6, hT6⟩ : ∃ T6, wr.heap.size = T6 := ⟨_, rfl⟩
                rw [hT6] at q6 ⊢
                have l6 := heap_lt q6
                have q0 := cell_of_heap (i := 0) (v := .int .i64 s0) q6 rfl
                have q1 := cell_of_heap (i := 1) (v := .int .i64 s1) q6 rfl
                clear d0 d1 hT6 lB hb6 HB12 HO12
                refine' Pl.region_v0 180 [0] [1, 2, 3, 4, 5, 6, 7, 8] [9, 10, 11] _ (by kernel_rfl) (by kernel_rfl) (by simp) (fun _ _ _ _ e h => ⟨e ▸ h.1, h.2⟩) ?_ ?_
                rotate_left
                · intro I F hI hF
                  simp only [Pl.selN, List.cons_append, List.nil_append, List.drop_succ_cons, List.drop_zero]
                  have x0 := fun q => hF.cell l6 q0 q
                  have x1 := fun q => hF.cell l6 q1 q
                  repeat (go_big_quiet_step (fail))
                  refine wpQuiet_nil ?_
                  rfl
                intro u hu
                simp only [Pl.selN, List.drop_succ_cons, List.drop_zero]
                go_wp2_with (at_builtin; refine Row.fence ?_)
                refine Row.unfence ?_
                generalize ((2 : Int) ^ (i % 32) % 4294967296) = E at *
                have k9 := Bas.heap_new u (.cells #[.int .i64 s0, .int .i64 s1, .int .u32 E, .int .u32 4294967295] 44)
                have hb9 := hu.trans (((Below.refl u.heap.size u).alloc (Nat.le_refl _) (.cells #[.int .i64 s0, .int .i64 s1, .int .u32 E, .int .u32 4294967295] 44)).mono hu.size)
                have HB9 := Bas.hid (HB6.out.trans (hb9.mono HB6.out.size))
                have HO9 := Bas.hid (Row.owned_below HO6.out hb9)
                generalize u.alloc (.cells #[.int .i64 s0, .int .i64 s1, .int .u32 E, .int .u32 4294967295] 44) = W9 at *
                clear hb9 hu q6 q0 q1 HB6 HO6
                refine (Row.append_any rfl _ _ 41 44 rfl (.agg #[.int .i64 0, .int .i64 0, .int .u32 0, .int .u32 0]) 4 24 Try.underlying41 infoRl rfl (by decide) w11.heap.size (.slice a12 i c12) i _ rfl HO9.out (.slice (some ⟨u.heap.size, 0, none⟩) 1 1) 1 [.int .i64 s0, .int .i64 s1, .int .u32 E, .int .u32 4294967295] rfl (leads_heap k9) rfl (by simp; exact ⟨rfl, rfl, rfl, rfl⟩) (by unfold maxLen; omega) (by omega) HB9.out.size ?_)
                intro v13 w13 ho13 hg13 _
                have HB13 := Bas.hid (HB9.out.grown hg13 HB9.out.size (fun g' hg' => (Row.own_block HO9.out hg').1))
                have HO13 := Bas.hid ho13
                clear ho13 hg13 k9 HB9 HO9
                go_wp2_with (fail)
                go_roundw
                case rel => exact ⟨i + 1, rl ++ [⟨s0, s1, E, 4294967295⟩], by omega, by go_num, by rw [List.length_append, HRL.out]; rfl, by rw [List.flatMap_append]; exact HO13.out, HB13.out⟩
                case measure => simp [intOf]; omega
              · have hin2 : i = n := by omega
                have e1 : decide ((i : Int) < (n : Int)) = false := by simp; omega
                have i30 : i ≤ 30 := by omega
                clear hin2
                have HX12 := Bas.hid (Row.leads_below HX11.out HB12.out)
                have HY12 := Bas.hid (Row.leads_below HY11.out HB12.out)
                have HF1 := Bas.hid (fun w' (hb : Below wr.heap.size wr w') => flags_any a12 i c12 rl 0 (.slice a10 Y c10) zs w' (Row.leads_below (Row.leads_owned HO12.out) hb) HRL.out (by omega) (by rw [HY.out]; exact Row.leads_below HX12.out hb) HIS.out.1 (by rw [HY.out]; omega))
                have HF2 := Bas.hid (fun w' (hb : Below wr.heap.size wr w') => flags_any a12 i c12 rl 0 (.slice a11 Y c11) zs w' (Row.leads_below (Row.leads_owned HO12.out) hb) HRL.out (by omega) (by rw [HY.out]; exact Row.leads_below HY12.out hb) HIS.out.1 (by rw [HY.out]; omega))
                obtain ⟨FL, hFL⟩ : ∃ FL, flagsL (fun s => decide (s ∈ zs)) 0 rl = FL := ⟨_, rfl⟩
                rw [hFL] at HF1 HF2
                have eY : ((Y : Int) == (Y : Int)) = true := by simp
                have eF : (FL == FL) = true := by simp
                clear hFL
                go_wp2_with (fail)
                refine (HF1.out _ (Below.refl _ _)).mono ?_
                rintro e w14 ⟨rfl, hb14⟩
                have HB14 := Bas.hid hb14
                clear hb14
                go_wp2_with (fail)
                refine (HF2.out _ HB14.out).mono ?_
                rintro e w15 ⟨rfl, hb15⟩
                have HB15 := Bas.hid (HB14.out.trans (hb15.mono HB14.out.size))
                have HX15 := Bas.hid (Row.leads_below HX12.out HB15.out)
                have HY15 := Bas.hid (Row.leads_below HY12.out HB15.out)
                have HB15' := Bas.hid (HB11.out.trans ((HB12.out.trans (HB15.out.mono HB12.out.size)).mono HB11.out.size))
                clear hb15 HB14
                go_wp2_with (fail)
                go_loopw [167] (fun vi wr => ∃ q : Nat, q ≤ Y ∧ vi = .int .i64 q ∧ Below w15.heap.size w15 wr) (fun vi _ => Y - (intOf vi).toNat)
                case atStart => exact ⟨0, Nat.zero_le _, rfl, Below.refl _ _⟩
                case round =>
                  obtain ⟨q, hq, rfl, hb16⟩ := hrel
                  have HB16 := Bas.hid hb16
                  clear hb16
                  by_cases hqy : q < Y
                  · have e2 : decide ((q : Int) < (Y : Int)) = true := by simp; omega
                    have e3 : decide (q < Y) = true := by simp; omega
                    obtain ⟨s, hs⟩ : ∃ s, zs[q]? = some s := ⟨_, List.getElem?_eq_getElem (by rw [HY.out]; exact hqy)⟩
                    obtain ⟨s0, s1⟩ := s
                    obtain ⟨B1, O1, cp1, hv1, h1⟩ := Row.leads_elem setC_len (Row.leads_below HX15.out HB16.out) hs (by omega)
                    obtain ⟨B2, O2, cp2, hv2, h2⟩ := Row.leads_elem setC_len (Row.leads_below HY15.out HB16.out) hs (by omega)
                    cases hv1
                    cases hv2
                    have d0 := h1 0 _ rfl
                    have d1 := h1 1 _ rfl
                    have f0 := h2 0 _ rfl
                    have f1 := h2 1 _ rfl
                    simp only [Nat.add_zero] at d0 f0
                    have l1 : B1 < wr.heap.size := World.block_lt_of_cell? _ _ d0
                    have l2 : B2 < wr.heap.size := World.block_lt_of_cell? _ _ f0
                    have g0 : (decide (s0 = s0) && decide (s1 = s1)) = true := by simp
                    clear h1 h2 hs
                    go_wp2_with (fail)
                    refine' Pl.region_v0 180 [] [0, 1, 2, 3, 4, 5, 6, 7, 8] [] _ (by kernel_rfl) (by kernel_rfl) (by simp) (fun _ _ _ _ e h => ⟨e ▸ h.1, h.2⟩) ?_ ?_
                    rotate_left
                    · intro I F hI hF
                      simp only [Pl.selN, List.nil_append, List.drop_succ_cons, List.drop_zero]
                      have x0 := fun q => hF.cell l1 d0 q
                      have x1 := fun q => hF.cell l1 d1 q
                      have y0 := fun q => hF.cell l2 f0 q
                      have y1 := fun q => hF.cell l2 f1 q
                      repeat (first | go_big_quiet_step (fail) | (go_big_quiet_want; refine quiet_neqS _ _ _ rfl rfl rfl ?_; simp only [g0, Bool.not_true, Act.put, List.setIfInBounds_toArray, List.set_cons_zero, List.set_cons_succ]; go_big_quiet_on))
                      refine wpQuiet_nil ?_
                      rfl
                    intro w17 hw17
                    simp only [Pl.selN]
                    have HB17 := Bas.hid (HB16.out.trans (hw17.mono HB16.out.size))
                    clear hw17 d0 d1 f0 f1
                    go_wp2_with (fail)
                    go_roundw
                    case rel => exact ⟨q + 1, by omega, by go_num, HB17.out⟩
                    case measure => simp [intOf]; omega
                  · have hqy2 : q = Y := by omega
                    have e2 : decide ((q : Int) < (Y : Int)) = false := by simp; omega
                    have HBE := Bas.hid (HB5.out.trans ((HB15'.out.trans (HB16.out.mono HB15'.out.size)).mono HB5.out.size))
                    clear hqy2
                    go_wp2_with (fail)
                    go_ret
                    exact ⟨rfl, HBE.out⟩
          · have e3 : decide ((n : Int) < 2) = false := by simp; omega
            have e4 : decide (n < 2) = false := by simp; omega
            have y0 : 0 ≤ x % ((n : Int) - 1) := Int.emod_nonneg _ (by omega)
            have y1 : x % ((n : Int) - 1) < (n : Int) - 1 := Int.emod_lt_of_pos _ (by omega)
            have e5 : ((n : Int) - 1 == 0) = false := by simp; omega
            obtain ⟨i, hi⟩ := Int.eq_ofNat_of_zero_le y0
            have y2 : x.tmod ((n : Int) - 1) = x % ((n : Int) - 1) := Int.tmod_eq_emod_of_nonneg kx0
            rw [hi] at y0 y1 y2
            have hin : i + 1 < n := by omega
            obtain ⟨p, hp⟩ : ∃ p, m[i]? = some p := ⟨_, List.getElem?_eq_getElem (by rw [HMN.out]; omega)⟩
            obtain ⟨r, hr⟩ : ∃ r, m[i + 1]? = some r := ⟨_, List.getElem?_eq_getElem (by rw [HMN.out]; omega)⟩
            have hpw := HMW.out _ (List.mem_of_getElem? hp)
            have hrw := HMW.out _ (List.mem_of_getElem? hr)
            rcases Row.owned_parts HMO.out with ⟨_, h0, _⟩ | ⟨G, cp', hvG, hGb, hGl, hGc, hGm, hcl, _⟩
            · omega
            cases hvG
            have d0 := hcl (i * 2 + 0) _ (Row.flat_get setC_len m i 0 p _ hp rfl)
            have d1 := hcl (i * 2 + 1) _ (Row.flat_get setC_len m i 1 p _ hp rfl)
            have d2 := hcl ((i + 1) * 2 + 0) _ (Row.flat_get setC_len m (i + 1) 0 r _ hr rfl)
            have d3 := hcl ((i + 1) * 2 + 1) _ (Row.flat_get setC_len m (i + 1) 1 r _ hr rfl)
            simp only [Nat.add_zero] at d0 d2
            have HPP := Bas.hid hp
            have HRR := Bas.hid hr
            have HPW := Bas.hid hpw
            have HRW := Bas.hid hrw
            obtain ⟨p0, p1⟩ := p
            obtain ⟨r0, r1⟩ := r
            have HO1 := Bas.hid (fun w' hb => HOVR.out p0 p1 r0 r1 HPW.out HRW.out w' hb)
            obtain ⟨ob, hob⟩ : ∃ ob, overB fs (p0, p1) (r0, r1) = ob := ⟨_, rfl⟩
            rw [hob] at HO1
            have HOB := Bas.hid hob
            simp only at d0 d1 d2 d3
            clear hcl hp hr hpw hrw hob
            go_wp2_with (fail)
            have lG := hGl
            refine' Pl.region_v0 180 [] [0, 1, 2, 3, 4, 5, 6, 7, 8, 9, 10, 11] [] _ (by kernel_rfl) (by kernel_rfl) (by simp) (fun _ _ _ _ e h => ⟨e ▸ h.1, h.2⟩) ?_ ?_
            rotate_left
            · intro I F hI hF
              simp only [Pl.selN, List.nil_append, List.drop_succ_cons, List.drop_zero]
              have x0 := fun q => hF.cell lG d0 q
              have x1 := fun q => hF.cell lG d1 q
              have x2 := fun q => hF.cell lG d2 q
              have x3 := fun q => hF.cell lG d3 q
              repeat (go_big_quiet_step ((go_at_call 13; with_reducible exact hF.call (HO1.out _ (hF.on HMB.out _)))))
              refine wpQuiet_nil ?_
              rfl
            intro w8 hw8
            simp only [Pl.selN]
            have HMB8 := Bas.hid (HMB.out.trans (hw8.mono HMB.out.size))
            have HMO8 := Bas.hid (Row.owned_below HMO.out hw8)
            replace d0 := (hw8.cell (p := ⟨G, i * 2, none⟩) lG).trans d0
            replace d1 := (hw8.cell (p := ⟨G, i * 2 + 1, none⟩) lG).trans d1
            replace d2 := (hw8.cell (p := ⟨G, (i + 1) * 2, none⟩) lG).trans d2
            replace d3 := (hw8.cell (p := ⟨G, (i + 1) * 2 + 1, none⟩) lG).trans d3
            clear hw8 ck lG hGl HMB HMO
            cases ob with
            | true =>
              go_wp2_with (fail)
              go_roundw
              case rel => exact ⟨j + 1, m, by omega, by go_num, HMN.out, HMW.out, HMK.out, HMO8.out, HMB8.out⟩
              case measure => simp [intOf]; omega
            | false =>
              rcases (HMO8.out).2 with ⟨h0, _⟩ | ⟨G', cap', cur, hv, hbG, hh, hcc, hcm, hcs, hct⟩
              · cases h0
              cases hv
              have ff : ∀ o, w8.frozen? ⟨G, o, none⟩ = false := fun o => free_of_heap (i := o) hh
              have f0 := ff (i * 2)
              have f1 := ff (i * 2 + 1)
              have f2 := ff ((i + 1) * 2)
              have f3 := ff ((i + 1) * 2 + 1)
              have n1 : i * 2 ≠ (i + 1) * 2 := by omega
              clear hh hcc hcm hcs hct ff
              go_wp2_with (fail)
              go_big_region
              have hs1 := own_set HMO8.out HMN.out (i := i) (by omega) (r0, r1)
              have hs2 := own_set hs1 (by rw [List.length_set]; exact HMN.out) (i := i + 1) (by omega) (p0, p1)
              have hsw : (m.set i (r0, r1)).set (i + 1) (p0, p1) = swp m i := by
                unfold swp
                rw [List.getD_eq_getElem?_getD, List.getD_eq_getElem?_getD, HPP.out, HRR.out]; rfl
              rw [hsw] at hs2
              have HMO9 := Bas.hid (Row.owned_keep hs2 (w' := ((((w8.setCell ⟨G, i * 2, none⟩ (.int .i64 r0)).setCell ⟨G, i * 2 + 1, none⟩ (.int .i64 r1)).setCell ⟨G, (i + 1) * 2, none⟩ (.int .i64 p0)).setCell ⟨G, (i + 1) * 2 + 1, none⟩ (.int .i64 p1)).drew) (fun _ _ => rfl))
              have HMB9 := Bas.hid (((((HMB8.out.setCell (p := ⟨G, i * 2, none⟩) hGb (.int .i64 r0)).setCell (p := ⟨G, i * 2 + 1, none⟩) hGb (.int .i64 r1)).setCell (p := ⟨G, (i + 1) * 2, none⟩) hGb (.int .i64 p0)).setCell (p := ⟨G, (i + 1) * 2 + 1, none⟩) hGb (.int .i64 p1)).drew)
              have HMK9 : Hid (∀ c, lastK fs (swp m i) c = lastK fs l c) := fun c => (lastK_swp HFD.out HPP.out HRR.out HOB.out c).trans (HMK.out c)
              have HMW9 := Bas.hid (swp_mem HPP.out HRR.out HMW.out)
              generalize ((((w8.setCell ⟨G, i * 2, none⟩ (.int .i64 r0)).setCell ⟨G, i * 2 + 1, none⟩ (.int .i64 r1)).setCell ⟨G, (i + 1) * 2, none⟩ (.int .i64 p0)).setCell ⟨G, (i + 1) * 2 + 1, none⟩ (.int .i64 p1)).drew = W9 at *
              clear hs1 hs2 hsw d0 d1 d2 d3 f0 f1 f2 f3
              go_wp2_with (fail)
              go_roundw
              case rel => exact ⟨j + 1, swp m i, by omega, by go_num, by rw [swp_len]; exact HMN.out, HMW9.out, HMK9.out, HMO9.out, HMB9.out⟩
              case measure => simp [intOf]; omega
        · have hjn2 : j = kn := by omega
          have e1 : decide ((j : Int) < (kn : Int)) = false := by simp; omega
          clear hjn2
          have HFRe := Bas.hid (fRow_below HFR.out HMB.out)
          have HLe := Bas.hid (Row.leads_below HLD5.out HMB.out)
          go_wp2_with (fail)
          refine (settle_any a n c l _ fs ss w3.heap.size _ HLe.out HLN.out (by omega) HFRe.out (by omega) HWF.out).mono ?_
          rintro e w10 ⟨v10, ys, rfl, his, ho10, hb10⟩
          have HB10 := Bas.hid (HMB.out.trans (hb10.mono HMB.out.size))
          have HFR10 := Bas.hid (fRow_below HFRe.out hb10)
          have HML10 := Bas.hid (Row.leads_below (Row.leads_owned HMO.out) hb10)
          have hyl : ys.length ≤ 30 := by have := isSet_len his; rw [HLN.out] at this; omega
          obtain ⟨Y, hY⟩ : ∃ Y, ys.length = Y := ⟨_, rfl⟩
          rw [hY] at ho10 hyl
          have HY := Bas.hid hY
          have HIS := Bas.hid his
          have HX10 := Bas.hid (Row.leads_owned ho10)
          obtain ⟨a10, c10, rfl⟩ := own_slice ho10
          have HC10 := Bas.hid (own_cap ho10).2
          clear hb10 ho10 his hY
          go_wp2_with (fail)
          refine (settle_any _ n _ m _ fs ss w3.heap.size w10 HML10.out HMN.out (by omega) HFR10.out (by omega) HMW.out).mono ?_
          rintro e w11 ⟨v11, zs, rfl, hiz, ho11, hb11⟩
          obtain rfl := isSet_uniq (isSet_last HMK.out hiz) HIS.out
          have HB11 := Bas.hid (HB10.out.trans (hb11.mono HB10.out.size))
          have HX11 := Bas.hid (Row.leads_below HX10.out hb11)
          rw [HY.out] at ho11
          have HY11 := Bas.hid (Row.leads_owned ho11)
          obtain ⟨a11, c11, rfl⟩ := own_slice ho11
          have HC11 := Bas.hid (own_cap ho11).2
          have HL11 := Bas.hid (Row.leads_below HLD5.out HB11.out)
          clear hb11 ho11 hiz
          go_wp2_with (fail)
          go_loopw [21, 134] (fun v21 vi wr => ∃ (i : Nat) (rl : List RuleD), i ≤ n ∧ vi = .int .i64 i ∧ rl.length = i ∧ wr.ownsRow w11.heap.size 44 4 v21 i (rl.flatMap ruC) ∧ Below w11.heap.size w11 wr) (fun _ vi _ => n - (intOf vi).toNat)
          case atStart => exact ⟨0, [], Nat.zero_le _, rfl, rfl, Row.owned_nil _ _ _ _, Below.refl _ _⟩
          case round =>
            obtain ⟨i, rl, hi, rfl, hrl, ho12, hb12⟩ := hrel
            obtain ⟨a12, c12, rfl⟩ := own_slice ho12
            have HO12 := Bas.hid ho12
            have HB12 := Bas.hid hb12
            have HRL := Bas.hid hrl
            clear ho12 hb12 hrl
            by_cases hin : i < n
            · have e1 : decide ((i : Int) < (n : Int)) = true := by simp; omega
              have e2 : decide (i < n) = true := by simp; omega
              have r0 : 0 ≤ (i : Int) % 32 := by omega
              have r1 : (i : Int) % 32 < 32 := by omega
              obtain ⟨s, hs⟩ : ∃ s, l[i]? = some s := ⟨_, List.getElem?_eq_getElem (by rw [HLN.out]; exact hin)⟩
              obtain ⟨s0, s1⟩ := s
              obtain ⟨B1, O1, cp1, hv1, hcl⟩ := Row.leads_elem setC_len (Row.leads_below HL11.out HB12.out) hs (by omega)
              cases hv1
              have d0 := hcl 0 _ rfl
              have d1 := hcl 1 _ rfl
              simp only [Nat.add_zero] at d0
              have lB : B1 < wr.heap.size := World.block_lt_of_cell? _ _ d0
              clear hcl hs
              go_wp2_with (fail)
              have q6 := Bas.heap_new wr (.cells #[.int .i64 s0, .int .i64 s1] 27)
              have hb6 := (Below.refl wr.heap.size wr).alloc (Nat.le_refl _) (.cells #[.int .i64 s0, .int .i64 s1] 27)
              have HB6 := Bas.hid (HB12.out.trans (hb6.mono HB12.out.size))
              have HO6 := Bas.hid (Row.owned_below HO12.out hb6)
              generalize wr.alloc (.cells #[.int .i64 s0, .int .i64 s1] 27) = W6 at *
              obtain ⟨T6, hT6⟩ : ∃ T6, wr.heap.size = T6 := ⟨_, rfl⟩
              rw [hT6] at q6 ⊢
              have l6 := heap_lt q6
              have q0 := cell_of_heap (i := 0) (v := .int .i64 s0) q6 rfl
              have q1 := cell_of_heap (i := 1) (v := .int .i64 s1) q6 rfl
              clear d0 d1 hT6 lB hb6 HB12 HO12
              refine' Pl.region_v0 180 [0] [1, 2, 3, 4, 5, 6, 7, 8] [9, 10, 11] _ (by kernel_rfl) (by kernel_rfl) (by simp) (fun _ _ _ _ e h => ⟨e ▸ h.1, h.2⟩) ?_ ?_
              rotate_left
              · intro I F hI hF
                simp only [Pl.selN, List.cons_append, List.nil_append, List.drop_succ_cons, List.drop_zero]
                have x0 := fun q => hF.cell l6 q0 q
                have x1 := fun q => hF.cell l6 q1 q
                repeat (go_big_quiet_step (fail))
                refine wpQuiet_nil ?_
                rfl
              intro u hu
              simp only [Pl.selN, List.drop_succ_cons, List.drop_zero]
              go_wp2_with (at_builtin; refine Row.fence ?_)
              refine Row.unfence ?_
              generalize ((2 : Int) ^ (i % 32) % 4294967296) = E at *
              have k9 := Bas.heap_new u (.cells #[.int .i64 s0, .int .i64 s1, .int .u32 E, .int .u32 4294967295] 44)
              have hb9 := hu.trans (((Below.refl u.heap.size u).alloc (Nat.le_refl _) (.cells #[.int .i64 s0, .int .i64 s1, .int .u32 E, .int .u32 4294967295] 44)).mono hu.size)
              have HB9 := Bas.hid (HB6.out.trans (hb9.mono HB6.out.size))
              have HO9 := Bas.hid (Row.owned_below HO6.out hb9)
              generalize u.alloc (.cells #[.int .i64 s0, .int .i64 s1, .int .u32 E, .int .u32 4294967295] 44) = W9 at *
              clear hb9 hu q6 q0 q1 HB6 HO6
              refine (Row.append_any rfl _ _ 41 44 rfl (.agg #[.int .i64 0, .int .i64 0, .int .u32 0, .int .u32 0]) 4 24 Try.underlying41 infoRl rfl (by decide) w11.heap.size (.slice a12 i c12) i _ rfl HO9.out (.slice (some ⟨u.heap.size, 0, none⟩) 1 1) 1 [.int .i64 s0, .int .i64 s1, .int .u32 E, .int .u32 4294967295] rfl (leads_heap k9) rfl (by simp; exact ⟨rfl, rfl, rfl, rfl⟩) (by unfold maxLen; omega) (by omega) HB9.out.size ?_)
              intro v13 w13 ho13 hg13 _
              have HB13 := Bas.hid (HB9.out.grown hg13 HB9.out.size (fun g' hg' => (Row.own_block HO9.out hg').1))
              have HO13 := Bas.hid ho13
              clear ho13 hg13 k9 HB9 HO9
              go_wp2_with (fail)
              go_roundw
              case rel => exact ⟨i + 1, rl ++ [⟨s0, s1, E, 4294967295⟩], by omega, by go_num, by rw [List.length_append, HRL.out]; rfl, by rw [List.flatMap_append]; exact HO13.out, HB13.out⟩
              case measure => simp [intOf]; omega
            · have hin2 : i = n := by omega
              have e1 : decide ((i : Int) < (n : Int)) = false := by simp; omega
              have i30 : i ≤ 30 := by omega
              clear hin2
              have HX12 := Bas.hid (Row.leads_below HX11.out HB12.out)
              have HY12 := Bas.hid (Row.leads_below HY11.out HB12.out)
              have HF1 := Bas.hid (fun w' (hb : Below wr.heap.size wr w') => flags_any a12 i c12 rl 0 (.slice a10 Y c10) zs w' (Row.leads_below (Row.leads_owned HO12.out) hb) HRL.out (by omega) (by rw [HY.out]; exact Row.leads_below HX12.out hb) HIS.out.1 (by rw [HY.out]; omega))
              have HF2 := Bas.hid (fun w' (hb : Below wr.heap.size wr w') => flags_any a12 i c12 rl 0 (.slice a11 Y c11) zs w' (Row.leads_below (Row.leads_owned HO12.out) hb) HRL.out (by omega) (by rw [HY.out]; exact Row.leads_below HY12.out hb) HIS.out.1 (by rw [HY.out]; omega))
              obtain ⟨FL, hFL⟩ : ∃ FL, flagsL (fun s => decide (s ∈ zs)) 0 rl = FL := ⟨_, rfl⟩
              rw [hFL] at HF1 HF2
              have eY : ((Y : Int) == (Y : Int)) = true := by simp
              have eF : (FL == FL) = true := by simp
              clear hFL
              go_wp2_with (fail)
              refine (HF1.out _ (Below.refl _ _)).mono ?_
              rintro e w14 ⟨rfl, hb14⟩
              have HB14 := Bas.hid hb14
              clear hb14
              go_wp2_with (fail)
              refine (HF2.out _ HB14.out).mono ?_
              rintro e w15 ⟨rfl, hb15⟩
              have HB15 := Bas.hid (HB14.out.trans (hb15.mono HB14.out.size))
              have HX15 := Bas.hid (Row.leads_below HX12.out HB15.out)
              have HY15 := Bas.hid (Row.leads_below HY12.out HB15.out)
              have HB15' := Bas.hid (HB11.out.trans ((HB12.out.trans (HB15.out.mono HB12.out.size)).mono HB11.out.size))
              clear hb15 HB14
              go_wp2_with (fail)
              go_loopw [167] (fun vi wr => ∃ q : Nat, q ≤ Y ∧ vi = .int .i64 q ∧ Below w15.heap.size w15 wr) (fun vi _ => Y - (intOf vi).toNat)
              case atStart => exact ⟨0, Nat.zero_le _, rfl, Below.refl _ _⟩
              case round =>
                obtain ⟨q, hq, rfl, hb16⟩ := hrel
                have HB16 := Bas.hid hb16
                clear hb16
                by_cases hqy : q < Y
                · have e2 : decide ((q : Int) < (Y : Int)) = true := by simp; omega
                  have e3 : decide (q < Y) = true := by simp; omega
                  obtain ⟨s, hs⟩ : ∃ s, zs[q]? = some s := ⟨_, List.getElem?_eq_getElem (by rw [HY.out]; exact hqy)⟩
                  obtain ⟨s0, s1⟩ := s
                  obtain ⟨B1, O1, cp1, hv1, h1⟩ := Row.leads_elem setC_len (Row.leads_below HX15.out HB16.out) hs (by omega)
                  obtain ⟨B2, O2, cp2, hv2, h2⟩ := Row.leads_elem setC_len (Row.leads_below HY15.out HB16.out) hs (by omega)
                  cases hv1
                  cases hv2
                  have d0 := h1 0 _ rfl
                  have d1 := h1 1 _ rfl
                  have f0 := h2 0 _ rfl
                  have f1 := h2 1 _ rfl
                  simp only [Nat.add_zero] at d0 f0
                  have l1 : B1 < wr.heap.size := World.block_lt_of_cell? _ _ d0
                  have l2 : B2 < wr.heap.size := World.block_lt_of_cell? _ _ f0
                  have g0 : (decide (s0 = s0) && decide (s1 = s1)) = true := by simp
                  clear h1 h2 hs
                  go_wp2_with (fail)
                  refine' Pl.region_v0 180 [] [0, 1, 2, 3, 4, 5, 6, 7, 8] [] _ (by kernel_rfl) (by kernel_rfl) (by simp) (fun _ _ _ _ e h => ⟨e ▸ h.1, h.2⟩) ?_ ?_
                  rotate_left
                  · intro I F hI hF
                    simp only [Pl.selN, List.nil_append, List.drop_succ_cons, List.drop_zero]
                    have x0 := fun q => hF.cell l1 d0 q
                    have x1 := fun q => hF.cell l1 d1 q
                    have y0 := fun q => hF.cell l2 f0 q
                    have y1 := fun q => hF.cell l2 f1 q
                    repeat (first | go_big_quiet_step (fail) | (go_big_quiet_want; refine quiet_neqS _ _ _ rfl rfl rfl ?_; simp only [g0, Bool.not_true, Act.put, List.setIfInBounds_toArray, List.set_cons_zero, List.set_cons_succ]; go_big_quiet_on))
                    refine wpQuiet_nil ?_
                    rfl
                  intro w17 hw17
                  simp only [Pl.selN]
                  have HB17 := Bas.hid (HB16.out.trans (hw17.mono HB16.out.size))
                  clear hw17 d0 d1 f0 f1
                  go_wp2_with (fail)
                  go_roundw
                  case rel => exact ⟨q + 1, by omega, by go_num, HB17.out⟩
                  case measure => simp [intOf]; omega
                · have hqy2 : q = Y := by omega
                  have e2 : decide ((q : Int) < (Y : Int)) = false := by simp; omega
                  have HBE := Bas.hid (HB5.out.trans ((HB15'.out.trans (HB16.out.mono HB15'.out.size)).mono HB5.out.size))
                  clear hqy2
                  go_wp2_with (fail)
                  go_ret
                  exact ⟨rfl, HBE.out⟩

set_option maxRecDepth 100000 in
theorem wholeChoices_law {H : Type} {enc : TypeId × Value → H} (v : Value) (d : DataW H) (p : List MemPlace) (v1 : Value) (d1 : DataW H) (p1 : List MemPlace) (v2 : Value) (d2 : DataW H) (p2 : List MemPlace) (W : World) {base base1 base2 : Nat}
    (hv : Value.okWide Try.prog W .any base 22 v) (ht : DataW.Trod enc Try.prog W 0 (fun _ => true) true 22 v d p) (hv1 : Value.okWide Try.prog W .any base1 23 v1) (ht1 : DataW.Trod enc Try.prog W 0 (fun _ => true) true 23 v1 d1 p1)
    (hv2 : Value.okWide Try.prog W .any base2 24 v2) (ht2 : DataW.Trod enc Try.prog W 0 (fun _ => true) true 24 v2 d2 p2) :
    Calls Try.prog 3 #[v, v1, v2] W fun e w' => e = .returned (.bool true) ∧ Below W.heap.size W w' := by
  obtain ⟨a, len, cap, rfl⟩ := okWide_slice Try.underlying22 hv
  obtain ⟨a1, n1, c1, rfl⟩ := okWide_slice Try.underlying23 hv1
  obtain ⟨a2, n2, c2, rfl⟩ := okWide_slice Try.underlying24 hv2
  obtain ⟨fuel, hf⟩ := ht
  obtain ⟨fuel1, hf1⟩ := ht1
  obtain ⟨fuel2, hf2⟩ := ht2
  obtain ⟨P, h1, h2⟩ := open_plans (v := .slice a len cap) hf
  obtain ⟨_, _, _, l, h0, hn, hln, hld, hwf⟩ := open_settings (v := .slice a1 n1 c1) hf1
  cases h0
  obtain ⟨_, _, _, zs, h0, hz⟩ := Bas.open_bytes (v := .slice a2 n2 c2) Try.underlying24 Try.underlying5 (by kernel_rfl) hf2
  cases h0
  refine choices_core _ P a1 n1 c1 l a2 n2 c2 (fun i => zs.getD i 0) W h1 h2 hld hln hwf hn (fun i hi => ?_) ?_
  · rcases hz with ⟨_, h0, _, _⟩ | ⟨x, rfl, hl, hm, hlz, hcell, hw⟩
    · omega
    · have hiz : i < zs.length := by omega
      have h := Bas.spot_add ⟨_, hcell 0 (by omega)⟩ (hcell i hiz)
      refine ⟨⟨_, _, congrArg some h.1, h.2⟩, ?_⟩
      have := Bas.wf_u8 (hw (zs[i]) (List.getElem_mem hiz))
      simp only [List.getD_eq_getElem?_getD, List.getElem?_eq_getElem hiz, Option.getD_some]
      exact this
  · rcases hz with ⟨_, h0, _, _⟩ | ⟨x, rfl, hl, hm, hlz, hcell, hw⟩
    · omega
    · unfold maxLen at hm; omega
end Pk
end Go.Proofs.Ytdmhenlfhbigbaa
