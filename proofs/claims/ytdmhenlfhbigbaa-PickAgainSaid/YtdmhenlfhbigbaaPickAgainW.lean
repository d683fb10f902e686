/- The walk of the law PickAgain. -/
import Derived.Test.YtdmhenlfhbigbaaPickApp
namespace Go.Proofs.Ytdmhenlfhbigbaa
open Go.RowKit
namespace Pk
open Ch Ft Go.Maps

set_option maxRecDepth 100000 in
set_option maxHeartbeats 16000000 in
theorem pickAgain_core (a : Option Addr) (n c : Nat) (ka : Option Addr) (kn kc : Nat) (ba : Option Addr) (bn bc : Nat) (l : List (Int × Int)) (K : Nat → Int) (B : Nat → Bool) (w : World) (hok : CaseOk w a n c ka kn kc ba bn bc l K B) :
    Calls Try.prog 6 #[.agg #[.slice a n c, .slice ka kn kc, .slice ba bn bc]] w fun e w' => e = .returned (.bool true) ∧ Below w.heap.size w w' := by
  go_enter Try.func6, Try.ntmps6
  go_wp2_with (fail)
  have kc0 := Bas.heap_new w (.cells #[.slice a n c, .slice ka kn kc, .slice ba bn bc] 49)
  have HB0 := Bas.hid ((Below.refl w.heap.size w).alloc (Nat.le_refl _) (.cells #[.slice a n c, .slice ka kn kc, .slice ba bn bc] 49))
  generalize w.alloc (.cells #[.slice a n c, .slice ka kn kc, .slice ba bn bc] 49) = W0 at *
  obtain ⟨T0, hT0⟩ : ∃ T0, w.heap.size = T0 := ⟨_, rfl⟩
  have HT0 := Bas.hid hT0
  rw [hT0] at kc0 ⊢
  clear hT0
  refine (speaks_any _).mono ?_
  rintro e w1 ⟨rfl, hb1⟩
  have kc1 := (hb1.block _ (heap_lt kc0)).trans kc0
  have HB1 := Bas.hid (HB0.out.trans (hb1.mono HB0.out.size))
  clear hb1 HB0 kc0
  have c0 := cell_of_heap (i := 0) (v := .slice a n c) kc1 rfl
  have c1 := cell_of_heap (i := 1) (v := .slice ka kn kc) kc1 rfl
  have c2 := cell_of_heap (i := 2) (v := .slice ba bn bc) kc1 rfl
  go_wp2_with (fail)
  refine (big_any a ka ba n c kn kc bn bc w1).mono ?_
  rintro e w2 ⟨rfl, hb2⟩
  have kc2 := (hb2.block _ (heap_lt kc1)).trans kc1
  have HB2 := Bas.hid (HB1.out.trans (hb2.mono HB1.out.size))
  clear hb2 HB1 kc1 c0 c1 c2
  obtain ⟨bg, hbg⟩ : ∃ bg, (decide (100 < n) || decide (40 < kn)) = bg := ⟨_, rfl⟩
  have HBG := Bas.hid hbg
  rw [hbg]
  clear hbg
  cases bg with
  | true =>
    go_wp2_with (fail)
    go_ret
    exact ⟨rfl, HB2.out⟩
  | false =>
    have hbg := HBG.out
    simp only [Bool.or_eq_false_iff, decide_eq_false_iff_not] at hbg
    have hn100 : n ≤ 100 := by omega
    have hk40 : kn ≤ 40 := by omega
    have HOK := Bas.hid hok
    have hok2 := caseOk_below hok HB2.out
    have HFE := Bas.hid (features_any ka kn kc K ba bn bc B w2 (by omega) hok.b63 hok2.kinds hok2.excl)
    have HOK2 := Bas.hid hok2
    clear hok hok2 hbg HBG
    have c0 := cell_of_heap (i := 0) (v := .slice a n c) kc2 rfl
    have c1 := cell_of_heap (i := 1) (v := .slice ka kn kc) kc2 rfl
    have c2 := cell_of_heap (i := 2) (v := .slice ba bn bc) kc2 rfl
    go_wp2_with (fail)
    refine HFE.out.mono ?_
    rintro e w3 ⟨v6, v7, fs, rfl, hfs, ho6, ho7, hb3⟩
    have kc3 := (hb3.block _ (heap_lt kc2)).trans kc2
    have HB3 := Bas.hid (HB2.out.trans (hb3.mono HB2.out.size))
    have hfl : fs.length ≤ 40 := by rw [← hfs]; exact Nat.le_trans (featsN_len _ _ _) hk40
    have hfd : (fs.map FeatD.type).Nodup := by rw [← hfs]; exact featsN_nodup _ _ _
    have HFR := Bas.hid (feats_frow hfs ho6)
    have HRR := Bas.hid (feats_rrow ho7)
    have HFD := Bas.hid hfd
    have HOK3 := Bas.hid (caseOk_below HOK.out HB3.out)
    obtain ⟨a6, c6, rfl⟩ := own_slice ho6
    obtain ⟨a7, c7, rfl⟩ := own_slice ho7
    clear hb3 hfs ho6 ho7 HFE HOK2 HB2 c0 c1 c2 kc2 hfd
    have c0 := cell_of_heap (i := 0) (v := .slice a n c) kc3 rfl
    have c1 := cell_of_heap (i := 1) (v := .slice ka kn kc) kc3 rfl
    have c2 := cell_of_heap (i := 2) (v := .slice ba bn bc) kc3 rfl
    go_wp2_with (fail)
    refine (settle_any a n c l _ fs (fs.map fun _ => .slice none 0 0) w2.heap.size w3 HOK3.out.leads HOK3.out.len (by omega) HFR.out (by omega) HOK3.out.wf).mono ?_
    rintro e w4 ⟨v, ys, rfl, his, hown, hb4⟩
    have kc4 := (hb4.block _ (heap_lt kc3)).trans kc3
    have HB4 := Bas.hid (HB3.out.trans (hb4.mono HB3.out.size))
    have HFR4 := Bas.hid (fRow_below HFR.out hb4)
    have HRR4 := Bas.hid (rRow_below HRR.out hb4)
    have HOK4 := Bas.hid (caseOk_below HOK.out HB4.out)
    have hyl : ys.length ≤ 100 := by have := isSet_len his; rw [HOK4.out.len] at this; omega
    have HIS := Bas.hid his
    have hld := Row.leads_owned hown
    have HLD := Bas.hid hld
    have HON := Bas.hid (fun (t u : Int) w' (hb : Below w4.heap.size w4 w') => on_any v ys t u w' (Row.leads_below hld hb) his.1 (by omega))
    have HRON := Bas.hid (fun (t u : Int) (h : wf64 (t, u)) w' (hb : Below w4.heap.size w4 w') => ron_any a n c l _ fs _ t u w' (Row.leads_below HOK4.out.leads hb) HOK4.out.len (by omega) (rRow_below HRR4.out hb) (by omega) HOK4.out.wf h)
    have HOVR := Bas.hid (fun (a0 a1 b0 b1 : Int) (ha : wf64 (a0, a1)) (hb0 : wf64 (b0, b1)) w' (hb : Below w4.heap.size w4 w') => over_any a0 a1 b0 b1 _ fs _ w' (rRow_below HRR4.out hb) (by omega) (wf64_rng ha).2 (wf64_rng hb0).2)
    have HYW : Hid (∀ s ∈ ys, wf64 s) := fun s hs => HOK4.out.wf s (isSet_sub his s hs)
    obtain ⟨va, vc, rfl⟩ := own_slice hown
    have HVC := Bas.hid (own_cap hown).2
    obtain ⟨L, hL⟩ : ∃ L, ys.length = L := ⟨_, rfl⟩
    have HL := Bas.hid hL
    rw [hL] at HON HLD HVC hyl ⊢
    clear hb4 his hown hld hL HFR HRR HOK3 HB3 c0 c1 c2 kc3
    have c0 := cell_of_heap (i := 0) (v := .slice a n c) kc4 rfl
    have c1 := cell_of_heap (i := 1) (v := .slice ka kn kc) kc4 rfl
    have c2 := cell_of_heap (i := 2) (v := .slice ba bn bc) kc4 rfl
    have lT := heap_lt kc4
    go_wp2_with (at_builtin; refine Row.fence ?_)
    refine Row.unfence ?_
    have k5 := Bas.heap_new w4 (.cells #[] 27)
    have hb5 := (Below.refl w4.heap.size w4).alloc (Nat.le_refl _) (.cells #[] 27)
    have kc5 := (hb5.block _ (heap_lt kc4)).trans kc4
    generalize w4.alloc (.cells #[] 27) = W5 at *
    have ho5 := own_empty (e := 27) (size := 2) k5 (Nat.le_refl _)
    clear c0 c1 c2
    refine (Row.append_any rfl _ _ 23 27 rfl (.agg #[.int .i64 0, .int .i64 0]) 2 16 Try.underlying23 infoS rfl (by decide) w4.heap.size _ 0 [] rfl ho5 (.slice a n c) n (l.flatMap setC) rfl (Row.leads_below HOK4.out.leads hb5) (by rw [← HOK4.out.len]; exact setC_flat l) (setC_one l) (by unfold maxLen; omega) (by omega) hb5.size ?_)
    intro v6 w6 ho6 hg6 _
    have hb6 := hb5.grown hg6 hb5.size (fun g' hg' => (Row.own_block ho5 hg').1)
    have kc6 := (hb6.block _ (heap_lt kc4)).trans kc4
    rw [List.nil_append, Nat.zero_add] at ho6
    obtain ⟨a6, c6, rfl⟩ := own_slice ho6
    have HO6 := Bas.hid ho6
    have HB6 := Bas.hid hb6
    clear ho5 hg6 hb5 k5 kc5 ho6 hb6
    go_wp2_with (at_builtin; refine Row.fence ?_)
    refine Row.unfence ?_
    refine (Row.append_any rfl _ _ 23 27 rfl (.agg #[.int .i64 0, .int .i64 0]) 2 16 Try.underlying23 infoS rfl (by decide) w4.heap.size _ n _ rfl HO6.out (.slice va L vc) L (ys.flatMap setC) rfl (Row.leads_below HLD.out HB6.out) (by rw [← HL.out]; exact setC_flat ys) (setC_one ys) (by unfold maxLen; omega) (by omega) HB6.out.size ?_)
    intro v7 w7 ho7 hg7 _
    have hb7 := HB6.out.grown hg7 HB6.out.size (fun g' hg' => (Row.own_block HO6.out hg').1)
    have kc7 := (hb7.block _ (heap_lt kc4)).trans kc4
    obtain ⟨a7, c7, rfl⟩ := own_slice ho7
    have hl7 : Row.Leads w7 (.slice a7 (n + L) c7) (n + L) ((l ++ ys).flatMap setC) := by
      rw [List.flatMap_append]; exact Row.leads_owned ho7
    have HL7 := Bas.hid hl7
    have HB7 := Bas.hid hb7
    have HYL := Bas.hid hyl
    clear ho7 hg7 hb7 hl7 HO6 HB6 kc6
    go_wp2_with (fail)
    refine (settle_any a7 (n + L) c7 (l ++ ys) _ fs (fs.map fun _ => .slice none 0 0) w2.heap.size w7 HL7.out (by rw [List.length_append, HOK4.out.len, HL.out]) (by omega) (fRow_below HFR4.out HB7.out) (by omega) (fun s hs => by
      rcases List.mem_append.1 hs with h | h
      · exact HOK4.out.wf s h
      · exact HYW.out s h)).mono ?_
    rintro e w8 ⟨v8, zs, rfl, hiz, ho8, hb8⟩
    obtain rfl := isSet_uniq hiz (isSet_again HIS.out)
    rw [HL.out] at ho8
    have kc8 := (hb8.block _ (heap_lt kc7)).trans kc7
    have HB8 := Bas.hid (HB7.out.trans (hb8.mono HB7.out.size))
    have HL8 := Bas.hid (Row.leads_owned ho8)
    obtain ⟨a8, c8, rfl⟩ := own_slice ho8
    have HC8 := Bas.hid (own_cap ho8).2
    clear hb8 ho8 hiz HL7 HB7 kc7
    go_wp2_with (fail)
    refine (settle_any va L vc zs _ fs (fs.map fun _ => .slice none 0 0) w2.heap.size w8 (Row.leads_below HLD.out HB8.out) HL.out (by omega) (fRow_below HFR4.out HB8.out) (by omega) HYW.out).mono ?_
    rintro e w9 ⟨v9, zs, rfl, hiz, ho9, hb9⟩
    obtain rfl := isSet_uniq hiz (isSet_once HIS.out)
    rw [HL.out] at ho9
    have HB9 := Bas.hid (HB8.out.trans (hb9.mono HB8.out.size))
    have HL9 := Bas.hid (Row.leads_owned ho9)
    have HL8' := Bas.hid (Row.leads_below HL8.out hb9)
    obtain ⟨a9, c9, rfl⟩ := own_slice ho9
    have HC9 := Bas.hid (own_cap ho9).2
    have HLD9 := Bas.hid (Row.leads_below HLD.out HB9.out)
    clear hb9 ho9 hiz HL8 HB8 kc8 kc4
    have eLL : (L == L) = true := by simp
    have eLI : ((L : Int) == (L : Int)) = true := by simp
    go_wp2_with (fail)
    go_loopw [50] (fun vi wr => ∃ i : Nat, i ≤ L ∧ vi = .int .i64 i ∧ Below w9.heap.size w9 wr) (fun vi _ => L - (intOf vi).toNat)
    case atStart => exact ⟨0, Nat.zero_le _, rfl, Below.refl _ _⟩
    case round =>
      obtain ⟨i, hi, rfl, hb10⟩ := hrel
      have HB10 := Bas.hid hb10
      clear hb10
      by_cases hin : i < L
      · have e1 : decide ((i : Int) < (L : Int)) = true := by simp; omega
        have e2 : decide (i < L) = true := by simp; omega
        obtain ⟨s, hs⟩ : ∃ s, zs[i]? = some s := ⟨_, List.getElem?_eq_getElem (by rw [HL.out]; exact hin)⟩
        obtain ⟨s0, s1⟩ := s
        obtain ⟨B1, O1, cp1, hv1, h1⟩ := Row.leads_elem setC_len (Row.leads_below HLD9.out HB10.out) hs (by omega)
        obtain ⟨B2, O2, cp2, hv2, h2⟩ := Row.leads_elem setC_len (Row.leads_below HL8'.out HB10.out) hs (by omega)
        obtain ⟨B3, O3, cp3, hv3, h3⟩ := Row.leads_elem setC_len (Row.leads_below HL9.out HB10.out) hs (by omega)
        cases hv1
        cases hv2
        cases hv3
        have d0 := h1 0 _ rfl
        have d1 := h1 1 _ rfl
        have f0 := h2 0 _ rfl
        have f1 := h2 1 _ rfl
        have j0 := h3 0 _ rfl
        have j1 := h3 1 _ rfl
        simp only [Nat.add_zero] at d0 f0 j0
        have l1 : B1 < wr.heap.size := World.block_lt_of_cell? _ _ d0
        have l2 : B2 < wr.heap.size := World.block_lt_of_cell? _ _ f0
        have l3 : B3 < wr.heap.size := World.block_lt_of_cell? _ _ j0
        have g0 : (decide (s0 = s0) && decide (s1 = s1)) = true := by simp
        clear h1 h2 h3 hs
        go_wp2_with (fail)
        refine' Pl.region_v0 74 [] [0, 1, 2, 3, 4, 5, 6, 7, 8, 9, 10, 11, 12, 13, 14, 15, 16, 17, 18, 19] [] _ (by kernel_rfl) (by kernel_rfl) (by simp) (fun _ _ _ _ e h => ⟨e ▸ h.1, h.2⟩) ?_ ?_
        rotate_left
        · intro I F hI hF
          simp only [Pl.selN, List.nil_append, List.drop_succ_cons, List.drop_zero]
          have x0 := fun q => hF.cell l1 d0 q
          have x1 := fun q => hF.cell l1 d1 q
          have y0 := fun q => hF.cell l2 f0 q
          have y1 := fun q => hF.cell l2 f1 q
          have z0 := fun q => hF.cell l3 j0 q
          have z1 := fun q => hF.cell l3 j1 q
          repeat (first | go_big_quiet_step (fail) | (go_big_quiet_want; refine quiet_neqS _ _ _ rfl rfl rfl ?_; simp only [g0, Bool.not_true, Act.put, List.setIfInBounds_toArray, List.set_cons_zero, List.set_cons_succ]; go_big_quiet_on))
          refine wpQuiet_nil ?_
          rfl
        intro w11 hw11
        simp only [Pl.selN]
        have HB11 := Bas.hid (HB10.out.trans (hw11.mono HB10.out.size))
        clear hw11 d0 d1 f0 f1 j0 j1
        go_wp2_with (fail)
        go_roundw
        case rel => exact ⟨i + 1, by omega, by go_num, HB11.out⟩
        case measure => simp [intOf]; omega
      · have hin2 : i = L := by omega
        subst hin2
        have HBE := Bas.hid (HB4.out.trans ((HB9.out.trans (HB10.out.mono HB9.out.size)).mono HB4.out.size))
        go_wp2_with (fail)
        go_ret
        exact ⟨rfl, HBE.out⟩

set_option maxRecDepth 100000 in
theorem pickAgain_walk {H : Type} {enc : TypeId × Value → H} (v : Value) (d : DataW H) (p : List MemPlace) (W : World) {base : Nat} (hv : Value.okWide Try.prog W .any base 49 v) (ht : DataW.Trod enc Try.prog W 0 (fun _ => true) true 49 v d p) :
    Calls Try.prog 6 #[v] W fun e w' => e = .returned (.bool true) ∧ Below W.heap.size W w' := by
  obtain ⟨a, n, c, ka, kn, kc, ba, bn, bc, l, K, B, rfl, hok⟩ := open_case v d p W hv ht
  exact pickAgain_core a n c ka kn kc ba bn bc l K B W hok
end Pk
end Go.Proofs.Ytdmhenlfhbigbaa
