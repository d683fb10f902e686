/- The walk of the law PickFlags. -/
import Derived.Test.YtdmhenlfhbigbaaPickPre
import Derived.Test.YtdmhenlfhbigbaaRegD
namespace Go.Proofs.Ytdmhenlfhbigbaa
open Go.RowKit
namespace Pk
open Ch Ft Go.Maps Go.ChangeShapes Go.WideShapes Go.ChangeAt

theorem infoRu : (Try.prog.info? 59).map (fun i => (i.zero, i.size, i.bytes)) = some (some (.agg #[.int .i64 0, .int .i64 0, .int .u32 0, .int .u32 0]), 4, 24) := by kernel_rfl

/-- What is known of the two results of PickFlags' last region. -/
def vFl (fs : List FeatD) (l : List (Int × Int)) (first : Int) (rl : List RuleD) : Nat → Pl.VP
  | 5 => fun v u => ∃ ys, IsSet fs l ys ∧ Row.Leads u v ys.length (ys.flatMap setC)
  | _ => fun v _ => v = .int .u32 (flagsL (refOn fs l) first rl)

set_option maxRecDepth 100000 in
set_option maxHeartbeats 16000000 in
theorem pickFlags_core (a : Option Addr) (n c : Nat) (ka : Option Addr) (kn kc : Nat) (ba : Option Addr) (bn bc : Nat) (l : List (Int × Int)) (K : Nat → Int) (B : Nat → Bool) (first : Int) (ra : Option Addr) (rn rc : Nat) (rl : List RuleD) (w : World) (hok : CaseOk w a n c ka kn kc ba bn bc l K B)
    (hrl : Row.Leads w (.slice ra rn rc) rn (rl.flatMap ruC)) (hrlen : rl.length = rn) (hrwf : ∀ r ∈ rl, wf64 (r.ty, r.val)) (hr63 : rn ≤ 9223372036854775807) :
    Calls Try.prog 5 #[.agg #[.slice a n c, .slice ka kn kc, .slice ba bn bc], .int .u32 first, .slice ra rn rc] w fun e w' => e = .returned (.bool true) ∧ Below w.heap.size w w' := by
  have HRL := Bas.hid hrl
  have HRN := Bas.hid hrlen
  have HRWF := Bas.hid hrwf
  clear hrl hrlen hrwf
  go_enter Try.func5, Try.ntmps5
  go_wp2_with (fail)
  have kc0 := Bas.heap_new w (.cells #[.slice a n c, .slice ka kn kc, .slice ba bn bc] 49)
  have HB0 := Bas.hid ((Below.refl w.heap.size w).alloc (Nat.le_refl _) (.cells #[.slice a n c, .slice ka kn kc, .slice ba bn bc] 49))
  generalize w.alloc (.cells #[.slice a n c, .slice ka kn kc, .slice ba bn bc] 49) = W0 at *
  obtain ⟨T0, hT0⟩ : ∃ T0, w.heap.size = T0 := ⟨_, rfl⟩
  have HT0 := Bas.hid hT0
  rw [hT0] at kc0 ⊢
  clear hT0
  refine (speaks_any _).mono ?_
  rintro e w1 ⟨rfl, hb1⟩
  have kc1 := (hb1.block _ (heap_lt kc0)).trans kc0
  have HB1 := Bas.hid (HB0.out.trans (hb1.mono HB0.out.size))
  clear hb1 HB0 kc0
  have c0 := cell_of_heap (i := 0) (v := .slice a n c) kc1 rfl
  have c1 := cell_of_heap (i := 1) (v := .slice ka kn kc) kc1 rfl
  have c2 := cell_of_heap (i := 2) (v := .slice ba bn bc) kc1 rfl
  go_wp2_with (fail)
  refine (big_any a ka ba n c kn kc bn bc w1).mono ?_
  rintro e w2 ⟨rfl, hb2⟩
  have kc2 := (hb2.block _ (heap_lt kc1)).trans kc1
  have HB2 := Bas.hid (HB1.out.trans (hb2.mono HB1.out.size))
  clear hb2 HB1 kc1 c0 c1 c2
  obtain ⟨bg, hbg⟩ : ∃ bg, (decide (100 < n) || decide (40 < kn)) = bg := ⟨_, rfl⟩
  have HBG := Bas.hid hbg
  rw [hbg]
  clear hbg
  cases bg with
  | true =>
    go_wp2_with (fail)
    go_ret
    exact ⟨rfl, HB2.out⟩
  | false =>
    by_cases hrn : rn ≤ 100
    rotate_left
    · have e8 : decide ((rn : Int) > 100) = true := by simp; omega
      have e9 : decide ((100 : Int) < (rn : Int)) = true := by simp; omega
      have e7 : decide (100 < rn) = true := by simp; omega
      go_wp2_with (fail)
      go_ret
      exact ⟨rfl, HB2.out⟩
    have e8 : decide ((rn : Int) > 100) = false := by simp; omega
    have e9 : decide ((100 : Int) < (rn : Int)) = false := by simp; omega
    have e7 : decide (100 < rn) = false := by simp; omega
    have hbg := HBG.out
    simp only [Bool.or_eq_false_iff, decide_eq_false_iff_not] at hbg
    have hn100 : n ≤ 100 := by omega
    have hk40 : kn ≤ 40 := by omega
    have HOK := Bas.hid hok
    have hok2 := caseOk_below hok HB2.out
    have HFE := Bas.hid (features_any ka kn kc K ba bn bc B w2 (by omega) hok.b63 hok2.kinds hok2.excl)
    have HOK2 := Bas.hid hok2
    clear hok hok2 hbg HBG
    have c0 := cell_of_heap (i := 0) (v := .slice a n c) kc2 rfl
    have c1 := cell_of_heap (i := 1) (v := .slice ka kn kc) kc2 rfl
    have c2 := cell_of_heap (i := 2) (v := .slice ba bn bc) kc2 rfl
    go_wp2_with (fail)
    refine HFE.out.mono ?_
    rintro e w3 ⟨v6, v7, fs, rfl, hfs, ho6, ho7, hb3⟩
    have kc3 := (hb3.block _ (heap_lt kc2)).trans kc2
    have HB3 := Bas.hid (HB2.out.trans (hb3.mono HB2.out.size))
    have hfl : fs.length ≤ 40 := by rw [← hfs]; exact Nat.le_trans (featsN_len _ _ _) hk40
    have hfd : (fs.map FeatD.type).Nodup := by rw [← hfs]; exact featsN_nodup _ _ _
    have HFR := Bas.hid (feats_frow hfs ho6)
    have HRR := Bas.hid (feats_rrow ho7)
    have HFD := Bas.hid hfd
    have HOK3 := Bas.hid (caseOk_below HOK.out HB3.out)
    obtain ⟨a6, c6, rfl⟩ := own_slice ho6
    obtain ⟨a7, c7, rfl⟩ := own_slice ho7
    clear hb3 hfs ho6 ho7 HFE HOK2 HB2 c0 c1 c2 kc2 hfd
    have c0 := cell_of_heap (i := 0) (v := .slice a n c) kc3 rfl
    have c1 := cell_of_heap (i := 1) (v := .slice ka kn kc) kc3 rfl
    have c2 := cell_of_heap (i := 2) (v := .slice ba bn bc) kc3 rfl
    clear e7 e8 e9
    have HRL3 := Bas.hid (Row.leads_below HRL.out HB3.out)
    go_wp2_with (fail)
    go_loopw [9, 31] (fun v9 vi wr => ∃ i : Nat, i ≤ rn ∧ vi = .int .i64 i ∧ wr.ownsRow w3.heap.size 59 4 v9 i ((rl.take i).flatMap ruC) ∧ Below w3.heap.size w3 wr) (fun _ vi _ => rn - (intOf vi).toNat)
    case atStart => exact ⟨0, Nat.zero_le _, rfl, Row.owned_nil _ _ _ _, Below.refl _ _⟩
    case round =>
      obtain ⟨i, hi, rfl, ho9, hb5⟩ := hrel
      obtain ⟨a9, c9, rfl⟩ := own_slice ho9
      have HO9 := Bas.hid ho9
      have HB5 := Bas.hid hb5
      have kc5 := (hb5.block _ (heap_lt kc3)).trans kc3
      clear hb5 ho9 c0 c1 c2
      by_cases hin : i < rn
      · have e1 : decide ((i : Int) < (rn : Int)) = true := by simp; omega
        have e2 : decide (i < rn) = true := by simp; omega
        obtain ⟨s, hs⟩ : ∃ s, rl[i]? = some s := ⟨_, List.getElem?_eq_getElem (by rw [HRN.out]; exact hin)⟩
        have HTK : Hid ((rl.take (i + 1)).flatMap ruC = (rl.take i).flatMap ruC ++ ruC s) := by
          show _ = _
          rw [List.take_add_one, hs, List.flatMap_append]; simp
        obtain ⟨ty, val, en, dis⟩ := s
        obtain ⟨B1, O1, cp1, hv1, hcl⟩ := Row.leads_elem ruC_len (Row.leads_below HRL3.out HB5.out) hs (by omega)
        cases hv1
        have d0 := hcl 0 _ rfl
        have d1 := hcl 1 _ rfl
        have d2 := hcl 2 _ rfl
        have d3 := hcl 3 _ rfl
        simp only [Nat.add_zero] at d0
        have lB : B1 < wr.heap.size := World.block_lt_of_cell? _ _ d0
        clear hcl hs
        go_wp2_with (at_builtin; refine Row.fence ?_)
        refine Row.unfence ?_
        have k9 := Bas.heap_new2 wr (.cells #[.int .i64 ty, .int .i64 val, .int .u32 en, .int .u32 dis] 44) (.cells #[.int .i64 ty, .int .i64 val, .int .u32 en, .int .u32 dis] 59)
        have hb9 := ((Below.refl wr.heap.size wr).alloc (Nat.le_refl _) (.cells #[.int .i64 ty, .int .i64 val, .int .u32 en, .int .u32 dis] 44)).alloc (by simp) (.cells #[.int .i64 ty, .int .i64 val, .int .u32 en, .int .u32 dis] 59)
        have HB9 := Bas.hid (HB5.out.trans (hb9.mono HB5.out.size))
        have HO10 := Bas.hid (Row.owned_below HO9.out hb9)
        generalize (wr.alloc (.cells #[.int .i64 ty, .int .i64 val, .int .u32 en, .int .u32 dis] 44)).alloc (.cells #[.int .i64 ty, .int .i64 val, .int .u32 en, .int .u32 dis] 59) = W9 at *
        clear hb9 HB5 HO9 d0 d1 d2 d3
        refine (Row.append_any rfl _ _ 58 59 rfl (.agg #[.int .i64 0, .int .i64 0, .int .u32 0, .int .u32 0]) 4 24 Try.underlying58 infoRu rfl (by decide) w3.heap.size (.slice a9 i c9) i _ rfl HO10.out (.slice (some ⟨wr.heap.size + 1, 0, none⟩) 1 1) 1 [.int .i64 ty, .int .i64 val, .int .u32 en, .int .u32 dis] rfl (leads_heap k9) rfl (by simp; exact ⟨rfl, rfl, rfl, rfl⟩) (by unfold maxLen; omega) (by omega) HB9.out.size ?_)
        intro v9 w10 hown10 hg10 _
        have HB10 := Bas.hid (HB9.out.grown hg10 HB9.out.size (fun g' hg' => (Row.own_block HO10.out hg').1))
        have HO11 := Bas.hid hown10
        clear hown10 hg10 k9 HB9 HO10
        go_wp2_with (fail)
        go_roundw
        case rel => exact ⟨i + 1, by omega, by go_num, by rw [HTK.out]; exact HO11.out, HB10.out⟩
        case measure => simp [intOf]; omega
      · have hin2 : i = rn := by omega
        subst hin2
        have hlt : rl.take i = rl := List.take_of_length_le (by rw [HRN.out]; exact Nat.le_refl _)
        rw [hlt] at HO9
        have HLW := Bas.hid (Row.leads_owned HO9.out)
        have HRL5 := Bas.hid (Row.leads_below HRL3.out HB5.out)
        have HFR5 := Bas.hid (fRow_below HFR.out HB5.out)
        have HRR5 := Bas.hid (rRow_below HRR.out HB5.out)
        have HOK5 := Bas.hid (caseOk_below HOK3.out HB5.out)
        have HBW := Bas.hid (HB3.out.trans (HB5.out.mono HB3.out.size))
        have c0 := cell_of_heap (i := 0) (v := .slice a n c) kc5 rfl
        have lT := heap_lt kc5
        clear hlt hin HO9 HRL3 HFR HRR HOK3 HB3 kc3 HB5
        go_wp2_with (fail)
        refine' Pl.region_vd 62 [] [0, 1, 2, 3, 4, 7, 8, 9, 10, 11] [(5, 53), (6, 54)] [12, 13, 14] (fun i => if i = 6 then [(5, 53)] else []) _ (vFl fs l first rl) (by kernel_rfl) (by kernel_rfl) (by kernel_rfl) (by simp) (fun _ _ _ _ e h => ⟨e ▸ h.1, h.2⟩) ?_ ?_ ?_ ?_
        rotate_left
        · intro I F hI hF
          simp only [Pl.selN, List.nil_append, List.drop_succ_cons, List.drop_zero]
          have y0 := fun q => hF.cell lT c0 q
          repeat (go_big_quiet_step (fail))
          refine wpQuiet_nil ?_
          rfl
        · intro x hx v u u' h1 hb1 hb2
          simp only [List.mem_cons, List.not_mem_nil, or_false] at hx
          rcases hx with rfl | rfl
          · obtain ⟨ys, h2, h3⟩ := h1
            exact ⟨ys, h2, Row.leads_below h3 hb2⟩
          · exact h1
        · intro x hx o ho f u hu hd
          simp only [List.mem_cons, List.not_mem_nil, or_false] at hx
          rcases hx with rfl | rfl
          · simp only [Pl.selN, List.drop_succ_cons, List.drop_zero, List.mem_singleton] at ho
            subst ho
            go_simp
            simp only [Pl.valsAt]
            refine (settle_any a n c l _ fs (fs.map fun _ => .slice none 0 0) w2.heap.size u (Row.leads_below HOK5.out.leads hu) HOK5.out.len (by omega) (fRow_below HFR5.out hu) (by omega) HOK5.out.wf).mono ?_
            rintro e w'' ⟨v, ys, rfl, his, hown, hb⟩
            exact .inl ⟨_, rfl, hb, ys, his, Row.leads_owned hown⟩
          · simp only [Pl.selN, List.drop_succ_cons, List.drop_zero, List.mem_singleton] at ho
            subst ho
            obtain ⟨ys, his, hld⟩ := hd (5, 53) (by simp)
            have hyl : ys.length ≤ 100000 := by have := isSet_len his; rw [HOK5.out.len] at this; omega
            have hfn : (fun s => decide (s ∈ ys)) = refOn fs l := funext fun s => refOn_mem HFD.out his s
            obtain ⟨s5, hs5⟩ : ∃ s5, f 5 = s5 := ⟨_, rfl⟩
            simp only at hld
            rw [hs5] at hld
            simp only [if_true, List.foldl_cons, List.foldl_nil, Act.put, List.setIfInBounds_toArray, List.set_cons_zero, List.set_cons_succ, hs5]
            go_simp
            simp only [Pl.valsAt]
            refine (flags_any ra i rc rl first s5 ys u (Row.leads_below HRL5.out hu) HRN.out (by omega) hld his.1 hyl).mono ?_
            rintro e w'' ⟨rfl, hb⟩
            rw [hfn]
            exact .inl ⟨_, rfl, hb, rfl⟩
        · intro f u hu hV
          have h6 : f 6 = .int .u32 (flagsL (refOn fs l) first rl) := hV (6, 54) (by simp)
          obtain ⟨s5, hs5⟩ : ∃ s5, f 5 = s5 := ⟨_, rfl⟩
          obtain ⟨fl, hfl2⟩ : ∃ fl, flagsL (refOn fs l) first rl = fl := ⟨_, rfl⟩
          have HRF := Bas.hid (rflags_any _ i _ rl first a n c l _ fs _ u (Row.leads_below HLW.out hu) HRN.out (by omega) HRWF.out (Row.leads_below HOK5.out.leads hu) HOK5.out.len (by omega) (rRow_below HRR5.out hu) (by omega) HOK5.out.wf)
          rw [hfl2] at h6 HRF
          have HBU := Bas.hid (HBW.out.trans (hu.mono HBW.out.size))
          simp only [Pl.selN, List.drop_succ_cons, List.drop_zero, List.foldl_cons, List.foldl_nil, Act.put, List.setIfInBounds_toArray, List.set_cons_zero, List.set_cons_succ, h6, hs5]
          clear h6 hs5 hfl2 hV hu c0 kc5
          go_wp2_with (fail)
          refine HRF.out.mono ?_
          rintro e w8 ⟨rfl, hb8⟩
          have HB8 := Bas.hid (HBU.out.trans (hb8.mono HBU.out.size))
          clear hb8
          go_wp2_with (fail)
          go_ret
          exact ⟨rfl, HB8.out⟩

set_option maxRecDepth 100000 in
theorem pickFlags_walk {H : Type} {enc : TypeId × Value → H} (v : Value) (d : DataW H) (p : List MemPlace) (first : Int) (v2 : Value) (d2 : DataW H) (p2 : List MemPlace) (W : World) {base base2 : Nat} (hv : Value.okWide Try.prog W .any base 49 v) (ht : DataW.Trod enc Try.prog W 0 (fun _ => true) true 49 v d p) (_hf : (Lit.int .u32 first).wf = true) (hv2 : Value.okWide Try.prog W .any base2 41 v2) (ht2 : DataW.Trod enc Try.prog W 0 (fun _ => true) true 41 v2 d2 p2) :
    Calls Try.prog 5 #[v, .int .u32 first, v2] W fun e w' => e = .returned (.bool true) ∧ Below W.heap.size W w' := by
  obtain ⟨a, n, c, ka, kn, kc, ba, bn, bc, l, K, B, rfl, hok⟩ := open_case v d p W hv ht
  obtain ⟨ra, rn, rc, rfl⟩ := okWide_slice Try.underlying41 hv2
  obtain ⟨fuel, hf⟩ := ht2
  obtain ⟨_, _, _, rl, h0, h63, hrn, hld, hwf⟩ := open_rules (v := .slice ra rn rc) hf
  cases h0
  exact pickFlags_core a n c ka kn kc ba bn bc l K B first ra rn rc rl W hok hld hrn hwf h63
end Pk
end Go.Proofs.Ytdmhenlfhbigbaa
