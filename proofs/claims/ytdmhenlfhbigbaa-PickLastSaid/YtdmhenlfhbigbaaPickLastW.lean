/- The walk of the law PickLast. -/
import Derived.Test.YtdmhenlfhbigbaaPickApp
import Derived.Test.YtdmhenlfhbigbaaRegD
namespace Go.Proofs.Ytdmhenlfhbigbaa
open Go.RowKit
namespace Pk
open Ch Ft Go.Maps

/-- What is known of the results of PickLast's region of appends. -/
def vLa (b n : Nat) (l : List (Int × Int)) (x y : Int) : Nat → Pl.VP
  | 0 => fun v u => ∃ g, v = .slice (some ⟨g, 0, none⟩) 0 0 ∧ b ≤ g ∧ u.heap[g]? = some (.cells #[] 27 (0, 0))
  | 3 => fun v u => u.ownsRow b 27 2 v n (l.flatMap setC)
  | _ => fun v u => Row.Leads u v 1 [.int .i64 x, .int .i64 y]
theorem right_at {t v : Int} {b : Bool} (h : rightB (t, v) = b) (w : World) : Calls Try.prog 20 #[.agg #[.int .i64 t, .int .i64 v]] w fun e w' => e = .returned (.bool b) ∧ Below w.heap.size w w' := by
  rw [← h]; exact right_any t v w

set_option maxRecDepth 100000 in
set_option maxHeartbeats 16000000 in
theorem pickLast_core (a : Option Addr) (n c : Nat) (ka : Option Addr) (kn kc : Nat) (ba : Option Addr) (bn bc : Nat) (l : List (Int × Int)) (K : Nat → Int) (B : Nat → Bool) (x y : Int) (w : World) (hok : CaseOk w a n c ka kn kc ba bn bc l K B) (hxy : wf64 (x, y)) :
    Calls Try.prog 8 #[.agg #[.slice a n c, .slice ka kn kc, .slice ba bn bc], .agg #[.int .i64 x, .int .i64 y]] w fun e w' => e = .returned (.bool true) ∧ Below w.heap.size w w' := by
  go_enter Try.func8, Try.ntmps8
  go_wp2_with (fail)
  have kc0 := (Below.heap_alloc (w.alloc (.cells #[.slice a n c, .slice ka kn kc, .slice ba bn bc] 49)) (.cells #[.int .i64 x, .int .i64 y] 27) _ (by simp)).trans (Bas.heap_new w (.cells #[.slice a n c, .slice ka kn kc, .slice ba bn bc] 49))
  have kx0 := Bas.heap_new2 w (.cells #[.slice a n c, .slice ka kn kc, .slice ba bn bc] 49) (.cells #[.int .i64 x, .int .i64 y] 27)
  have HB0 := Bas.hid (((Below.refl w.heap.size w).alloc (Nat.le_refl _) (.cells #[.slice a n c, .slice ka kn kc, .slice ba bn bc] 49)).alloc (by simp) (.cells #[.int .i64 x, .int .i64 y] 27))
  generalize (w.alloc (.cells #[.slice a n c, .slice ka kn kc, .slice ba bn bc] 49)).alloc (.cells #[.int .i64 x, .int .i64 y] 27) = W0 at *
  obtain ⟨T0, hT0⟩ : ∃ T0, w.heap.size = T0 := ⟨_, rfl⟩
  have HT0 := Bas.hid hT0
  rw [hT0] at kc0 kx0 ⊢
  clear hT0
  refine (speaks_any _).mono ?_
  rintro e w1 ⟨rfl, hb1⟩
  have kc1 := (hb1.block _ (heap_lt kc0)).trans kc0
  have kx1 := (hb1.block _ (heap_lt kx0)).trans kx0
  have HB1 := Bas.hid (HB0.out.trans (hb1.mono HB0.out.size))
  clear hb1 HB0 kc0 kx0
  have c0 := cell_of_heap (i := 0) (v := .slice a n c) kc1 rfl
  have c1 := cell_of_heap (i := 1) (v := .slice ka kn kc) kc1 rfl
  have c2 := cell_of_heap (i := 2) (v := .slice ba bn bc) kc1 rfl
  go_wp2_with (fail)
  refine (big_any a ka ba n c kn kc bn bc w1).mono ?_
  rintro e w2 ⟨rfl, hb2⟩
  have kc2 := (hb2.block _ (heap_lt kc1)).trans kc1
  have kx2 := (hb2.block _ (heap_lt kx1)).trans kx1
  have HB2 := Bas.hid (HB1.out.trans (hb2.mono HB1.out.size))
  clear hb2 HB1 kc1 c0 c1 c2 kx1
  obtain ⟨bg, hbg⟩ : ∃ bg, (decide (100 < n) || decide (40 < kn)) = bg := ⟨_, rfl⟩
  have HBG := Bas.hid hbg
  rw [hbg]
  clear hbg
  cases bg with
  | true =>
    go_wp2_with (fail)
    go_ret
    exact ⟨rfl, HB2.out⟩
  | false =>
    have hbg := HBG.out
    simp only [Bool.or_eq_false_iff, decide_eq_false_iff_not] at hbg
    have hn100 : n ≤ 100 := by omega
    have hk40 : kn ≤ 40 := by omega
    have HOK := Bas.hid hok
    have hok2 := caseOk_below hok HB2.out
    have HFE := Bas.hid (features_any ka kn kc K ba bn bc B w2 (by omega) hok.b63 hok2.kinds hok2.excl)
    have HOK2 := Bas.hid hok2
    clear hok hok2 hbg HBG
    have c0 := cell_of_heap (i := 0) (v := .slice a n c) kc2 rfl
    have c1 := cell_of_heap (i := 1) (v := .slice ka kn kc) kc2 rfl
    have c2 := cell_of_heap (i := 2) (v := .slice ba bn bc) kc2 rfl
    go_wp2_with (fail)
    refine HFE.out.mono ?_
    rintro e w3 ⟨v6, v7, fs, rfl, hfs, ho6, ho7, hb3⟩
    have kc3 := (hb3.block _ (heap_lt kc2)).trans kc2
    have kx3 := (hb3.block _ (heap_lt kx2)).trans kx2
    have HB3 := Bas.hid (HB2.out.trans (hb3.mono HB2.out.size))
    have hfl : fs.length ≤ 40 := by rw [← hfs]; exact Nat.le_trans (featsN_len _ _ _) hk40
    have hfd : (fs.map FeatD.type).Nodup := by rw [← hfs]; exact featsN_nodup _ _ _
    have HFR := Bas.hid (feats_frow hfs ho6)
    have HRR := Bas.hid (feats_rrow ho7)
    have HFD := Bas.hid hfd
    have HOK3 := Bas.hid (caseOk_below HOK.out HB3.out)
    obtain ⟨a6, c6, rfl⟩ := own_slice ho6
    obtain ⟨a7, c7, rfl⟩ := own_slice ho7
    clear hb3 hfs ho6 ho7 HFE HOK2 HB2 c0 c1 c2 kc2 kx2 hfd
    have c0 := cell_of_heap (i := 0) (v := .slice a n c) kc3 rfl
    have c1 := cell_of_heap (i := 1) (v := .slice ka kn kc) kc3 rfl
    have c2 := cell_of_heap (i := 2) (v := .slice ba bn bc) kc3 rfl
    go_wp2_with (fail)
    refine (settle_any a n c l _ fs (fs.map fun _ => .slice none 0 0) w2.heap.size w3 HOK3.out.leads HOK3.out.len (by omega) HFR.out (by omega) HOK3.out.wf).mono ?_
    rintro e w4 ⟨v, ys, rfl, his, hown, hb4⟩
    have kc4 := (hb4.block _ (heap_lt kc3)).trans kc3
    have kx4 := (hb4.block _ (heap_lt kx3)).trans kx3
    have HB4 := Bas.hid (HB3.out.trans (hb4.mono HB3.out.size))
    have HFR4 := Bas.hid (fRow_below HFR.out hb4)
    have HRR4 := Bas.hid (rRow_below HRR.out hb4)
    have HOK4 := Bas.hid (caseOk_below HOK.out HB4.out)
    have hyl : ys.length ≤ 100 := by have := isSet_len his; rw [HOK4.out.len] at this; omega
    have HIS := Bas.hid his
    have hld := Row.leads_owned hown
    have HLD := Bas.hid hld
    have HON := Bas.hid (fun (t u : Int) w' (hb : Below w4.heap.size w4 w') => on_any v ys t u w' (Row.leads_below hld hb) his.1 (by omega))
    have HRON := Bas.hid (fun (t u : Int) (h : wf64 (t, u)) w' (hb : Below w4.heap.size w4 w') => ron_any a n c l _ fs _ t u w' (Row.leads_below HOK4.out.leads hb) HOK4.out.len (by omega) (rRow_below HRR4.out hb) (by omega) HOK4.out.wf h)
    have HOVR := Bas.hid (fun (a0 a1 b0 b1 : Int) (ha : wf64 (a0, a1)) (hb0 : wf64 (b0, b1)) w' (hb : Below w4.heap.size w4 w') => over_any a0 a1 b0 b1 _ fs _ w' (rRow_below HRR4.out hb) (by omega) (wf64_rng ha).2 (wf64_rng hb0).2)
    have HYW : Hid (∀ s ∈ ys, wf64 s) := fun s hs => HOK4.out.wf s (isSet_sub his s hs)
    obtain ⟨va, vc, rfl⟩ := own_slice hown
    have HVC := Bas.hid (own_cap hown).2
    obtain ⟨L, hL⟩ : ∃ L, ys.length = L := ⟨_, rfl⟩
    have HL := Bas.hid hL
    rw [hL] at HON HLD HVC hyl ⊢
    clear hb4 his hown hld hL HFR HRR HOK3 HB3 c0 c1 c2 kc3 kx3
    have c0 := cell_of_heap (i := 0) (v := .slice a n c) kc4 rfl
    have c1 := cell_of_heap (i := 1) (v := .slice ka kn kc) kc4 rfl
    have c2 := cell_of_heap (i := 2) (v := .slice ba bn bc) kc4 rfl
    have q0 := cell_of_heap (i := 0) (v := .int .i64 x) kx4 rfl
    have q1 := cell_of_heap (i := 1) (v := .int .i64 y) kx4 rfl
    have lT := heap_lt kc4
    have lX := heap_lt kx4
    go_wp2_with (fail)
    refine' Pl.region_vd 74 [7] [1, 2, 4] [(0, 27), (3, 30), (5, 32)] [6, 8, 9] (fun i => if i = 3 then [(0, 27)] else []) _ (vLa w4.heap.size n l x y) (by kernel_rfl) (by kernel_rfl) (by kernel_rfl) (by simp) (fun _ _ _ _ e h => ⟨e ▸ h.1, h.2⟩) ?_ ?_ ?_ ?_
    rotate_left
    · intro I F hI hF
      simp only [Pl.selN, List.cons_append, List.nil_append, List.drop_succ_cons, List.drop_zero]
      have y0 := fun q => hF.cell lT c0 q
      have x0 := fun q => hF.cell lX q0 q
      have x1 := fun q => hF.cell lX q1 q
      repeat (go_big_quiet_step (fail))
      refine wpQuiet_nil ?_
      rfl
    · intro z hz v u u' h1 hb1 hb2
      simp only [List.mem_cons, List.not_mem_nil, or_false] at hz
      rcases hz with rfl | rfl | rfl
      · obtain ⟨g, h2, h3, h4⟩ := h1
        exact ⟨g, h2, h3, (hb2.block _ (heap_lt h4)).trans h4⟩
      · exact Row.owned_below h1 hb2
      · exact Row.leads_below h1 hb2
    · intro z hz o ho f u hu hd
      simp only [List.mem_cons, List.not_mem_nil, or_false] at hz
      rcases hz with rfl | rfl | rfl
      · simp only [Pl.selN, List.drop_succ_cons, List.drop_zero, List.mem_singleton] at ho
        subst ho
        go_simp
        simp only [Pl.valsAt]
        exact ⟨(Below.refl u.heap.size u).alloc (Nat.le_refl _) _, _, rfl, hu.size, Bas.heap_new u _⟩
      · simp only [Pl.selN, List.drop_succ_cons, List.drop_zero, List.mem_singleton] at ho
        subst ho
        obtain ⟨g, hg, hbg, hh⟩ := hd (0, 27) (by simp)
        simp only at hg
        obtain ⟨v', w', hr, ho2, hb2⟩ := append_fresh (P := Try.prog) u w4.heap.size 23 23 27 (.agg #[.int .i64 0, .int .i64 0]) 2 16 Try.underlying23 infoS rfl (by decide) g hh hbg (.slice a n c) n (l.flatMap setC) (Row.leads_below HOK4.out.leads hu) (by rw [← HOK4.out.len]; exact setC_flat l) (fun v hv => by
          obtain ⟨s, _, hs⟩ := List.mem_flatMap.1 hv
          simp [setC] at hs
          rcases hs with rfl | rfl <;> rfl) (by unfold maxLen; omega) (by omega)
        simp only [if_true, List.foldl_cons, List.foldl_nil, Act.put, List.setIfInBounds_toArray, List.set_cons_zero, List.set_cons_succ, hg]
        simp only [execOp, resolve, invoke, builtin, Sem.run_bind, Sem.run_pure, Result.andThen_ok, List.map_toArray, List.map_cons, List.map_nil, Act.eval, List.getElem?_toArray, List.getElem?_cons_succ, List.getElem?_cons_zero, Array.getD_eq_getD_getElem?, Option.getD_some, hr]
        exact ⟨hb2, ho2⟩
      · simp only [Pl.selN, List.drop_succ_cons, List.drop_zero, List.mem_singleton] at ho
        subst ho
        go_simp
        simp only [Pl.valsAt]
        exact ⟨(Below.refl u.heap.size u).alloc (Nat.le_refl _) _, leads_heap (Bas.heap_new u _)⟩
    · intro f u hu hV
      have h3 : u.ownsRow w4.heap.size 27 2 (f 3) n (l.flatMap setC) := hV (3, 30) (by simp)
      have h5 : Row.Leads u (f 5) 1 [.int .i64 x, .int .i64 y] := hV (5, 32) (by simp)
      obtain ⟨p0, hp0⟩ : ∃ p, f 0 = p := ⟨_, rfl⟩
      obtain ⟨p3, hp3⟩ : ∃ p, f 3 = p := ⟨_, rfl⟩
      obtain ⟨p5, hp5⟩ : ∃ p, f 5 = p := ⟨_, rfl⟩
      simp only [Pl.selN, List.drop_succ_cons, List.drop_zero, List.foldl_cons, List.foldl_nil, Act.put, List.setIfInBounds_toArray, List.set_cons_zero, List.set_cons_succ, hp0, hp3, hp5]
      rw [hp3] at h3
      rw [hp5] at h5
      have HB5 := Bas.hid hu
      have kc5 := (hu.block _ lT).trans kc4
      have kx5 := (hu.block _ lX).trans kx4
      have H3 := Bas.hid h3
      clear hu hV hp0 hp3 hp5 c0 c1 c2 q0 q1 kc4 kx4
      refine (Row.append_any rfl _ _ 23 27 rfl (.agg #[.int .i64 0, .int .i64 0]) 2 16 Try.underlying23 infoS rfl (by decide) w4.heap.size p3 n _ rfl h3 p5 1 [.int .i64 x, .int .i64 y] rfl h5 rfl (by simp; exact ⟨rfl, rfl⟩) (by unfold maxLen; omega) (by omega) HB5.out.size ?_)
      intro v6 w6 hown6 hg6 _
      have HB6 := Bas.hid (HB5.out.grown hg6 HB5.out.size (fun g' hg' => (Row.own_block H3.out hg').1))
      have kc6 : w6.heap[T0]? = _ := (HB6.out.block _ lT).trans ((HB5.out.block _ lT).symm.trans kc5)
      have kx6 : w6.heap[T0 + 1]? = _ := (HB6.out.block _ lX).trans ((HB5.out.block _ lX).symm.trans kx5)
      obtain ⟨a6, c6, rfl⟩ := own_slice hown6
      have hl6 : Row.Leads w6 (.slice a6 (n + 1) c6) (n + 1) ((l ++ [(x, y)]).flatMap setC) := by
        rw [List.flatMap_append]; exact Row.leads_owned hown6
      have HL6 := Bas.hid hl6
      clear h3 h5 H3 hown6 hg6 kc5 kx5 HB5 hl6
      go_wp2_with (fail)
      refine (settle_any a6 (n + 1) c6 (l ++ [(x, y)]) _ fs (fs.map fun _ => .slice none 0 0) w2.heap.size w6 HL6.out (by rw [List.length_append, HOK4.out.len]; rfl) (by omega) (fRow_below HFR4.out HB6.out) (by omega) (fun s hs => by
        rcases List.mem_append.1 hs with h | h
        · exact HOK4.out.wf s h
        · rw [List.mem_singleton] at h; subst h; exact hxy)).mono ?_
      rintro e w7 ⟨v8, zs, rfl, hiz, hown8, hb7⟩
      have HB7 := Bas.hid (HB6.out.trans (hb7.mono HB6.out.size))
      have kc7 := (hb7.block _ (heap_lt kc6)).trans kc6
      have kx7 := (hb7.block _ (heap_lt kx6)).trans kx6
      have hzl : zs.length ≤ 101 := by have := isSet_len hiz; rw [List.length_append, HOK4.out.len] at this; simp at this; omega
      have HIZ := Bas.hid hiz
      have hlz := Row.leads_owned hown8
      have HON2 := Bas.hid (fun (t u : Int) w' (hb : Below w7.heap.size w7 w') => on_any v8 zs t u w' (Row.leads_below hlz hb) hiz.1 (by omega))
      have HZL := Bas.hid (last_len HIS.out hiz)
      rw [HL.out] at HZL
      obtain ⟨va8, vc8, rfl⟩ := own_slice hown8
      obtain ⟨Z, hZ⟩ : ∃ Z, zs.length = Z := ⟨_, rfl⟩
      rw [hZ] at HON2 HZL hzl ⊢
      clear hb7 HB6 hiz hown8 hlz hZ kc6 kx6 HL6
      have HO8 := Bas.hid (fun w' hb => HON2.out x y w' hb)
      rw [last_is HIZ.out] at HO8
      have HR8 := Bas.hid (fun w' => right_any x y w')
      obtain ⟨rb, hrb⟩ : ∃ rb, rightB (x, y) = rb := ⟨_, rfl⟩
      have HRB := Bas.hid hrb
      rw [hrb] at HO8 HR8
      have q0 := cell_of_heap (i := 0) (v := .int .i64 x) kx7 rfl
      have q1 := cell_of_heap (i := 1) (v := .int .i64 y) kx7 rfl
      have lX7 := heap_lt kx7
      clear hrb
      have HB70 := Bas.hid (Below.refl w7.heap.size w7)
      go_wp2_with (fail)
      refine' Pl.region_v0 74 [] [0, 1, 2, 3, 4, 5] [] _ (by kernel_rfl) (by kernel_rfl) (by simp) (fun _ _ _ _ e h => ⟨e ▸ h.1, h.2⟩) ?_ ?_
      rotate_left
      · intro I F hI hF
        simp only [Pl.selN, List.nil_append, List.drop_succ_cons, List.drop_zero]
        have x0 := fun q => hF.cell lX7 q0 q
        have x1 := fun q => hF.cell lX7 q1 q
        repeat (go_big_quiet_step (first | (go_at_call 19; with_reducible exact hF.call (HO8.out _ (hF.on HB70.out _))) | (go_at_call 20; with_reducible exact hF.call (HR8.out _))))
        refine wpQuiet_nil ?_
        rfl
      intro w8 hw8
      simp only [Pl.selN]
      have HB8 := Bas.hid (HB7.out.trans (hw8.mono HB7.out.size))
      have HB78 := Bas.hid hw8
      have kx8 := (hw8.block _ lX7).trans kx7
      clear hw8 q0 q1 HO8 HR8 HB7 kc7 HB70
      have hbb : (rb != rb) = false := by cases rb <;> rfl
      go_wp2_with (fail)
      go_loopw [44] (fun vi wr => ∃ i : Nat, i ≤ L ∧ vi = .int .i64 i ∧ Below w8.heap.size w8 wr) (fun vi _ => L - (intOf vi).toNat)
      case atStart => exact ⟨0, Nat.zero_le _, rfl, Below.refl _ _⟩
      case round =>
        obtain ⟨i, hi, rfl, hb9⟩ := hrel
        have HB9 := Bas.hid (HB8.out.trans (hb9.mono HB8.out.size))
        have HB79 := Bas.hid (HB78.out.trans (hb9.mono HB78.out.size))
        have HBR := Bas.hid hb9
        have kx9 := (hb9.block _ (heap_lt kx8)).trans kx8
        clear hb9 hbb
        by_cases hin : i < L
        · have e1 : decide ((i : Int) < (L : Int)) = true := by simp; omega
          have e2 : decide (i < L) = true := by simp; omega
          obtain ⟨s, hs⟩ : ∃ s, ys[i]? = some s := ⟨_, List.getElem?_eq_getElem (by rw [HL.out]; exact hin)⟩
          have hsm := List.mem_of_getElem? hs
          have HKP := Bas.hid (last_keeps HFD.out HIS.out HIZ.out hsm)
          have HSW := Bas.hid (HYW.out _ hsm)
          rw [HRB.out] at HKP
          obtain ⟨s0, s1⟩ := s
          obtain ⟨B1, O1, cp1, hv1, hcl⟩ := Row.leads_elem setC_len (Row.leads_below HLD.out HB9.out) hs (by omega)
          cases hv1
          have d0 := hcl 0 _ rfl
          have d1 := hcl 1 _ rfl
          simp only [Nat.add_zero] at d0
          have lB : B1 < wr.heap.size := World.block_lt_of_cell? _ _ d0
          have HO1 := Bas.hid (fun w' hb => HON2.out s0 s1 w' hb)
          rw [HKP.out] at HO1
          have HV1 := Bas.hid (fun w' hb => HOVR.out s0 s1 x y HSW.out hxy w' hb)
          clear hcl hs hsm HKP
          go_wp2_with (fail)
          have q6 := Bas.heap_new wr (.cells #[.int .i64 s0, .int .i64 s1] 27)
          have HB6 := Bas.hid (HB9.out.alloc HB9.out.size (.cells #[.int .i64 s0, .int .i64 s1] 27))
          have HB76 := Bas.hid (HB79.out.alloc HB79.out.size (.cells #[.int .i64 s0, .int .i64 s1] 27))
          have HBR6 := Bas.hid (HBR.out.alloc HBR.out.size (.cells #[.int .i64 s0, .int .i64 s1] 27))
          have kx6 := (Below.heap_alloc wr (.cells #[.int .i64 s0, .int .i64 s1] 27) _ (heap_lt kx9)).trans kx9
          generalize wr.alloc (.cells #[.int .i64 s0, .int .i64 s1] 27) = W6 at *
          obtain ⟨T6, hT6⟩ : ∃ T6, wr.heap.size = T6 := ⟨_, rfl⟩
          rw [hT6] at q6 ⊢
          have l6 := heap_lt q6
          have lX6 := heap_lt kx6
          have q0 := cell_of_heap (i := 0) (v := .int .i64 s0) q6 rfl
          have q1 := cell_of_heap (i := 1) (v := .int .i64 s1) q6 rfl
          have r0 := cell_of_heap (i := 0) (v := .int .i64 x) kx6 rfl
          have r1 := cell_of_heap (i := 1) (v := .int .i64 y) kx6 rfl
          clear d0 d1 hT6 q6 kx9 HB9 HB79 HBR lB
          cases rb with
          | false =>
            simp only [Bool.not_false, Bool.true_or] at HO1
            as_aux_lemma =>
              refine' Pl.region_v0 74 [] [0, 1, 2, 3, 4, 5, 6, 7, 8, 9, 10, 11, 12, 13, 14, 15, 16, 17, 18] [] _ (by kernel_rfl) (by kernel_rfl) (by simp) (fun _ _ _ _ e h => ⟨e ▸ h.1, h.2⟩) ?_ ?_
              rotate_left
              · intro I F hI hF
                simp only [Pl.selN, List.nil_append, List.drop_succ_cons, List.drop_zero]
                have x0 := fun q => hF.cell l6 q0 q
                have x1 := fun q => hF.cell l6 q1 q
                have y0 := fun q => hF.cell lX6 r0 q
                have y1 := fun q => hF.cell lX6 r1 q
                repeat (first | go_big_quiet_step (first | (go_at_call 19; with_reducible exact hF.call (HO1.out _ (hF.on HB76.out _))) | (go_at_call 20; with_reducible exact hF.call (right_at HRB.out _)) | (go_at_call 13; with_reducible exact hF.call (HV1.out _ (hF.on HB6.out _)))) | (go_big_quiet_want; refine quiet_eqS _ _ _ rfl rfl rfl ?_; simp only [g0, Act.put, List.setIfInBounds_toArray, List.set_cons_zero, List.set_cons_succ]; go_big_quiet_on))
                refine wpQuiet_nil ?_
                rfl
              intro w10 hw10
              simp only [Pl.selN]
              have HB10 := Bas.hid (HBR6.out.trans (hw10.mono HBR6.out.size))
              clear hw10 q0 q1 r0 r1
              go_wp2_with (fail)
              go_roundw
              case rel => exact ⟨i + 1, by omega, by go_num, HB10.out⟩
              case measure => simp [intOf]; omega
          | true =>
            simp only [Bool.not_true, Bool.false_or] at HO1
            by_cases hxs : s0 = x ∧ s1 = y
            · obtain ⟨rfl, rfl⟩ := hxs
              have hd : decide ((s0, s1) = (s0, s1)) = true := by simp
              have g0 : (decide (s0 = s0) && decide (s1 = s1)) = true := by simp
              rw [hd, Bool.true_or] at HO1
              clear hd
              as_aux_lemma =>
                refine' Pl.region_v0 74 [] [0, 1, 2, 3, 4, 5, 6, 7, 8, 9, 10, 11, 12, 13, 14, 15, 16, 17, 18] [] _ (by kernel_rfl) (by kernel_rfl) (by simp) (fun _ _ _ _ e h => ⟨e ▸ h.1, h.2⟩) ?_ ?_
                rotate_left
                · intro I F hI hF
                  simp only [Pl.selN, List.nil_append, List.drop_succ_cons, List.drop_zero]
                  have x0 := fun q => hF.cell l6 q0 q
                  have x1 := fun q => hF.cell l6 q1 q
                  have y0 := fun q => hF.cell lX6 r0 q
                  have y1 := fun q => hF.cell lX6 r1 q
                  repeat (first | go_big_quiet_step (first | (go_at_call 19; with_reducible exact hF.call (HO1.out _ (hF.on HB76.out _))) | (go_at_call 20; with_reducible exact hF.call (right_at HRB.out _)) | (go_at_call 13; with_reducible exact hF.call (HV1.out _ (hF.on HB6.out _)))) | (go_big_quiet_want; refine quiet_eqS _ _ _ rfl rfl rfl ?_; simp only [g0, Act.put, List.setIfInBounds_toArray, List.set_cons_zero, List.set_cons_succ]; go_big_quiet_on))
                  refine wpQuiet_nil ?_
                  rfl
                intro w10 hw10
                simp only [Pl.selN]
                have HB10 := Bas.hid (HBR6.out.trans (hw10.mono HBR6.out.size))
                clear hw10 q0 q1 r0 r1
                go_wp2_with (fail)
                go_roundw
                case rel => exact ⟨i + 1, by omega, by go_num, HB10.out⟩
                case measure => simp [intOf]; omega
            · have hd : decide ((s0, s1) = (x, y)) = false := by simpa using hxs
              have g0 : (decide (s0 = x) && decide (s1 = y)) = false := by rw [← Bool.not_eq_true, Bool.and_eq_true, decide_eq_true_iff, decide_eq_true_iff]; exact hxs
              rw [hd, Bool.false_or] at HO1
              obtain ⟨ob, hob⟩ : ∃ ob, overB fs (s0, s1) (x, y) = ob := ⟨_, rfl⟩
              rw [hob] at HO1 HV1
              have hbb : (!ob != !ob) = false := by cases ob <;> rfl
              clear hd hob hxs
              as_aux_lemma =>
                refine' Pl.region_v0 74 [] [0, 1, 2, 3, 4, 5, 6, 7, 8, 9, 10, 11, 12, 13, 14, 15, 16, 17, 18] [] _ (by kernel_rfl) (by kernel_rfl) (by simp) (fun _ _ _ _ e h => ⟨e ▸ h.1, h.2⟩) ?_ ?_
                rotate_left
                · intro I F hI hF
                  simp only [Pl.selN, List.nil_append, List.drop_succ_cons, List.drop_zero]
                  have x0 := fun q => hF.cell l6 q0 q
                  have x1 := fun q => hF.cell l6 q1 q
                  have y0 := fun q => hF.cell lX6 r0 q
                  have y1 := fun q => hF.cell lX6 r1 q
                  repeat (first | go_big_quiet_step (first | (go_at_call 19; with_reducible exact hF.call (HO1.out _ (hF.on HB76.out _))) | (go_at_call 20; with_reducible exact hF.call (right_at HRB.out _)) | (go_at_call 13; with_reducible exact hF.call (HV1.out _ (hF.on HB6.out _)))) | (go_big_quiet_want; refine quiet_eqS _ _ _ rfl rfl rfl ?_; simp only [g0, Act.put, List.setIfInBounds_toArray, List.set_cons_zero, List.set_cons_succ]; go_big_quiet_on))
                  refine wpQuiet_nil ?_
                  rfl
                intro w10 hw10
                simp only [Pl.selN]
                have HB10 := Bas.hid (HBR6.out.trans (hw10.mono HBR6.out.size))
                clear hw10 q0 q1 r0 r1
                go_wp2_with (fail)
                go_roundw
                case rel => exact ⟨i + 1, by omega, by go_num, HB10.out⟩
                case measure => simp [intOf]; omega
        · have hin2 : i = L := by omega
          subst hin2
          have e5 : decide ((Z : Int) ≤ (i : Int) + 1) = true := by have := HZL.out; simp; omega
          have e6 : decide (Z ≤ i + 1) = true := by have := HZL.out; simp; omega
          have HBE := Bas.hid (HB4.out.trans (HB9.out.mono HB4.out.size))
          go_wp2_with (fail)
          go_ret
          exact ⟨rfl, HBE.out⟩

set_option maxRecDepth 100000 in
theorem pickLast_walk {H : Type} {enc : TypeId × Value → H} (v : Value) (d : DataW H) (p : List MemPlace) (v1 : Value) (d1 : DataW H) (p1 : List MemPlace) (W : World) {base base1 : Nat} (hv : Value.okWide Try.prog W .any base 49 v) (ht : DataW.Trod enc Try.prog W 0 (fun _ => true) true 49 v d p) (hv1 : Value.okWide Try.prog W .any base1 27 v1) (ht1 : DataW.Trod enc Try.prog W 0 (fun _ => true) true 27 v1 d1 p1) :
    Calls Try.prog 8 #[v, v1] W fun e w' => e = .returned (.bool true) ∧ Below W.heap.size W w' := by
  obtain ⟨a, n, c, ka, kn, kc, ba, bn, bc, l, K, B, rfl, hok⟩ := open_case v d p W hv ht
  obtain ⟨x, y, rfl, hxy⟩ := open_one v1 d1 p1 W hv1 ht1
  exact pickLast_core a n c ka kn kc ba bn bc l K B x y W hok hxy
end Pk
end Go.Proofs.Ytdmhenlfhbigbaa
