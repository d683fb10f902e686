/- Layer 9's reference: On. -/
import Derived.Test.YtdmhenlfhbigbaaPickRef
namespace Go.Proofs.Ytdmhenlfhbigbaa
open Go.RowKit
namespace Pk
open Ch Ft Go.Maps

def refOn (fs : List FeatD) (l : List (Int × Int)) (s : Int × Int) : Bool := l.foldl (fun on x => if rightB x && overB fs x s then decide (x = s) else on) false
theorem refOn_snoc (fs : List FeatD) (l : List (Int × Int)) (x s : Int × Int) : refOn fs (l ++ [x]) s = if rightB x && overB fs x s then decide (x = s) else refOn fs l s := by
  unfold refOn; rw [List.foldl_append]; rfl
theorem wf64_rng {s : Int × Int} (h : wf64 s) : (-9223372036854775808 ≤ s.1 ∧ s.1 ≤ 9223372036854775807) ∧ (-9223372036854775808 ≤ s.2 ∧ s.2 ≤ 9223372036854775807) := by
  obtain ⟨h1, h2⟩ := h
  simp [Lit.wf, IntKind.min, IntKind.max, IntKind.bits, IntKind.signed] at h1 h2
  omega

set_option maxRecDepth 100000 in
set_option maxHeartbeats 8000000 in
theorem ron_any (a : Option Addr) (len cap : Nat) (l : List (Int × Int)) (fv : Value) (fs : List FeatD) (rs : List Value) (t u : Int) (w : World) (hl : Row.Leads w (.slice a len cap) len (l.flatMap setC)) (hn : l.length = len) (hlen : len ≤ 100000) (hr : RRow w fv fs rs) (hfl : fs.length ≤ 100000) (hwf : ∀ s ∈ l, wf64 s) (hu : wf64 (t, u)) :
    Calls Try.prog 18 #[.slice a len cap, fv, .agg #[.int .i64 t, .int .i64 u]] w fun e w' => e = .returned (.bool (refOn fs l (t, u))) ∧ Below w.heap.size w w' := by
  have HL := Bas.hid hl
  have HN := Bas.hid hn
  have HWF := Bas.hid hwf
  have hur := wf64_rng hu
  simp only at hur
  have HOV := Bas.hid (fun (t0 v0 : Int) (h0 : wf64 (t0, v0)) w' (hb : Below w.heap.size w w') => over_any t0 v0 t u fv fs rs w' (rRow_below hr hb) hfl (wf64_rng h0).2 hur.2)
  obtain ⟨fa, fc, rfl⟩ := Row.leads_slice hr.2
  obtain ⟨r, hre⟩ : ∃ r, refOn fs l (t, u) = r := ⟨_, rfl⟩
  have HRE := Bas.hid hre
  rw [hre]
  clear hl hn hwf hr hfl hu hur hre
  go_enter Try.func18, Try.ntmps18
  go_wp2_with (fail)
  have k4 := Bas.heap_new w (.cells #[.int .i64 t, .int .i64 u] 27)
  have HB0 := Bas.hid ((Below.refl w.heap.size w).alloc (Nat.le_refl _) (.cells #[.int .i64 t, .int .i64 u] 27))
  generalize w.alloc (.cells #[.int .i64 t, .int .i64 u] 27) = W at *
  obtain ⟨T4, hT4⟩ : ∃ T4, w.heap.size = T4 := ⟨_, rfl⟩
  have HT4 := Bas.hid hT4
  rw [hT4] at k4 ⊢
  clear hT4
  go_loopw [7, 8] (fun va vb wr => ∃ (i : Nat) (b : Bool), i ≤ len ∧ va = .bool b ∧ vb = .int .i64 i ∧ refOn fs (l.take i) (t, u) = b ∧ Below w.heap.size w wr ∧ wr.heap[T4]? = some (.cells #[.int .i64 t, .int .i64 u] 27)) (fun _ vb _ => len - (intOf vb).toNat)
  case atStart => exact ⟨0, false, Nat.zero_le _, rfl, rfl, rfl, HB0.out, k4⟩
  case round =>
    obtain ⟨i, b, hi, rfl, rfl, hbv, hb, k5⟩ := hrel
    have HBV := Bas.hid hbv
    have HB := Bas.hid hb
    clear hbv hb k4 HB0
    have l5 := heap_lt k5
    have d0 := cell_of_heap (i := 0) (v := .int .i64 t) k5 rfl
    have d1 := cell_of_heap (i := 1) (v := .int .i64 u) k5 rfl
    by_cases hin : i < len
    · have e1 : decide ((i : Int) < (len : Int)) = true := by simp; omega
      have e2 : decide (i < len) = true := by simp; omega
      obtain ⟨s, hs⟩ : ∃ s, l[i]? = some s := ⟨_, List.getElem?_eq_getElem (by rw [HN.out]; exact hin)⟩
      obtain ⟨x, y⟩ := s
      obtain ⟨B, Of, cp0, hv0, hcl⟩ := Row.leads_elem setC_len HL.out hs (by omega)
      cases hv0
      have h0 := hcl 0 _ rfl
      have h1 := hcl 1 _ rfl
      simp only [Nat.add_zero] at h0
      have lb : B < w.heap.size := World.block_lt_of_cell? _ _ h0
      have c0 := (HB.out.cell (p := ⟨B, Of + i * 2, none⟩) lb).trans h0
      have c1 := (HB.out.cell (p := ⟨B, Of + i * 2 + 1, none⟩) lb).trans h1
      have lbr : B < wr.heap.size := Nat.lt_of_lt_of_le lb HB.out.size
      have HW := Bas.hid (HWF.out _ (List.mem_of_getElem? hs))
      have hTK : l.take (i + 1) = l.take i ++ [(x, y)] := by rw [List.take_add_one, hs]; rfl
      have hsn := refOn_snoc fs (l.take i) (x, y) (t, u)
      rw [← hTK, HBV.out] at hsn
      have HOX := Bas.hid (fun w' hb => HOV.out x y HW.out w' hb)
      have HRT := Bas.hid (fun w' => rright_any x y w')
      obtain ⟨rb, hrb⟩ : ∃ rb, rightB (x, y) = rb := ⟨_, rfl⟩
      obtain ⟨ob, hob⟩ : ∃ ob, overB fs (x, y) (t, u) = ob := ⟨_, rfl⟩
      rw [hrb, hob] at hsn
      rw [hrb] at HRT
      rw [hob] at HOX
      clear hs hcl h0 h1 hTK hrb hob
      cases rb with
      | false =>
        simp only [Bool.false_and, if_false, Bool.false_eq_true] at hsn
        have HSN := Bas.hid hsn
        clear hsn
        go_wp2_with (fail)
        refine' Pl.region_v0 36 [] [0, 1, 2, 3, 4, 5, 6, 7, 8, 9, 10, 11, 12, 13] [] _ (by kernel_rfl) (by kernel_rfl) (by simp) (fun _ _ _ _ e h => ⟨e ▸ h.1, h.2⟩) ?_ ?_
        rotate_left
        · intro I F hI hF
          simp only [Pl.selN, List.nil_append, List.drop_succ_cons, List.drop_zero]
          have x0 := fun q => hF.cell lbr c0 q
          have x1 := fun q => hF.cell lbr c1 q
          repeat (go_big_quiet_step ((go_at_call 21; with_reducible exact hF.call (HRT.out _))))
          refine wpQuiet_nil ?_
          rfl
        intro w2 hw2
        simp only [Pl.selN]
        have HB2 := Bas.hid (HB.out.trans (hw2.mono HB.out.size))
        have k6 := (hw2.block _ l5).trans k5
        clear hw2 c0 c1 d0 d1 HB k5
        go_wp2_with (fail)
        go_roundw
        case rel => exact ⟨i + 1, b, by omega, rfl, by go_num, HSN.out, HB2.out, k6⟩
        case measure => simp [intOf]; omega
      | true =>
        simp only [Bool.true_and] at hsn
        cases ob with
        | false =>
          simp only [if_false, Bool.false_eq_true] at hsn
          have HSN := Bas.hid hsn
          clear hsn
          go_wp2_with (fail)
          refine' Pl.region_v0 36 [] [0, 1, 2, 3, 4, 5, 6, 7, 8, 9, 10, 11, 12, 13] [] _ (by kernel_rfl) (by kernel_rfl) (by simp) (fun _ _ _ _ e h => ⟨e ▸ h.1, h.2⟩) ?_ ?_
          rotate_left
          · intro I F hI hF
            simp only [Pl.selN, List.nil_append, List.drop_succ_cons, List.drop_zero]
            have x0 := fun q => hF.cell lbr c0 q
            have x1 := fun q => hF.cell lbr c1 q
            have y0 := fun q => hF.cell l5 d0 q
            have y1 := fun q => hF.cell l5 d1 q
            repeat (go_big_quiet_step (first | (go_at_call 21; with_reducible exact hF.call (HRT.out _)) | (go_at_call 13; with_reducible exact hF.call (HOX.out _ (hF.on HB.out _)))))
            refine wpQuiet_nil ?_
            rfl
          intro w2 hw2
          simp only [Pl.selN]
          have HB2 := Bas.hid (HB.out.trans (hw2.mono HB.out.size))
          have k6 := (hw2.block _ l5).trans k5
          clear hw2 c0 c1 d0 d1 HB k5
          go_wp2_with (fail)
          go_roundw
          case rel => exact ⟨i + 1, b, by omega, rfl, by go_num, HSN.out, HB2.out, k6⟩
          case measure => simp [intOf]; omega
        | true =>
          simp only [if_true] at hsn
          go_wp2_with (fail)
          refine' Pl.region_v0 36 [] [0, 1, 2, 3, 4, 5, 6, 7, 8, 9, 10, 11, 12, 13] [] _ (by kernel_rfl) (by kernel_rfl) (by simp) (fun _ _ _ _ e h => ⟨e ▸ h.1, h.2⟩) ?_ ?_
          rotate_left
          · intro I F hI hF
            simp only [Pl.selN, List.nil_append, List.drop_succ_cons, List.drop_zero]
            have x0 := fun q => hF.cell lbr c0 q
            have x1 := fun q => hF.cell lbr c1 q
            have y0 := fun q => hF.cell l5 d0 q
            have y1 := fun q => hF.cell l5 d1 q
            repeat (go_big_quiet_step (first | (go_at_call 21; with_reducible exact hF.call (HRT.out _)) | (go_at_call 13; with_reducible exact hF.call (HOX.out _ (hF.on HB.out _)))))
            refine wpQuiet_nil ?_
            rfl
          intro w2 hw2
          simp only [Pl.selN]
          have HB2 := Bas.hid (HB.out.trans (hw2.mono HB.out.size))
          have k6 := (hw2.block _ l5).trans k5
          have m0 := (hw2.cell (p := ⟨B, Of + i * 2, none⟩) lbr).trans c0
          have m1 := (hw2.cell (p := ⟨B, Of + i * 2 + 1, none⟩) lbr).trans c1
          have l6 := heap_lt k6
          have lbr2 : B < w2.heap.size := Nat.lt_of_lt_of_le lbr hw2.size
          have d2 := cell_of_heap (i := 0) (v := .int .i64 t) k6 rfl
          have d3 := cell_of_heap (i := 1) (v := .int .i64 u) k6 rfl
          have hdec : decide ((x, y) = (t, u)) = (decide (x = t) && decide (y = u)) := by
            rw [Bool.eq_iff_iff]; simp
          rw [hdec] at hsn
          have HSN := Bas.hid hsn
          clear hsn hdec hw2 c0 c1 d0 d1 HB k5
          go_wp2_with (fail)
          refine' Pl.region_v0 36 [] [0, 1, 2, 3, 4] [5, 6] _ (by kernel_rfl) (by kernel_rfl) (by simp) (fun _ _ _ _ e h => ⟨e ▸ h.1, h.2⟩) ?_ ?_
          rotate_left
          · intro I F hI hF
            simp only [Pl.selN, List.nil_append, List.drop_succ_cons, List.drop_zero]
            have x0 := fun q => hF.cell lbr2 m0 q
            have x1 := fun q => hF.cell lbr2 m1 q
            have y0 := fun q => hF.cell l6 d2 q
            have y1 := fun q => hF.cell l6 d3 q
            repeat (go_big_quiet_step (fail))
            refine wpQuiet_nil ?_
            rfl
          intro w3 hw3
          simp only [Pl.selN, List.drop_succ_cons, List.drop_zero]
          have HB3 := Bas.hid (HB2.out.trans (hw3.mono HB2.out.size))
          have k7 := (hw3.block _ l6).trans k6
          clear hw3 m0 m1 d2 d3 HB2 k6
          by_cases hxt : x = t
          · subst hxt
            by_cases hyu : y = u
            · subst hyu
              simp only [decide_true, Bool.and_self] at HSN
              go_wp2_with (fail)
              go_roundw
              case rel => exact ⟨i + 1, true, by omega, rfl, by go_num, HSN.out, HB3.out, k7⟩
              case measure => simp [intOf]; omega
            · have f1 : decide (y = u) = false := decide_eq_false hyu
              simp only [f1, decide_true, Bool.and_false] at HSN
              go_wp2_with (fail)
              go_roundw
              case rel => exact ⟨i + 1, false, by omega, rfl, by go_num, HSN.out, HB3.out, k7⟩
              case measure => simp [intOf]; omega
          · have f1 : decide (x = t) = false := decide_eq_false hxt
            simp only [f1, Bool.false_and] at HSN
            go_wp2_with (fail)
            go_roundw
            case rel => exact ⟨i + 1, false, by omega, rfl, by go_num, HSN.out, HB3.out, k7⟩
            case measure => simp [intOf]; omega
    · have hin2 : i = len := by omega
      subst hin2
      have hlt : l.take i = l := List.take_of_length_le (by rw [HN.out]; exact Nat.le_refl _)
      rw [hlt] at HBV
      clear hlt
      go_wp2_with (fail)
      go_ret
      exact ⟨by rw [← HRE.out, HBV.out]; first | done | rfl, HB.out⟩
end Pk
end Go.Proofs.Ytdmhenlfhbigbaa
