/- The walk of the law WidthLast. -/
import Derived.Test.YtfocjagkhoonmaaWidthL
namespace Go.Proofs.Ytfocjagkhoonmaa
open Go.RowKit
namespace Fo
open Vw Wr

/-- A slice of 16-bit numbers that came in. -/
theorem row_u16 {w : World} {a : Option Addr} {len cap : Nat} {zs : List Int} (h : Bas.IsRow .u16 w a len cap zs) :
    ∃ A : List Int, A.length = len ∧ Row.Leads w (.slice a len cap) len (A.flatMap u16C) ∧ ∀ x ∈ A, 0 ≤ x ∧ x ≤ 65535 := by
  have hfl : ∀ l : List Int, l.flatMap u16C = l.map (Value.int .u16) := fun l => by
    induction l with
    | nil => rfl
    | cons x l ih => simp [u16C, ih]
  rcases h with ⟨rfl, rfl, rfl, rfl⟩ | ⟨x, rfl, hl, hm, hz, hcell, hwz⟩
  · exact ⟨[], rfl, .inl ⟨rfl, rfl, rfl⟩, fun x hx => by cases hx⟩
  · refine ⟨zs.take len, by rw [List.length_take]; omega, .inr ⟨x, cap, rfl, fun j u hu => ?_⟩, fun y hy => Bas.wf_u16 (hwz y (List.mem_of_mem_take hy))⟩
    rw [hfl, List.getElem?_map] at hu
    have hj : j < len := by
      by_cases hj : j < len
      · exact hj
      · rw [List.getElem?_take_eq_none (by omega)] at hu; cases hu
    rw [List.getElem?_take_of_lt hj, List.getElem?_eq_getElem (by omega)] at hu
    cases hu
    rw [hcell j (by omega), List.getD_eq_getElem?_getD, List.getElem?_eq_getElem (by omega)]
    rfl

set_option maxRecDepth 100000 in
set_option maxHeartbeats 8000000 in
theorem widthLast_walk (a : Option Addr) (len cap : Nat) (zs : List Int) (more : Int) (w : World) (hr : Bas.IsRow .u16 w a len cap zs) (hm : (Lit.int .u8 more).wf = true) :
    Calls Try.prog 10 #[.slice a len cap, .int .u8 more] w fun e w' => e = .returned (.bool true) ∧ Below w.heap.size w w' := by
  obtain ⟨A, hA, hL, hR⟩ := row_u16 hr
  obtain ⟨m0, m1⟩ := Bas.wf_u8 hm
  obtain ⟨mr, rfl⟩ := Int.eq_ofNat_of_zero_le m0
  have hmr : mr ≤ 255 := by omega
  have HLD := Bas.hid hL
  have HA := Bas.hid hA
  have HR := Bas.hid hR
  have HB0 := Bas.hid (Below.refl w.heap.size w)
  clear hr hm hL hR hA zs
  go_enter Try.func10, Try.ntmps10
  go_wp2_with (fail)
  refine (wspeaks_any w).mono ?_
  rintro e w1 ⟨rfl, hb1⟩
  have HB1 := Bas.hid hb1
  clear hb1 HB0
  by_cases h0 : len = 0
  · have e1 : decide ((len : Int) = 0) = true := by simp; omega
    have e2 : ((len : Int) == 0) = true := by simp; omega
    have HLN := Bas.hid h0
    clear h0
    go_wp2_with (fail)
    go_ret
    exact ⟨rfl, HB1.out⟩
  have e1 : ((len : Int) == 0) = false := by simp; omega
  have HL1 : Hid (1 ≤ len) := by unfold Hid; omega
  by_cases h2 : 200 < len
  · have e2 : decide ((len : Int) > 200) = true := by simp; omega
    have e3 : decide (200 < (len : Int)) = true := by simp; omega
    clear h0 h2
    go_wp2_with (fail)
    go_ret
    exact ⟨rfl, HB1.out⟩
  have e2 : decide ((len : Int) > 200) = false := by simp; omega
  have e3 : decide (200 < (len : Int)) = false := by simp; omega
  have hl200 : len ≤ 200 := by omega
  have HFT := Bas.hid (font_any (.slice a len cap) A mr w1 (by rw [HA.out]; exact Row.leads_below HLD.out HB1.out) HR.out (by rw [HA.out]; exact hl200) hmr)
  clear h0 h2
  go_wp2_with (fail)
  refine HFT.out.mono ?_
  rintro e w2 ⟨G, cp, bs, rfl, h1, h2, hv, hF, -, hb2⟩
  have HRD := Bas.hid (wread_made _ cp bs A mr w2 h1 h2 hv hF (by rw [HA.out]; exact HL1.out) (by rw [HA.out]; exact hl200) hmr)
  have HB2 := Bas.hid (HB1.out.trans (hb2.mono HB1.out.size))
  clear hb2 hv hF HFT h1 h2 HB1
  go_wp2_with (fail)
  refine HRD.out.mono ?_
  rintro e w3 ⟨hb3, p, rfl, hw⟩
  have HB3 := Bas.hid (HB2.out.trans (hb3.mono HB2.out.size))
  have HW3 := Bas.hid hw
  clear hb3 HRD hw HB2
  obtain ⟨d, hd⟩ : ∃ d, hmtxL A mr = d := ⟨_, rfl⟩
  obtain ⟨S, hS⟩ : ∃ S, w2.heap.size = S := ⟨_, rfl⟩
  rw [hd, HA.out, hS] at HW3
  have HDL : Hid (d.length = 4 * len + 2 * ((len + mr) - len)) := by unfold Hid; rw [← hd, hmtxL_len, HA.out]; omega
  have HADV : Hid (∀ i : Nat, i < len + mr → advL (len + mr) len d (i : Int) = A.getD (min i (len - 1)) 0) := fun i hi => by
    have := adv_made A mr i HR.out (by rw [HA.out]; exact HL1.out) (by rw [HA.out]; exact hi)
    rw [HA.out, hd] at this
    exact this
  clear hd hS
  go_wp2_with (fail)
  go_loopw [37] (fun vi wr => ∃ i : Nat, i ≤ len + mr ∧ vi = .int .i64 i ∧ IsW wr S p (len + mr) len d ∧ Below w.heap.size w wr) (fun vi _ => (len + mr) - (intOf vi).toNat)
  case atStart => exact ⟨0, Nat.zero_le _, rfl, HW3.out, HB3.out⟩
  case round =>
    obtain ⟨i, hi, rfl, hw, hb⟩ := hrel
    have HW := Bas.hid hw
    have HB := Bas.hid hb
    clear hw hb HW3 HB3
    by_cases hin : i < len + mr
    · have f1 : decide ((i : Int) < (len : Int) + (mr : Int)) = true := by simp; omega
      obtain ⟨q, hq⟩ : ∃ q, min i (len - 1) = q := ⟨_, rfl⟩
      have hql : q < len := by have := HL1.out; omega
      obtain ⟨x, hx⟩ : ∃ x, A[q]? = some x := ⟨_, List.getElem?_eq_getElem (by rw [HA.out]; exact hql)⟩
      obtain ⟨B, Of, cp0, hv0, hcl⟩ := Row.leads_elem (m := 1) (fun _ => rfl) HLD.out hx (by omega)
      cases hv0
      have h0 := hcl 0 _ rfl
      simp only [Nat.mul_one, Nat.add_zero] at h0
      have lB := World.block_lt_of_cell? _ _ h0
      have c0 := (HB.out.cell (p := ⟨B, Of + q, none⟩) lB).trans h0
      have lB2 : B < wr.heap.size := Nat.lt_of_lt_of_le lB HB.out.size
      have HAV := Bas.hid (fun w' hw => (wadv_any w' S p (len + mr) len d (i : Int) hw HDL.out HL1.out (by omega) (by omega)))
      have hav : advL (len + mr) len d (i : Int) = x := by
        rw [HADV.out i hin, hq, List.getD_eq_getElem?_getD, hx]; rfl
      rw [hav] at HAV
      have hxb := HR.out x (List.mem_of_getElem? hx)
      obtain ⟨x0, x1⟩ := hxb
      have HMIN := Bas.hid (fun (ts : Array TypeId) (t : TypeId) (w : World) => show (Builtin.min_ ts t #[.int .i64 (i : Int), .int .i64 ((len : Int) - 1)]).run Try.prog w = .ok (.int .i64 (q : Nat)) w by
        rw [run_min_int2]
        congr 2
        split <;> omega)
      have HL1' := HL1.out
      have hmin := HMIN.out
      clear hav hq hx hcl h0
      go_wp2_with (fail)
      refine' Pl.region_v1 67 [] [0, 1, 3, 4, 5, 6, 7, 8, 9, 10, 11] 2 42 [12] _ (fun v u' => v = .int .i64 x) (by kernel_rfl) (by kernel_rfl) (by simp) (fun _ _ _ _ e h => ⟨e ▸ h.1, h.2⟩) ?_ ?_ ?_ ?_
      rotate_left
      · intro I F hI hF
        simp only [Pl.selN, List.nil_append, List.drop_succ_cons, List.drop_zero]
        have y0 := fun q => hF.cell lB2 c0 q
        repeat (go_big_quiet_step (fail))
        refine wpQuiet_nil ?_
        rfl
      · exact fun _ _ _ h _ _ => h
      · simp only [Pl.selN, List.drop_succ_cons, List.drop_zero, List.mem_singleton, forall_eq]
        intro u' hu
        go_simp
        simp only [Pl.valsAt]
        refine (HAV.out u' (isW_below HW.out hu)).mono ?_
        rintro e w'' ⟨rfl, hb⟩
        exact .inl ⟨_, rfl, hb, rfl⟩
      intro v u2 hu hv
      subst hv
      simp only [Pl.selN, List.drop_succ_cons, List.drop_zero, Act.put, List.setIfInBounds_toArray, List.set_cons_zero, List.set_cons_succ]
      have HBU := Bas.hid (Bas.on HB.out hu)
      have HWU := Bas.hid (isW_below HW.out hu)
      clear hu HB HW c0
      go_wp2_with (fail)
      go_roundw
      case rel => exact ⟨i + 1, by omega, by go_num, HWU.out, HBU.out⟩
      case measure => simp [intOf]; omega
    · have hin2 : i = len + mr := by omega
      subst hin2
      have f1 : decide (((len + mr : Nat) : Int) < (len : Int) + (mr : Int)) = false := by simp
      go_wp2_with (fail)
      refine (wadv_any wr S p (len + mr) len d (-1) HW.out HDL.out HL1.out (by omega) (by omega)).mono ?_
      rintro e w4 ⟨rfl, hb4⟩
      rw [adv_out _ _ _ _ (.inl (by omega))]
      have HW4 := Bas.hid (isW_below HW.out hb4)
      have HB4 := Bas.hid (HB.out.trans (hb4.mono HB.out.size))
      clear hb4 HW HB
      go_wp2_with (fail)
      refine (wadv_any w4 S p (len + mr) len d ((len : Int) + (mr : Int)) HW4.out HDL.out HL1.out (by omega) (by omega)).mono ?_
      rintro e w5 ⟨rfl, hb5⟩
      rw [adv_out _ _ _ _ (.inr (by omega))]
      have HB5 := Bas.hid (HB4.out.trans (hb5.mono HB4.out.size))
      clear hb5 HW4 HB4
      go_wp2_with (fail)
      go_ret
      exact ⟨rfl, HB5.out⟩
end Fo
end Go.Proofs.Ytfocjagkhoonmaa
