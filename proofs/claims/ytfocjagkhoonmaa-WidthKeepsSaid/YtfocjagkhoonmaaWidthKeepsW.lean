/- The walk of the law WidthKeeps. -/
import Derived.Test.YtfocjagkhoonmaaWidthLastW
namespace Go.Proofs.Ytfocjagkhoonmaa
open Go.RowKit
namespace Fo
open Vw Wr

theorem isW_set {w : World} {base p g m : Nat} {d : List Int} (h : IsW w base p g m d) {G : Nat} (hG : G < base) (i : Nat) (v : Value) : IsW (w.setCell ⟨G, i, none⟩ v) base p g m d := by
  obtain ⟨h0, gb, cb, h1, h2, h3, h4, h5, h6⟩ := h
  exact ⟨h0, gb, cb, h1, h2, (Below.heap_setCell _ _ _ _ (by show p ≠ G; omega)).trans h3, h4, h5, vb_grown h6 (Bas.gset (Bas.grefl w (some G)) i v) (by omega)⟩

set_option maxRecDepth 100000 in
set_option maxHeartbeats 8000000 in
theorem widthKeeps_walk (a : Option Addr) (len cap : Nat) (zs : List Int) (spoil : Int) (w : World) (hr : Bas.IsRow .u16 w a len cap zs) (hm : (Lit.int .u8 spoil).wf = true) :
    Calls Try.prog 11 #[.slice a len cap, .int .u8 spoil] w fun e w' => e = .returned (.bool true) ∧ Below w.heap.size w w' := by
  obtain ⟨A, hA, hL, hR⟩ := row_u16 hr
  obtain ⟨m0, m1⟩ := Bas.wf_u8 hm
  have HLD := Bas.hid hL
  have HA := Bas.hid hA
  have HR := Bas.hid hR
  have HB0 := Bas.hid (Below.refl w.heap.size w)
  clear hr hm hL hR hA zs
  go_enter Try.func11, Try.ntmps11
  go_wp2_with (fail)
  refine (wspeaks_any w).mono ?_
  rintro e w1 ⟨rfl, hb1⟩
  have HB1 := Bas.hid hb1
  clear hb1 HB0
  by_cases h0 : len = 0
  · have e1 : decide ((len : Int) = 0) = true := by simp; omega
    have e2 : ((len : Int) == 0) = true := by simp; omega
    have HLN := Bas.hid h0
    clear h0
    go_wp2_with (fail)
    go_ret
    exact ⟨rfl, HB1.out⟩
  have e1 : ((len : Int) == 0) = false := by simp; omega
  have HL1 : Hid (1 ≤ len) := by unfold Hid; omega
  by_cases h2 : 200 < len
  · have e2 : decide ((len : Int) > 200) = true := by simp; omega
    have e3 : decide (200 < (len : Int)) = true := by simp; omega
    clear h0 h2
    go_wp2_with (fail)
    go_ret
    exact ⟨rfl, HB1.out⟩
  have e2 : decide ((len : Int) > 200) = false := by simp; omega
  have e3 : decide (200 < (len : Int)) = false := by simp; omega
  have hl200 : len ≤ 200 := by omega
  have HFT := Bas.hid (font_any (.slice a len cap) A 2 w1 (by rw [HA.out]; exact Row.leads_below HLD.out HB1.out) HR.out (by rw [HA.out]; exact hl200) (by omega))
  clear h0 h2
  go_wp2_with (fail)
  refine HFT.out.mono ?_
  rintro e w2 ⟨G, cp, bs, rfl, h1, h2, hv, hF, hown, hb2⟩
  have HRD := Bas.hid (wread_made _ cp bs A 2 w2 h1 h2 hv hF (by rw [HA.out]; exact HL1.out) (by rw [HA.out]; exact hl200) (by omega))
  have HB2 := Bas.hid (HB1.out.trans (hb2.mono HB1.out.size))
  obtain ⟨L, hL⟩ : ∃ L, bs.length = L := ⟨_, rfl⟩
  have hLm : L ≤ 1000000 := by rw [← hL]; exact hF.few
  obtain ⟨hgl, cur, hgh, hcu⟩ : w1.heap.size ≤ G ∧ ∃ cur, w2.heap[G]? = some (.cells cur 5 (0, 0)) ∧ L ≤ cur.size := by
    obtain ⟨_, ⟨h, h'⟩ | ⟨g', cp', cur, h, hb, hh, hn, _, hc, _⟩⟩ := hown
    · cases h
    · cases h; exact ⟨hb, cur, hh, by omega⟩
  rw [hL] at HRD h1 ⊢
  have hwG : w.heap.size ≤ G := Nat.le_trans HB1.out.size hgl
  clear hb2 hv hF HFT h1 h2 HB1 hown hL hgl
  go_wp2_with (fail)
  refine HRD.out.mono ?_
  rintro e w3 ⟨hb3, p, rfl, hw⟩
  have HB3 := Bas.hid (HB2.out.trans (hb3.mono HB2.out.size))
  have HW3 := Bas.hid hw
  have hgh3 := (hb3.block _ (heap_lt hgh)).trans hgh
  have hG2 : G < w2.heap.size := heap_lt hgh
  clear hb3 HRD hw HB2 hgh
  obtain ⟨d, hd⟩ : ∃ d, hmtxL A 2 = d := ⟨_, rfl⟩
  obtain ⟨S, hS⟩ : ∃ S, w2.heap.size = S := ⟨_, rfl⟩
  rw [hd, HA.out, hS] at HW3
  have HDL : Hid (d.length = 4 * len + 2 * ((len + 2) - len)) := by unfold Hid; rw [← hd, hmtxL_len, HA.out]; omega
  have HADV : Hid (∀ i : Nat, i < len → advL (len + 2) len d (i : Int) = A.getD i 0) := fun i hi => by
    have := adv_made A 2 i HR.out (by rw [HA.out]; exact HL1.out) (by rw [HA.out]; omega)
    rw [HA.out, hd, Nat.min_eq_left (by omega)] at this
    exact this
  have HBEA : Hid (∀ i : Nat, i < len → beaL (len + 2) len d (i : Int) = i) := fun i hi => by
    have := bea_made A 2 i (by rw [HA.out]; exact hl200) (by rw [HA.out]; exact hi)
    rw [HA.out, hd] at this
    exact this
  rw [hS] at hG2
  clear hd hS
  go_wp2_with (fail)
  go_loopw [32] (fun vi wr => ∃ i : Nat, i ≤ L ∧ vi = .int .i64 i ∧ IsW wr S p (len + 2) len d ∧ Below w.heap.size w wr ∧ ∃ cur, wr.heap[G]? = some (.cells cur 5 (0, 0)) ∧ L ≤ cur.size) (fun vi _ => L - (intOf vi).toNat)
  case atStart => exact ⟨0, Nat.zero_le _, rfl, HW3.out, HB3.out, cur, hgh3, hcu⟩
  case round =>
    obtain ⟨i, hi, rfl, hw, hb, cur2, hgc2, hcu2⟩ := hrel
    have HW := Bas.hid hw
    have HB := Bas.hid hb
    clear hw hb HW3 HB3
    by_cases hil : i < L
    · have dil : decide ((i : Int) < (L : Int)) = true := by simp; omega
      have dil2 : decide (i < L) = true := by simp; omega
      obtain ⟨u, hu⟩ : ∃ u, cur2[i]? = some u := ⟨_, Array.getElem?_eq_getElem (by omega)⟩
      have cgi := cell_of_heap (i := i) (v := u) hgc2 hu
      have fgi := free_of_heap (i := i) hgc2
      clear hu hgh3
      go_wp2_with (fail)
      go_roundw
      case rel =>
        exact ⟨i + 1, by omega, by go_num, isW_set HW.out hG2 i _, HB.out.setCell (p := ⟨G, i, none⟩) hwG _, _, heap_set (i := i) hgc2 _, by simp; omega⟩
      case measure => simp [intOf]; omega
    · have hil2 : i = L := by omega
      subst hil2
      clear hgc2 hcu2 hgh3 hcu
      go_wp2_with (fail)
      obtain ⟨wo, hwo⟩ : ∃ wo : World, wo = wr := ⟨_, rfl⟩
      rw [← hwo] at HB HW
      rw [← hwo]
      clear hwo
      go_loopw [42] (fun vi wr => ∃ j : Nat, j ≤ len ∧ vi = .int .i64 j ∧ IsW wr S p (len + 2) len d ∧ Below w.heap.size w wr) (fun vi _ => len - (intOf vi).toNat)
      case atStart => exact ⟨0, Nat.zero_le _, rfl, HW.out, HB.out⟩
      case round =>
        obtain ⟨j, hj, rfl, hw, hb⟩ := hrel
        have HWJ := Bas.hid hw
        have HBJ := Bas.hid hb
        clear hw hb HW HB
        by_cases hjn : j < len
        · have f1 : decide ((j : Int) < (len : Int)) = true := by simp; omega
          have f2 : decide (j < len) = true := by simp; omega
          obtain ⟨x, hx⟩ : ∃ x, A[j]? = some x := ⟨_, List.getElem?_eq_getElem (by rw [HA.out]; exact hjn)⟩
          obtain ⟨B, Of, cp0, hv0, hcl⟩ := Row.leads_elem (m := 1) (fun _ => rfl) HLD.out hx (by omega)
          cases hv0
          have h0 := hcl 0 _ rfl
          simp only [Nat.mul_one, Nat.add_zero] at h0
          have c0 := (HBJ.out.cell (p := ⟨B, Of + j, none⟩) (World.block_lt_of_cell? _ _ h0)).trans h0
          have hav : advL (len + 2) len d (j : Int) = x := by
            rw [HADV.out j hjn, List.getD_eq_getElem?_getD, hx]; rfl
          have hbe := HBEA.out j hjn
          have HAV := Bas.hid (fun w' hw => (wadv_any w' S p (len + 2) len d (j : Int) hw HDL.out HL1.out (by omega) (by omega)))
          have HBV := Bas.hid (fun w' hw => (wbea_any w' S p (len + 2) len d (j : Int) hw HDL.out HL1.out (by omega) (by omega)))
          rw [hav] at HAV
          rw [hbe] at HBV
          obtain ⟨x0, x1⟩ := HR.out x (List.mem_of_getElem? hx)
          clear hav hbe hx hcl h0
          go_wp2_with (fail)
          refine (HAV.out wr HWJ.out).mono ?_
          rintro e w4 ⟨rfl, hb4⟩
          have HW4 := Bas.hid (isW_below HWJ.out hb4)
          have HB4 := Bas.hid (HBJ.out.trans (hb4.mono HBJ.out.size))
          clear hb4 HWJ HBJ c0 HAV
          go_wp2_with (fail)
          refine (HBV.out w4 HW4.out).mono ?_
          rintro e w5 ⟨rfl, hb5⟩
          have HW5 := Bas.hid (isW_below HW4.out hb5)
          have HB5 := Bas.hid (HB4.out.trans (hb5.mono HB4.out.size))
          clear hb5 HW4 HB4 HBV
          go_wp2_with (fail)
          go_roundw
          case rel => exact ⟨j + 1, by omega, by go_num, HW5.out, HB5.out⟩
          case measure => simp [intOf]; omega
        · have hjn2 : j = len := by omega
          subst hjn2
          go_wp2_with (fail)
          go_ret
          exact ⟨rfl, HBJ.out⟩
end Fo
end Go.Proofs.Ytfocjagkhoonmaa
