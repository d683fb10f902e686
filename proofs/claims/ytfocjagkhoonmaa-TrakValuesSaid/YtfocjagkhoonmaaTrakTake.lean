/- Layer 27 (trak): Take. -/
import Derived.Test.YtfocjagkhoonmaaTrakNo
import Derived.Test.YtfocjagkhoonmaaPlanG
namespace Go.Proofs.Ytfocjagkhoonmaa
open Go.RowKit
namespace Tk
open Vw

/-- Worlds that have grown from w. -/
theorem fam_b (w : World) : ∃ (I : Type) (F : I → World) (i0 : I), w.drew = F i0 ∧ Pl.Fam w F ∧ ∀ w', Below w.heap.size w w' → ∃ j, w' = F j :=
  ⟨{ u : World // Below w.heap.size w u }, fun i => i.1, ⟨w.drew, (Below.refl _ _).drew⟩, rfl, ⟨fun i u h => ⟨⟨u, i.2.trans (h.mono i.2.size)⟩, rfl⟩, fun i => i.2⟩, fun w' h => ⟨⟨w', h⟩, rfl⟩⟩

/-- The two tracks of a table. -/
def tableAt (bs : List Int) : Option (TrackD × TrackD) :=
  if 12 ≤ bs.length ∧ be bs 0 4 = 65536 ∧ be bs 4 2 = 0 then (dataAt bs (be bs 6 2).toNat).bind fun t1 => (dataAt bs (be bs 8 2).toNat).map fun t2 => (t1, t2) else none

def TabOk (w : World) (base g : Nat) (t1 t2 : TrackD) : Prop :=
  base ≤ g ∧ ∃ a1 v1 a2 v2, w.heap[g]? = some (.cells #[a1, v1, a2, v2] 54 (0, 0)) ∧ TrkOwn w base a1 v1 t1 ∧ TrkOwn w base a2 v2 t2

def TTakeP (w : World) (bs : List Int) (e : Ending) (w' : World) : Prop :=
  Below w.heap.size w w' ∧ match tableAt bs with
    | none => e = .panicked short
    | some t => ∃ g, e = .returned (.pointer (some ⟨g, 0, none⟩)) ∧ TabOk w' w.heap.size g t.1 t.2

theorem trkOwn_below {w w' : World} {base : Nat} {v1 v2 : Value} {t : TrackD} (h : TrkOwn w base v1 v2 t) (hb : Below w.heap.size w w') : TrkOwn w' base v1 v2 t := ⟨Row.owned_below h.1 hb, Row.owned_below h.2 hb⟩
theorem trkOwn_base {w : World} {base base' : Nat} {v1 v2 : Value} {t : TrackD} (h : TrkOwn w base v1 v2 t) (hb : base' ≤ base) : TrkOwn w base' v1 v2 t := ⟨Row.owned_base h.1 hb, Row.owned_base h.2 hb⟩

set_option maxRecDepth 100000 in
set_option maxHeartbeats 4000000 in
theorem take_no (a : Option Addr) (len cap : Nat) (bs : List Int) (w : World) (hl : len ≤ cap) (hc : cap ≤ maxLen) (hv : VB w a bs) (hbl : bs.length = len) (hno : ¬ (12 ≤ len ∧ be bs 0 4 = 65536 ∧ be bs 4 2 = 0)) :
    Calls Try.prog 23 #[.agg #[.slice a len cap]] w (TTakeP w bs) := by
  have HNO : Hid (tableAt bs = none) := by
    unfold Hid tableAt
    rw [hbl, if_neg hno]
  by_cases hA : 4 ≤ len
  · have U1 := fun (w' : World) (hb : Below w.heap.size w w') => u32_ok a len cap bs 0 w' hl hc (hv.below hb) hbl (by omega) (by omega)
    simp only [show Int.toNat 0 = 0 from rfl] at U1
    have HU1 := Bas.hid U1
    clear U1
    by_cases hk : be bs 0 4 = 65536
    · rw [hk] at HU1
      by_cases hB : 6 ≤ len
      · have U2 := fun (w' : World) (hb : Below w.heap.size w w') => u16_ok a len cap bs 4 w' hl hc (hv.below hb) hbl (by omega) (by omega)
        simp only [show Int.toNat 4 = 4 from rfl] at U2
        have HU2 := Bas.hid U2
        clear U2
        by_cases hn : be bs 4 2 = 0
        · rw [hn] at HU2
          have hcut : ¬ (0 ≤ (0 : Int) ∧ 0 ≤ (12 : Int) ∧ (0 : Int) + 12 ≤ len) := fun h => hno ⟨by have := h.2.2; omega, hk, hn⟩
          clear hk hn hno hv
          go_enter Try.func23, Try.ntmps23
          go_wp2_with (fail)
          have k1 := Bas.heap_new w (.cells #[.slice a len cap] 58)
          have HB1 := Bas.hid ((Below.refl w.heap.size w).alloc (Nat.le_refl _) (.cells #[.slice a len cap] 58))
          generalize w.alloc (.cells #[.slice a len cap] 58) = W1 at *
          refine (HU1.out _ HB1.out).mono ?_
          rintro e w2 ⟨rfl, hb2⟩
          have k2 := (hb2.block _ (heap_lt k1)).trans k1
          have HB2 := Bas.hid (HB1.out.trans (hb2.mono HB1.out.size))
          have c2 := cell_of_heap (i := 0) (v := .slice a len cap) k2 rfl
          clear hb2 k1 HB1
          clear HU1
          go_wp2_with (go_at_call 45; refine (need_yesb _ _ (by first | rfl | (simp; done) | (simp; omega))).mono ?_; rintro e w' ⟨rfl, rfl⟩)
          refine (HU2.out _ HB2.out).mono ?_
          rintro e w3 ⟨rfl, hb3⟩
          have k3 := (hb3.block _ (heap_lt k2)).trans k2
          have HB3 := Bas.hid (HB2.out.trans (hb3.mono HB2.out.size))
          have c3 := cell_of_heap (i := 0) (v := .slice a len cap) k3 rfl
          clear hb3 k2 HB2
          clear HU2
          go_wp2_with (go_at_call 45; refine (need_yesb _ _ (by first | rfl | (simp; done) | (simp; omega))).mono ?_; rintro e w' ⟨rfl, rfl⟩)
          refine (cut_no a len cap 0 12 _ hl hc hcut).mono ?_
          rintro e w9 ⟨rfl, hb9⟩
          have POST := Bas.hid (HB3.out.trans (hb9.mono HB3.out.size))
          clear hb9 HB3
          go_wp2_with (fail)
          exact ⟨rfl, POST.out, by rw [HNO.out]⟩
        · have hkb : (be bs 4 2 == 0) = false := by simpa using hn
          generalize be bs 4 2 = x at *
          clear hk hn hno hv
          go_enter Try.func23, Try.ntmps23
          go_wp2_with (fail)
          have k1 := Bas.heap_new w (.cells #[.slice a len cap] 58)
          have HB1 := Bas.hid ((Below.refl w.heap.size w).alloc (Nat.le_refl _) (.cells #[.slice a len cap] 58))
          generalize w.alloc (.cells #[.slice a len cap] 58) = W1 at *
          refine (HU1.out _ HB1.out).mono ?_
          rintro e w2 ⟨rfl, hb2⟩
          have k2 := (hb2.block _ (heap_lt k1)).trans k1
          have HB2 := Bas.hid (HB1.out.trans (hb2.mono HB1.out.size))
          have c2 := cell_of_heap (i := 0) (v := .slice a len cap) k2 rfl
          clear hb2 k1 HB1
          clear HU1
          go_wp2_with (fail)
          refine (HU2.out _ HB2.out).mono ?_
          rintro e w3 ⟨rfl, hb3⟩
          have k3 := (hb3.block _ (heap_lt k2)).trans k2
          have HB3 := Bas.hid (HB2.out.trans (hb3.mono HB2.out.size))
          have c3 := cell_of_heap (i := 0) (v := .slice a len cap) k3 rfl
          clear hb3 k2 HB2
          clear HU2
          have POST := Bas.hid (HB3.out)
          clear HB3
          go_wp2_with (go_at_call 45; refine (need_nob _ _ (by first | rfl | (simp; done) | (simp; omega))).mono ?_; rintro e w' ⟨rfl, rfl⟩)
          exact ⟨rfl, POST.out, by rw [HNO.out]⟩
      · have hu4 : ¬ (0 ≤ (4 : Int) ∧ (4 : Int) + 2 ≤ len) := by omega
        clear hk hno hv
        go_enter Try.func23, Try.ntmps23
        go_wp2_with (fail)
        have k1 := Bas.heap_new w (.cells #[.slice a len cap] 58)
        have HB1 := Bas.hid ((Below.refl w.heap.size w).alloc (Nat.le_refl _) (.cells #[.slice a len cap] 58))
        generalize w.alloc (.cells #[.slice a len cap] 58) = W1 at *
        refine (HU1.out _ HB1.out).mono ?_
        rintro e w2 ⟨rfl, hb2⟩
        have k2 := (hb2.block _ (heap_lt k1)).trans k1
        have HB2 := Bas.hid (HB1.out.trans (hb2.mono HB1.out.size))
        have c2 := cell_of_heap (i := 0) (v := .slice a len cap) k2 rfl
        clear hb2 k1 HB1
        clear HU1
        go_wp2_with (fail)
        refine (u16_no a len cap 4 _ hl hc hu4).mono ?_
        rintro e w9 ⟨rfl, hb9⟩
        have POST := Bas.hid (HB2.out.trans (hb9.mono HB2.out.size))
        clear hb9 HB2
        go_wp2_with (fail)
        exact ⟨rfl, POST.out, by rw [HNO.out]⟩
    · have hkb : (be bs 0 4 == 65536) = false := by simpa using hk
      generalize be bs 0 4 = x at *
      clear hk hno hv
      go_enter Try.func23, Try.ntmps23
      go_wp2_with (fail)
      have k1 := Bas.heap_new w (.cells #[.slice a len cap] 58)
      have HB1 := Bas.hid ((Below.refl w.heap.size w).alloc (Nat.le_refl _) (.cells #[.slice a len cap] 58))
      generalize w.alloc (.cells #[.slice a len cap] 58) = W1 at *
      refine (HU1.out _ HB1.out).mono ?_
      rintro e w2 ⟨rfl, hb2⟩
      have k2 := (hb2.block _ (heap_lt k1)).trans k1
      have HB2 := Bas.hid (HB1.out.trans (hb2.mono HB1.out.size))
      have c2 := cell_of_heap (i := 0) (v := .slice a len cap) k2 rfl
      clear hb2 k1 HB1
      clear HU1
      have POST := Bas.hid (HB2.out)
      clear HB2
      go_wp2_with (go_at_call 45; refine (need_nob _ _ (by first | rfl | (simp; done) | (simp; omega))).mono ?_; rintro e w' ⟨rfl, rfl⟩)
      exact ⟨rfl, POST.out, by rw [HNO.out]⟩
  · have hu0 : ¬ (0 ≤ (0 : Int) ∧ (0 : Int) + 4 ≤ len) := by omega
    clear hno hv
    go_enter Try.func23, Try.ntmps23
    go_wp2_with (fail)
    have k1 := Bas.heap_new w (.cells #[.slice a len cap] 58)
    have HB1 := Bas.hid ((Below.refl w.heap.size w).alloc (Nat.le_refl _) (.cells #[.slice a len cap] 58))
    generalize w.alloc (.cells #[.slice a len cap] 58) = W1 at *
    refine (u32_no a len cap 0 _ hl hc hu0).mono ?_
    rintro e w9 ⟨rfl, hb9⟩
    have POST := Bas.hid (HB1.out.trans (hb9.mono HB1.out.size))
    clear hb9 HB1
    go_wp2_with (fail)
    exact ⟨rfl, POST.out, by rw [HNO.out]⟩

set_option maxRecDepth 100000 in
set_option maxHeartbeats 4000000 in
theorem take_main (a : Option Addr) (len cap : Nat) (bs : List Int) (w : World) (hl : len ≤ cap) (hc : cap ≤ maxLen) (hv : VB w a bs) (hbl : bs.length = len) (hsmall : len ≤ 1000000000) (h12 : 12 ≤ len) (hk : be bs 0 4 = 65536) (hn : be bs 4 2 = 0) :
    Calls Try.prog 23 #[.agg #[.slice a len cap]] w (TTakeP w bs) := by
  have U1 := fun (w' : World) (hb : Below w.heap.size w w') => u32_ok a len cap bs 0 w' hl hc (hv.below hb) hbl (by omega) (by omega)
  simp only [show Int.toNat 0 = 0 from rfl] at U1
  have HU1 := Bas.hid U1
  clear U1
  have U2 := fun (w' : World) (hb : Below w.heap.size w w') => u16_ok a len cap bs 4 w' hl hc (hv.below hb) hbl (by omega) (by omega)
  simp only [show Int.toNat 4 = 4 from rfl] at U2
  have HU2 := Bas.hid U2
  clear U2
  have U6 := fun (w' : World) (hb : Below w.heap.size w w') => u16_ok a len cap bs 6 w' hl hc (hv.below hb) hbl (by omega) (by omega)
  have U8 := fun (w' : World) (hb : Below w.heap.size w w') => u16_ok a len cap bs 8 w' hl hc (hv.below hb) hbl (by omega) (by omega)
  simp only [show Int.toNat 6 = 6 from rfl, show Int.toNat 8 = 8 from rfl] at U6 U8
  have h6b := be2_bd bs hv.byte 6 (by omega)
  have h8b := be2_bd bs hv.byte 8 (by omega)
  have HTA : Hid (tableAt bs = (dataAt bs (be bs 6 2).toNat).bind fun t1 => (dataAt bs (be bs 8 2).toNat).map fun t2 => (t1, t2)) := by
    unfold Hid tableAt
    rw [hbl, if_pos ⟨h12, hk, hn⟩]
  obtain ⟨x6, h6⟩ : ∃ n : Nat, be bs 6 2 = n := ⟨(be bs 6 2).toNat, by omega⟩
  obtain ⟨x8, h8⟩ : ∃ n : Nat, be bs 8 2 = n := ⟨(be bs 8 2).toNat, by omega⟩
  rw [h6, h8] at HTA
  simp only [Int.toNat_natCast] at HTA
  rw [h6] at U6 h6b
  rw [h8] at U8 h8b
  rw [hk] at HU1
  rw [hn] at HU2
  have D6 := fun (w' : World) (hb : Below w.heap.size w w') => data_any a len cap bs x6 w' hl hc (hv.below hb) hbl hsmall (by omega)
  have D8 := fun (w' : World) (hb : Below w.heap.size w w') => data_any a len cap bs x8 w' hl hc (hv.below hb) hbl hsmall (by omega)
  have HU6 := Bas.hid U6
  have HU8 := Bas.hid U8
  have HD6 := Bas.hid D6
  have HD8 := Bas.hid D8
  clear U6 U8 h6 h8 h6b h8b hk hn D6 D8 hv
  go_enter Try.func23, Try.ntmps23
  go_wp2_with (fail)
  have k1 := Bas.heap_new w (.cells #[.slice a len cap] 58)
  have HB1 := Bas.hid ((Below.refl w.heap.size w).alloc (Nat.le_refl _) (.cells #[.slice a len cap] 58))
  generalize w.alloc (.cells #[.slice a len cap] 58) = W1 at *
  refine (HU1.out _ HB1.out).mono ?_
  rintro e w2 ⟨rfl, hb2⟩
  have k2 := (hb2.block _ (heap_lt k1)).trans k1
  have HB2 := Bas.hid (HB1.out.trans (hb2.mono HB1.out.size))
  have c2 := cell_of_heap (i := 0) (v := .slice a len cap) k2 rfl
  clear hb2 k1 HB1
  clear HU1
  go_wp2_with (go_at_call 45; refine (need_yesb _ _ (by first | rfl | (simp; done) | (simp; omega))).mono ?_; rintro e w' ⟨rfl, rfl⟩)
  refine (HU2.out _ HB2.out).mono ?_
  rintro e w3 ⟨rfl, hb3⟩
  have k3 := (hb3.block _ (heap_lt k2)).trans k2
  have HB3 := Bas.hid (HB2.out.trans (hb3.mono HB2.out.size))
  have c3 := cell_of_heap (i := 0) (v := .slice a len cap) k3 rfl
  clear hb3 k2 HB2
  clear HU2
  go_wp2_with (go_at_call 45; refine (need_yesb _ _ (by first | rfl | (simp; done) | (simp; omega))).mono ?_; rintro e w' ⟨rfl, rfl⟩)
  refine (cut_ok a len cap 0 12 _ hl hc (by decide) (by decide) (by omega)).mono ?_
  rintro e w4 ⟨rfl, hb4⟩
  have k4 := (hb4.block _ (heap_lt k3)).trans k3
  have HB4 := Bas.hid (HB3.out.trans (hb4.mono HB3.out.size))
  clear hb4 k3 HB3 c3
  go_wp2_with (fail)
  obtain ⟨BI, BF, Bi, BF0, hF, BFw⟩ := fam_b w4
  have BhI : Nonempty BI := ⟨Bi⟩
  have BFH := Bas.hid BF0
  have BFW := Bas.hid BFw
  clear BF0 BFw
  refine Pl.region_plan0 Bi [(true, 0), (true, 1), (true, 4), (true, 5), (false, 2), (false, 3), (false, 6), (false, 7), (false, 8), (false, 9), (false, 10)] [7, 8, 9, 10] (by kernel_rfl) (by kernel_rfl) (fun _ _ _ _ e h => ⟨e ▸ h.1, h.2⟩) BFH.out ?_
  refine Pl.head_sel0 [(true, 0), (true, 1), (true, 4), (true, 5)] (by kernel_rfl) (by kernel_rfl) ?_
  simp only [Pl.sel, List.drop_succ_cons, List.drop_zero]
  have x1 := fun i => hF.cell (heap_lt k4) (cell_of_heap (i := 0) (v := .slice a len cap) k4 rfl) i
  repeat (go_big_quiet_step (fail))
  refine wpQuiet_nil ?_
  rw [← BFH.out]
  have HBC := Bas.hid HB4.out.drew
  have hbc := (Below.refl w4.heap.size w4).drew
  clear BFH x1 HB4
  refine Pl.one_sel (by kernel_rfl) ?_
  intro Q' hQ' hP'
  simp only [Pl.sel, List.drop_succ_cons, List.drop_zero]
  go_wp2_with (fail)
  refine (HU6.out _ HBC.out).mono ?_
  rintro e wd ⟨rfl, hbd⟩
  have hgd := hbc.trans (hbd.mono hbc.size)
  have HBD := Bas.hid (HBC.out.trans (hbd.mono HBC.out.size))
  clear hbc hbd HBC HU6
  go_wp2_with (fail)
  refine hQ' _ _ (fun _ _ => BFW.out _ hgd) ?_
  clear hQ' hP' Q'
  refine Pl.one_sel (by kernel_rfl) ?_
  intro Q' hQ' hP'
  simp only [Pl.sel, List.drop_succ_cons, List.drop_zero]
  go_wp2_with (fail)
  refine (HD6.out _ HBD.out).mono ?_
  rintro e w5 ⟨hb5, he⟩
  have HB5 := Bas.hid (HBD.out.trans (hb5.mono HBD.out.size))
  cases hd6 : dataAt bs x6 with
  | none =>
    rw [hd6] at he
    dsimp only at he
    subst he
    have HNO : Hid (tableAt bs = none) := by unfold Hid; rw [HTA.out, hd6]; rfl
    go_wp2_with (fail)
    exact ⟨rfl, HB5.out, by rw [HNO.out]⟩
  | some t1 =>
    rw [hd6] at he
    dsimp only at he
    obtain ⟨a1, v1, rfl, ho1⟩ := he
    have hs4 := HBD.out.size
    have HT1 := Bas.hid (trkOwn_base ho1 hs4)
    have HTB : Hid (tableAt bs = (dataAt bs x8).map fun t2 => (t1, t2)) := by unfold Hid; rw [HTA.out, hd6]; rfl
    have hg5 := hgd.trans (hb5.mono hgd.size)
    clear ho1 hb5 HTA hd6 hs4 hgd
    go_wp2_with (fail)
    refine hQ' _ _ (fun _ _ => BFW.out _ hg5) ?_
    clear hQ' hP' Q'
    refine Pl.one_sel (by kernel_rfl) ?_
    intro Q' hQ' hP'
    simp only [Pl.sel, List.drop_succ_cons, List.drop_zero]
    go_wp2_with (fail)
    refine (HU8.out _ HB5.out).mono ?_
    rintro e w6 ⟨rfl, hb6⟩
    have HB6 := Bas.hid (HB5.out.trans (hb6.mono HB5.out.size))
    have HT2 := Bas.hid (trkOwn_below HT1.out hb6)
    have hg6 := hg5.trans (hb6.mono hg5.size)
    clear hb6 HT1 HB5 hg5
    go_wp2_with (fail)
    refine hQ' _ _ (fun _ _ => BFW.out _ hg6) ?_
    clear hQ' hP' Q' hg6 BFW
    refine Pl.tail_sel [(false, 7), (false, 8), (false, 9), (false, 10)] (by kernel_rfl) (by kernel_rfl) ?_
    simp only [Pl.sel, List.drop_succ_cons, List.drop_zero]
    go_wp2_with (fail)
    refine (HD8.out _ HB6.out).mono ?_
    rintro e w7 ⟨hb7, he⟩
    have HB7 := Bas.hid (HB6.out.trans (hb7.mono HB6.out.size))
    cases hd8 : dataAt bs x8 with
    | none =>
      rw [hd8] at he
      dsimp only at he
      subst he
      have HNO : Hid (tableAt bs = none) := by unfold Hid; rw [HTB.out, hd8]; rfl
      clear HTB hd8
      go_wp2_with (fail)
      exact ⟨rfl, HB7.out, by rw [HNO.out]⟩
    | some t2 =>
      rw [hd8] at he
      dsimp only at he
      obtain ⟨a2, v2, rfl, ho2⟩ := he
      have hs6 := HB6.out.size
      have HT3 := Bas.hid (trkOwn_below HT2.out hb7)
      have HT4 := Bas.hid (trkOwn_base ho2 hs6)
      have HYES : Hid (tableAt bs = some (t1, t2)) := by unfold Hid; rw [HTB.out, hd8]; rfl
      have hs7 := HB7.out.size
      clear HTB hd8 ho2 hb7 HT2 HB6 hs6
      go_wp2_with (fail)
      have hbx := (Below.refl w7.heap.size w7).alloc (Nat.le_refl _) (.cells #[a1, v1, a2, v2] 54)
      refine bodyPost_ret (v := .pointer (some ⟨w7.heap.size, 0, none⟩)) (by simp [results, Try.results23, go_sem]) rfl ⟨HB7.out.alloc hs7 _, ?_⟩
      rw [HYES.out]
      exact ⟨_, rfl, hs7, a1, v1, a2, v2, Bas.heap_new _ _, trkOwn_below HT3.out hbx, trkOwn_below HT4.out hbx⟩

theorem take_any (a : Option Addr) (len cap : Nat) (bs : List Int) (w : World) (hl : len ≤ cap) (hc : cap ≤ maxLen) (hv : VB w a bs) (hbl : bs.length = len) (hsmall : len ≤ 1000000000) :
    Calls Try.prog 23 #[.agg #[.slice a len cap]] w (TTakeP w bs) := by
  by_cases h : 12 ≤ len ∧ be bs 0 4 = 65536 ∧ be bs 4 2 = 0
  · exact take_main a len cap bs w hl hc hv hbl hsmall h.1 h.2.1 h.2.2
  · exact take_no a len cap bs w hl hc hv hbl h
end Tk
end Go.Proofs.Ytfocjagkhoonmaa
