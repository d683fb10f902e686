/- Parts of a proof: texts LkSegs, LkTake, StTake, LkGet, DrD, StGet, LnNew, LnClone. -/
import Derived.Test.YtoncnjhhdlpliaaGreatMP02
import Derived.Laws.ResultCell
import Derived.Laws.Cover3
namespace Go.Proofs.YtoncnjhhdlpliaaGreat
open Go.RowKit
namespace Lk
open Vw Sk Ch
theorem pRow_keep {w w' : World} {base : Nat} {v : Value} {ps : List PartD} {vs : List Value} (h : PRow w base v ps vs) (h1 : ∀ g, v.ownBlock = some g → w'.heap[g]? = w.heap[g]?)
  (h2 : ∀ (e : TypeId) (size n : Nat) (u : Value) (xs : List Value), e ≠ 220 → w.ownsRow base e size u n xs → w'.ownsRow base e size u n xs) : PRow w' base v ps vs :=
 ⟨h.len, Row.owned_keep h.own h1, fun i p u hp hu => h2 _ _ _ _ _ (by decide) (h.vals i p u hp hu)⟩
theorem partsUp_step (f : Nat → Option PartD) (m i : Nat) (h : i < m) : partsUp f (m - i) i = (f i).bind fun p => (partsUp f (m - (i + 1)) (i + 1)).map (p :: ·) := by
 rw [show m - i = (m - (i + 1)) + 1 by omega, partsUp]
set_option maxRecDepth 100000 in
set_option maxHeartbeats 8000000 in
theorem segs_true (a : Option Addr) (len cap : Nat) (bs : List Int) (gl : Int) (size : Nat) (w : World) (hl : len ≤ cap) (hc : cap ≤ maxLen) (hv : VB w a bs) (hbl : bs.length = len) (hs : size = 2 ∨ size = 4) :
  Calls Tryz.prog 108 #[.agg #[.slice a len cap, .int .i64 gl, .int .i64 size], .bool true] w (PartsP w (segsL bs true size)) := by
 have k1 := Bas.heap_new w (.cells #[.slice a len cap, .int .i64 gl, .int .i64 size] 214);have BX := (Below.refl w.heap.size w).alloc (Nat.le_refl _) (.cells #[.slice a len cap, .int .i64 gl, .int .i64 size] 214);have HV := Bas.hid hv;have HB1 := Bas.hid BX;have HS := Bas.hid hs;have SK := seek_any a len cap bs 6 2 _ hl hc (hv.below BX) hbl (by omega)
 have HSK := Bas.hid SK;have hs4 : size ≤ 4 := by omega
 clear BX hv hs SK;go_enter Tryz.func108, Tryz.ntmps108
 go_wp2_with (fail);generalize w.alloc (.cells #[.slice a len cap, .int .i64 gl, .int .i64 size] 214) = W1 at *;refine HSK.out.mono ?_;rintro e w2 ⟨hb2, h2⟩;have HB2 := Bas.hid (HB1.out.trans (hb2.mono HB1.out.size));have k2 := (hb2.block _ (heap_lt k1)).trans k1;have hw1 : w.heap.size ≤ W1.heap.size := HB1.out.size;clear hb2 k1 HSK HB1;by_cases hok : seekOk bs 6
 ·rw [if_pos hok] at h2;obtain ⟨v, rfl, ho⟩ := h2;have HSL : Hid (segsL bs true size = partsUp (fun i => segOne bs true size (rowB bs 2 (nS bs) i)) (nM bs 2) 0) := by unfold Hid segsL; rw [if_pos (by exact hok)]; rfl
  have hM : nM bs 2 ≤ 65535 := by have := nM_le bs 2; have := be_rng2 HV.out.byte 4; unfold nN at *; omega
  obtain ⟨av0, cv0, rfl⟩ := own_slice ho;have HO := Bas.hid ho;have hcv : nM bs 2 ≤ cv0 := (own_cap ho).2.1;have HROW := Bas.hid (fun (i : Nat) (w' : World) (hi : i < nM bs 2) (hb : Below w.heap.size w w') => row_in (HV.out.below hb) hok hi)
  have hs65 : nS bs ≤ 65535 := by have := be_rng2 HV.out.byte 2; unfold nS; omega
  have HK2 := Bas.hid (fun (wr : World) (hb : Below w2.heap.size w2 wr) => (hb.block _ (heap_lt k2)).trans k2)
  have hw2 : w.heap.size ≤ w2.heap.size := HB2.out.size;have lk2 := heap_lt k2;generalize nM bs 2 = m at *;generalize sub a 12 (nN bs * nS bs) = A at *;generalize nS bs = s at *;obtain ⟨FN, hFN⟩ : ∃ FN : Nat → Option PartD, (fun i => segOne bs true size (rowB bs 2 s i)) = FN := ⟨_, rfl⟩
  have HFN := Bas.hid hFN;rw [hFN] at HSL;clear ho hok k2 hFN;go_wp2_with (fail);go_loopw [6, 19] (fun vo vi wr => ∃ (i : Nat) (vo' : Value) (ps : List PartD) (vs : List Value), i ≤ m ∧ vi = .int .i64 i ∧ vo' = vo ∧ ps.length = i ∧ partsUp FN m 0 = (partsUp FN (m - i) i).map (fun l => ps ++ l) ∧ PRow wr w2.heap.size vo' ps vs ∧ Below w2.heap.size w2 wr) (fun _ vi _ => m - (intOf vi).toNat)
  case atStart => exact ⟨0, _, [], [], Nat.zero_le _, rfl, rfl, rfl, by simp, pRow_nil _ _, Below.refl _ _⟩
  case round =>
   obtain ⟨i, vo', ps, vs, hi, rfl, hvo, hpl, hup, hpr, hb3⟩ := hrel;rw [← hvo];clear hvo;have HB3 := Bas.hid (HB2.out.trans (hb3.mono HB2.out.size));have HB23 := Bas.hid hb3;have HPR := Bas.hid hpr;have HPL := Bas.hid hpl;have HUP := Bas.hid hup;have hown := hpr.own;rw [hpl] at hown;obtain ⟨ado, cpo, rfl⟩ := own_slice hown;have HLT : Hid (∀ g, (Value.slice ado i cpo).ownBlock = some g → g < wr.heap.size) := fun g hg => (Row.own_block hown hg).2
   clear hb3 hpr hown hpl hup;by_cases him : i < m
   ·have e1 : decide ((i : Int) < (m : Int)) = true := by simp; omega
    have e2 : decide (i < m) = true := by simp; omega
    have HSTEP := Bas.hid (partsUp_step FN m i him);obtain ⟨hrv, hrl, hrn⟩ := HROW.out i wr him HB3.out;obtain ⟨gv, cpv, hv1, hcell, _⟩ := own_cell (Row.owned_below HO.out HB23.out) (rowsV_get him);cases hv1;have lgv : gv < wr.heap.size := World.block_lt_of_cell? _ _ hcell;unfold rowV at hcell;obtain ⟨R, hR⟩ : ∃ R, sub A (s * i) s = R := ⟨_, rfl⟩;rw [hR] at hrv hcell;obtain ⟨rb, hrb⟩ : ∃ rb, rowB bs 2 s i = rb := ⟨_, rfl⟩;have hfi : FN i = segOne bs true size rb := by rw [← HFN.out, ← hrb]
    rw [hrb] at hrv hrl;have hsm : s ≤ maxLen := by unfold maxLen; omega
    have HU2 := Bas.hid (fun w' (hb : Below wr.heap.size wr w') => u16_ok R s s rb 2 w' (Nat.le_refl _) hsm (hrv.below hb) hrl (by omega) (by omega))
    have HU0 := Bas.hid (fun w' (hb : Below wr.heap.size wr w') => u16_ok R s s rb 0 w' (Nat.le_refl _) hsm (hrv.below hb) hrl (by omega) (by omega))
    have HU4 := Bas.hid (fun w' (hb : Below wr.heap.size wr w') => u16_ok R s s rb 4 w' (Nat.le_refl _) hsm (hrv.below hb) hrl (by omega) (by omega))
    simp only [show Int.toNat 0 = 0 from rfl, show Int.toNat 2 = 2 from rfl, show Int.toNat 4 = 4 from rfl] at HU2 HU0 HU4
    have bf := be_rng2 hrv.byte 2;have bl := be_rng2 hrv.byte 0;have b4 := be_rng2 hrv.byte 4;unfold segOne at hfi;obtain ⟨f, hf⟩ : ∃ f, be rb 2 2 = f := ⟨_, rfl⟩;obtain ⟨l, hl'⟩ : ∃ l, be rb 0 2 = l := ⟨_, rfl⟩;rw [hf] at HU2 bf hfi;rw [hl'] at HU0 bl hfi;obtain ⟨o, ho4⟩ := Int.eq_ofNat_of_zero_le b4.1;rw [ho4] at HU4 b4 hfi;obtain ⟨b40, b41⟩ := b4;have ho65 : o ≤ 65535 := by omega
    clear ho4;obtain ⟨bf0, bf1⟩ := bf;obtain ⟨bl0, bl1⟩ := bl;have HFI := Bas.hid hfi;clear hR hrb hf hl' hrv hrl hfi;go_wp2_with (fail);have k3 := Bas.heap_new wr (.cells #[.slice R s s] 52);have hb3 := (Below.refl wr.heap.size wr).alloc (Nat.le_refl _) (.cells #[.slice R s s] 52);have HP3 := Bas.hid (pRow_below HPR.out hb3);generalize wr.alloc (.cells #[.slice R s s] 52) = W3 at *;have hs3 : wr.heap.size ≤ W3.heap.size := hb3.size;have HB33 := Bas.hid hb3;obtain ⟨T8, hT8⟩ : ∃ T8, wr.heap.size = T8 := ⟨_, rfl⟩;have HT8 := Bas.hid hT8;rw [hT8] at k3 ⊢;clear hb3 hcell lgv hT8;refine' Pl.region_v1 61 [] [0, 1, 2, 3, 4] 5 9 [6] _ (fun v u => ∃ g, v = .pointer (some ⟨g, 0, none⟩) ∧ W3.heap.size ≤ g ∧ u.heap[g]? = some (.cells #[.int .i64 0, .int .i64 0, .slice none 0 0] 220 (0, 0))) (by kernel_rfl) (by kernel_rfl) (by simp) (fun _ _ _ _ e h => ⟨e ▸ h.1, h.2⟩) ?_ ?_ ?_ ?_
    rotate_left
    ·intro I F hI hF;simp only [Pl.selN, List.nil_append, List.drop_succ_cons, List.drop_zero];have x1 := fun i => hF.cell (heap_lt k3) (cell_of_heap (i := 0) (v := .slice R s s) k3 rfl) i
     repeat (go_big_quiet_step ((go_at_call 49; first | with_reducible exact hF.call (HU2.out _ (hF.on HB33.out _)) | with_reducible exact hF.call (HU0.out _ (hF.on HB33.out _)))))
     refine wpQuiet_nil ?_;rfl
    ·rintro v u u' ⟨g, h1, h2, h3⟩ hu hu';exact ⟨g, h1, h2, (hu'.block g (heap_lt h3)).trans h3⟩
    ·simp only [Pl.selN, List.drop_succ_cons, List.drop_zero, List.mem_singleton, forall_eq];intro u hu
     go_simp
     simp only [Pl.valsAt];exact ⟨(Below.refl _ _).alloc (Nat.le_refl _) _, _, rfl, hu.size, Bas.heap_new _ _⟩
    ·intro v u hu hv;obtain ⟨T, rfl, hT, kT⟩ := hv;simp only [Pl.selN, List.drop_succ_cons, List.drop_zero, Act.put, List.setIfInBounds_toArray, List.set_cons_zero, List.set_cons_succ];have HNE : Hid (∀ g, (Value.slice ado i cpo).ownBlock = some g → g ≠ T) := fun g hg => by have := HLT.out g hg; omega
     have hwT : w2.heap.size ≤ T := Nat.le_trans HB23.out.size (Nat.le_trans hs3 hT);have hTT : T8 ≠ T := by have := HT8.out; have := heap_lt k3; omega
     have k4 := (hu.block _ (heap_lt k3)).trans k3;have HPu := Bas.hid (pRow_below HP3.out hu);have HBu := Bas.hid (HB23.out.trans ((HB33.out.trans (hu.mono HB33.out.size)).mono HB23.out.size));have HWu := Bas.hid (HB33.out.trans (hu.mono HB33.out.size));have kr := (hu.block _ (Nat.lt_of_lt_of_le (heap_lt (HK2.out wr HB23.out)) hs3)).trans ((HB33.out.block _ (heap_lt (HK2.out wr HB23.out))).trans (HK2.out wr HB23.out));have hRT : w.heap.size ≠ T := by omega
     have c0 := cell_of_heap (i := 0) kT rfl;have c1 := cell_of_heap (i := 1) kT rfl;have c2 := cell_of_heap (i := 2) kT rfl;have f0 := free_of_heap (i := 0) kT;have f1 := free_of_heap (i := 1) kT;have f2 := free_of_heap (i := 2) kT;have hTr : wr.heap.size ≤ T := Nat.le_trans hs3 hT;clear hu HP3 k3 hT hs3;by_cases hfl : f ≤ l
     ·have d1 : decide (f ≤ l) = true := decide_eq_true hfl;have hfi := HFI.out;rw [if_pos hfl] at hfi;go_wp2_with (first | (go_at_call 51; refine Row.fence ?_));refine Row.unfence ?_;have q0 := heap_set (i := 0) kT (.int .i64 f);have q1 := heap_set (i := 1) q0 (.int .i64 l);have q2 := heap_set (i := 2) q1 (.slice none 0 0);have hkk : ∀ g, g ≠ T → (((u.setCell ⟨T, 0, none⟩ (.int .i64 f)).setCell ⟨T, 1, none⟩ (.int .i64 l)).setCell ⟨T, 2, none⟩ (.slice none 0 0)).heap[g]? = u.heap[g]? := fun g hg => (Below.heap_setCell _ _ _ _ hg).trans ((Below.heap_setCell _ _ _ _ hg).trans (Below.heap_setCell _ _ _ _ hg))
      have HP5 := Bas.hid (pRow_keep HPu.out (w' := ((u.setCell ⟨T, 0, none⟩ (.int .i64 f)).setCell ⟨T, 1, none⟩ (.int .i64 l)).setCell ⟨T, 2, none⟩ (.slice none 0 0)) (fun g hg => hkk g (HNE.out g hg)) (fun e size n u xs he ho => Row.owned_keep ho fun g' hg' => hkk g' (fun e' => own_ty ho kT he (by rw [hg', e']))))
      have HB5 := Bas.hid (((HBu.out.setCell (p := ⟨T, 0, none⟩) hwT (.int .i64 f)).setCell (p := ⟨T, 1, none⟩) hwT (.int .i64 l)).setCell (p := ⟨T, 2, none⟩) hwT (.slice none 0 0));have HTw' : wr.heap.size ≤ T := hTr;have HW5 := Bas.hid (((HWu.out.setCell (p := ⟨T, 0, none⟩) HTw' (.int .i64 f)).setCell (p := ⟨T, 1, none⟩) HTw' (.int .i64 l)).setCell (p := ⟨T, 2, none⟩) HTw' (.slice none 0 0));have k5 := (hkk T8 hTT).trans k4;have kr5 := (hkk _ hRT).trans kr;generalize ((u.setCell ⟨T, 0, none⟩ (.int .i64 f)).setCell ⟨T, 1, none⟩ (.int .i64 l)).setCell ⟨T, 2, none⟩ (.slice none 0 0) = W5 at *;have kT5 : W5.heap[T]? = some (.cells #[.int .i64 f, .int .i64 l, .slice none 0 0] 220 (0, 0)) := q2;clear q0 q1 q2 hkk kT c0 c1 c2 f0 f1 f2 k4 kr HPu HBu HWu;have c0 := cell_of_heap (i := 0) kT5 rfl;have c1 := cell_of_heap (i := 1) kT5 rfl;have r0 := cell_of_heap (i := 0) (v := .slice a len cap) kr5 rfl;have r2 := cell_of_heap (i := 2) (v := .int .i64 size) kr5 rfl;have y0 := cell_of_heap (i := 0) (v := .slice R s s) k5 rfl;refine (need_yesb _ _ (by first | rfl | (simp; done) | (simp; omega))).mono ?_
      rintro e w' ⟨rfl, rfl⟩;go_wp2_with (fail);refine' Pl.region_v0 61 [] [0, 1, 2, 3, 4, 5, 6, 7, 8, 9, 10, 11] [12, 13, 14] _ (by kernel_rfl) (by kernel_rfl) (by simp) (fun _ _ _ _ e h => ⟨e ▸ h.1, h.2⟩) ?_ ?_
      rotate_left
      ·intro I F hI hF;simp only [Pl.selN, List.nil_append, List.drop_succ_cons, List.drop_zero];have x0 := fun i => hF.cell (heap_lt kT5) c0 i
       have x1 := fun i => hF.cell (heap_lt kT5) c1 i
       have x2 := fun i => hF.cell (heap_lt kr5) r0 i
       have x3 := fun i => hF.cell (heap_lt kr5) r2 i
       have x4 := fun i => hF.cell (heap_lt k5) y0 i
       repeat (go_big_quiet_step ((go_at_call 49; with_reducible exact hF.call (HU4.out _ (hF.on HW5.out _)))))
       refine wpQuiet_nil ?_;rfl
      intro u6 hu6;simp only [Pl.selN, List.drop_succ_cons, List.drop_zero];have kT6 := (hu6.block _ (heap_lt kT5)).trans kT5;have HP6' := Bas.hid (pRow_below HP5.out hu6);have HB6' := Bas.hid (HB5.out.trans (hu6.mono HB5.out.size));have hnn : l - f + 1 = (((l - f + 1).toNat : Nat) : Int) := by omega
      have HNN := Bas.hid hnn;have hn7 : (l - f + 1).toNat ≤ 65536 := by omega
      have hw6 : w2.heap.size ≤ u6.heap.size := HB6'.out.size;have L := list_any a len cap bs o (l - f + 1).toNat size u6 (by omega) hc (HV.out.below (HB2.out.trans (HB6'.out.mono HB2.out.size))) hbl (by have := HS.out; omega) (by omega) (by omega)
      rw [← hnn] at L;simp only [if_true, Int.toNat_natCast] at hfi;have HFI2 := Bas.hid hfi;have HL := Bas.hid L;generalize (l - f + 1).toNat = n9 at *;clear L hnn hfi hu6 c0 c1 r0 r2 y0 kT5 k5 kr5 HP5 HB5 HW5;go_wp2_with (fail);refine HL.out.mono ?_;rintro e W8 ⟨hb8, h8⟩;have kT8 := (hb8.block _ (heap_lt kT6)).trans kT6;have HP8 := Bas.hid (pRow_below HP6'.out hb8);have HB8 := Bas.hid (HB6'.out.trans (hb8.mono HB6'.out.size));clear hb8 HL kT6;cases hls : listL bs o n9 size with
      | none =>
       rw [hls] at h8 HFI2;simp only at h8;subst h8;have HNO : Hid (segsL bs true size = none) := by
        unfold Hid;rw [HSL.out, HUP.out, HSTEP.out, HFI2.out]; rfl
       have HBE := Bas.hid (HB2.out.trans (HB8.out.mono HB2.out.size));go_wp2_with (fail);exact ⟨rfl, HBE.out, by rw [HNO.out]⟩
      | some xs =>
       rw [hls] at h8 HFI2;simp only at h8;obtain ⟨v9, rfl, ho9⟩ := h8;obtain ⟨av, cv, rfl⟩ := own_slice ho9;have HV8 := Bas.hid (Row.owned_base ho9 hw6);have HN9 : Hid (xs.length = n9) := by unfold Hid; have := ho9.1; simpa using this
       have HONE : Hid (FN i = some ⟨f, l, xs⟩) := HFI2.out;clear hls ho9;have c0 := cell_of_heap (i := 0) kT8 rfl;have c1 := cell_of_heap (i := 1) kT8 rfl;have c2 := cell_of_heap (i := 2) kT8 rfl;have ff2 := free_of_heap (i := 2) kT8;go_wp2_with (at_builtin; refine Row.fence ?_);refine Row.unfence ?_;have kT9 := heap_set (i := 2) kT8 (.slice av n9 cv);have hk9 : ∀ g, g ≠ T → (W8.setCell ⟨T, 2, none⟩ (.slice av n9 cv)).heap[g]? = W8.heap[g]? := fun g hg => Below.heap_setCell _ _ _ _ hg
       have HP9 := Bas.hid (pRow_keep HP8.out (w' := W8.setCell ⟨T, 2, none⟩ (.slice av n9 cv)) (fun g hg => hk9 g (HNE.out g hg)) (fun e size n u xs he ho => Row.owned_keep ho fun g' hg' => hk9 g' (fun e' => own_ty ho kT8 he (by rw [hg', e']))))
       have HV9 := Bas.hid (Row.owned_keep HV8.out (w' := W8.setCell ⟨T, 2, none⟩ (.slice av n9 cv)) fun g' hg' => hk9 g' (fun e' => own_ty HV8.out kT8 (by decide) (by rw [hg', e'])))
       have HB9 := Bas.hid (HB8.out.setCell (p := ⟨T, 2, none⟩) hwT (.slice av n9 cv));have hs9 : (W8.setCell ⟨T, 2, none⟩ (.slice av n9 cv)).heap.size = W8.heap.size := by simp
       clear c0 c1 c2 ff2 kT8 hk9;generalize W8.setCell ⟨T, 2, none⟩ (.slice av n9 cv) = W9 at *;have kT9 : W9.heap[T]? = some (.cells #[.int .i64 f, .int .i64 l, .slice av n9 cv] 220 (0, 0)) := kT9;have q2 := Bas.heap_new W9 (.cells #[.int .i64 f, .int .i64 l, .slice av n9 cv] 220);rw [hs9] at q2;have hb6 := (Below.refl W9.heap.size W9).alloc (Nat.le_refl _) (.cells #[.int .i64 f, .int .i64 l, .slice av n9 cv] 220);have HP6 := Bas.hid (pRow_below HP9.out hb6);have HV6 := Bas.hid (Row.owned_below HV9.out hb6);have HB6 := Bas.hid (HB9.out.trans (hb6.mono HB9.out.size));generalize W9.alloc (.cells #[.int .i64 f, .int .i64 l, .slice av n9 cv] 220) = W6 at *;have hO6 := HP6.out.own;rw [HPL.out] at hO6;have HO6 := Bas.hid hO6;clear hb6 kT9 hO6;refine (Row.append_any rfl _ _ 215 220 rfl (.agg #[.int .i64 0, .int .i64 0, .slice none 0 0]) 3 40 Tryz.underlying215 infoP6 rfl (by decide) w2.heap.size (.slice ado i cpo) i _ rfl HO6.out (.slice (some ⟨W8.heap.size, 0, none⟩) 1 1) 1 [.int .i64 f, .int .i64 l, .slice av n9 cv] rfl (leads_heap q2) rfl (by simp; first | exact ⟨rfl, rfl, rfl⟩ | exact ⟨rfl, rfl⟩) (by unfold maxLen; omega) (by omega) HB6.out.size ?_)
       intro v7 w7 ho7 hg7 _;have HK7 := Bas.hid fun (e : TypeId) (size n : Nat) (u : Value) (xs : List Value) (he : e ≠ 220) (ho : W6.ownsRow w2.heap.size e size u n xs) => Row.owned_keep ho fun g' hg' => hg7.block g' (Row.own_block ho hg').2 (fun e' => own_rows_ne HO6.out ho (fun h => he h.symm) e'.symm hg')
       have HP7 := Bas.hid (pRow_snoc (p := ⟨f, l, xs⟩) HP6.out (by rw [HPL.out]; exact ho7) HK7.out (HK7.out _ _ _ _ _ (by decide) (by simp only [HN9.out]; exact HV6.out)))
       have HB7 := Bas.hid (HB6.out.grown hg7 HB6.out.size (fun g' hg' => (Row.own_block HO6.out hg').1))
       clear ho7 hg7 q2;go_wp2_with (fail);go_roundw
       case rel => exact ⟨i + 1, _, ps ++ [⟨f, l, xs⟩], vs ++ [.slice av n9 cv], by omega, by go_num, rfl, by rw [List.length_append, HPL.out]; rfl, by
        rw [HUP.out, HSTEP.out, HONE.out, Option.bind_some]; simp [Option.map_map, Function.comp_def], HP7.out, HB7.out⟩
       case measure => simp [intOf]; omega
     ·have d1 : decide (f ≤ l) = false := decide_eq_false hfl;have hfi := HFI.out;rw [if_neg hfl] at hfi;have HNO : Hid (segsL bs true size = none) := by
       unfold Hid;rw [HSL.out, HUP.out, HSTEP.out, hfi]; rfl
      clear hfi hfl;go_wp2_with (first | (go_at_call 51; refine Row.fence ?_));refine Row.unfence ?_;have HBE := Bas.hid (HB2.out.trans ((((HBu.out.setCell (p := ⟨T, 0, none⟩) hwT (.int .i64 f)).setCell (p := ⟨T, 1, none⟩) hwT (.int .i64 l)).setCell (p := ⟨T, 2, none⟩) hwT (.slice none 0 0)).mono HB2.out.size));refine (need_nob _ _ (by first | rfl | (simp; done) | (simp; omega))).mono ?_
      rintro e w' ⟨rfl, rfl⟩;exact ⟨rfl, HBE.out, by rw [HNO.out]⟩
   ·have him2 : i = m := by omega
    have e1 : decide ((i : Int) < (m : Int)) = false := by simp; omega
    have hdone : segsL bs true size = some ps := by
     rw [HSL.out, HUP.out, him2, Nat.sub_self, partsUp]; simp
    have HD := Bas.hid hdone;clear hdone;go_wp2_with (fail);go_ret;exact ⟨HB3.out, by rw [HD.out]; exact ⟨_, vs, rfl, pRow_base HPR.out hw2⟩⟩
 ·rw [if_neg hok] at h2;subst h2;have HSL : Hid (segsL bs true size = none) := by unfold Hid segsL; rw [if_neg (by exact hok)]
  go_wp2_with (fail);exact ⟨rfl, HB2.out, by rw [HSL.out]⟩
set_option maxRecDepth 100000 in
set_option maxHeartbeats 8000000 in
theorem segs_false (a : Option Addr) (len cap : Nat) (bs : List Int) (gl : Int) (size : Nat) (w : World) (hl : len ≤ cap) (hc : cap ≤ maxLen) (hv : VB w a bs) (hbl : bs.length = len) (hs : size = 2 ∨ size = 4) :
  Calls Tryz.prog 108 #[.agg #[.slice a len cap, .int .i64 gl, .int .i64 size], .bool false] w (PartsP w (segsL bs false size)) := by
 have k1 := Bas.heap_new w (.cells #[.slice a len cap, .int .i64 gl, .int .i64 size] 214);have BX := (Below.refl w.heap.size w).alloc (Nat.le_refl _) (.cells #[.slice a len cap, .int .i64 gl, .int .i64 size] 214);have HV := Bas.hid hv;have HB1 := Bas.hid BX;have HS := Bas.hid hs;have SK := seek_any a len cap bs (4 + (size : Int)) 2 _ hl hc (hv.below BX) hbl (by omega)
 have HSK := Bas.hid SK;have hs4 : size ≤ 4 := by omega
 clear BX hv hs SK;go_enter Tryz.func108, Tryz.ntmps108
 go_wp2_with (fail);generalize w.alloc (.cells #[.slice a len cap, .int .i64 gl, .int .i64 size] 214) = W1 at *;refine HSK.out.mono ?_;rintro e w2 ⟨hb2, h2⟩;have HB2 := Bas.hid (HB1.out.trans (hb2.mono HB1.out.size));have k2 := (hb2.block _ (heap_lt k1)).trans k1;have hw1 : w.heap.size ≤ W1.heap.size := HB1.out.size;clear hb2 k1 HSK HB1;by_cases hok : seekOk bs (4 + (size : Int))
 ·rw [if_pos hok] at h2;obtain ⟨v, rfl, ho⟩ := h2;have HSL : Hid (segsL bs false size = partsUp (fun i => segOne bs false size (rowB bs 2 (nS bs) i)) (nM bs 2) 0) := by unfold Hid segsL; rw [if_pos (by exact hok)]; rfl
  have hM : nM bs 2 ≤ 65535 := by have := nM_le bs 2; have := be_rng2 HV.out.byte 4; unfold nN at *; omega
  obtain ⟨av0, cv0, rfl⟩ := own_slice ho;have HO := Bas.hid ho;have hcv : nM bs 2 ≤ cv0 := (own_cap ho).2.1;have HROW := Bas.hid (fun (i : Nat) (w' : World) (hi : i < nM bs 2) (hb : Below w.heap.size w w') => row_in (HV.out.below hb) hok hi)
  have hs65 : nS bs ≤ 65535 := by have := be_rng2 HV.out.byte 2; unfold nS; omega
  have HK2 := Bas.hid (fun (wr : World) (hb : Below w2.heap.size w2 wr) => (hb.block _ (heap_lt k2)).trans k2)
  have hw2 : w.heap.size ≤ w2.heap.size := HB2.out.size;have lk2 := heap_lt k2;generalize nM bs 2 = m at *;generalize sub a 12 (nN bs * nS bs) = A at *;generalize nS bs = s at *;obtain ⟨FN, hFN⟩ : ∃ FN : Nat → Option PartD, (fun i => segOne bs false size (rowB bs 2 s i)) = FN := ⟨_, rfl⟩
  have HFN := Bas.hid hFN;rw [hFN] at HSL;clear ho hok k2 hFN;go_wp2_with (fail);go_loopw [6, 19] (fun vo vi wr => ∃ (i : Nat) (vo' : Value) (ps : List PartD) (vs : List Value), i ≤ m ∧ vi = .int .i64 i ∧ vo' = vo ∧ ps.length = i ∧ partsUp FN m 0 = (partsUp FN (m - i) i).map (fun l => ps ++ l) ∧ PRow wr w2.heap.size vo' ps vs ∧ Below w2.heap.size w2 wr) (fun _ vi _ => m - (intOf vi).toNat)
  case atStart => exact ⟨0, _, [], [], Nat.zero_le _, rfl, rfl, rfl, by simp, pRow_nil _ _, Below.refl _ _⟩
  case round =>
   obtain ⟨i, vo', ps, vs, hi, rfl, hvo, hpl, hup, hpr, hb3⟩ := hrel;rw [← hvo];clear hvo;have HB3 := Bas.hid (HB2.out.trans (hb3.mono HB2.out.size));have HB23 := Bas.hid hb3;have HPR := Bas.hid hpr;have HPL := Bas.hid hpl;have HUP := Bas.hid hup;have hown := hpr.own;rw [hpl] at hown;obtain ⟨ado, cpo, rfl⟩ := own_slice hown;have HLT : Hid (∀ g, (Value.slice ado i cpo).ownBlock = some g → g < wr.heap.size) := fun g hg => (Row.own_block hown hg).2
   clear hb3 hpr hown hpl hup;by_cases him : i < m
   ·have e1 : decide ((i : Int) < (m : Int)) = true := by simp; omega
    have e2 : decide (i < m) = true := by simp; omega
    have HSTEP := Bas.hid (partsUp_step FN m i him);obtain ⟨hrv, hrl, hrn⟩ := HROW.out i wr him HB3.out;obtain ⟨gv, cpv, hv1, hcell, _⟩ := own_cell (Row.owned_below HO.out HB23.out) (rowsV_get him);cases hv1;have lgv : gv < wr.heap.size := World.block_lt_of_cell? _ _ hcell;unfold rowV at hcell;obtain ⟨R, hR⟩ : ∃ R, sub A (s * i) s = R := ⟨_, rfl⟩;rw [hR] at hrv hcell;obtain ⟨rb, hrb⟩ : ∃ rb, rowB bs 2 s i = rb := ⟨_, rfl⟩;have hfi : FN i = segOne bs false size rb := by rw [← HFN.out, ← hrb]
    rw [hrb] at hrv hrl;have hsm : s ≤ maxLen := by unfold maxLen; omega
    have HU2 := Bas.hid (fun w' (hb : Below wr.heap.size wr w') => u16_ok R s s rb 2 w' (Nat.le_refl _) hsm (hrv.below hb) hrl (by omega) (by omega))
    have HU0 := Bas.hid (fun w' (hb : Below wr.heap.size wr w') => u16_ok R s s rb 0 w' (Nat.le_refl _) hsm (hrv.below hb) hrl (by omega) (by omega))
    have HU4 := Bas.hid (fun w' (hb : Below wr.heap.size wr w') => number_any R s s rb 4 size w' (Nat.le_refl _) hsm (hrv.below hb) hrl (by have := HS.out; omega) (by omega))
    simp only [show Int.toNat 0 = 0 from rfl, show Int.toNat 2 = 2 from rfl] at HU2 HU0 HU4
    have bf := be_rng2 hrv.byte 2;have bl := be_rng2 hrv.byte 0;have b4 := be_rng2 hrv.byte 4;unfold segOne at hfi;obtain ⟨f, hf⟩ : ∃ f, be rb 2 2 = f := ⟨_, rfl⟩;obtain ⟨l, hl'⟩ : ∃ l, be rb 0 2 = l := ⟨_, rfl⟩;rw [hf] at HU2 bf hfi;rw [hl'] at HU0 bl hfi;obtain ⟨x, hx⟩ : ∃ x, be rb 4 size = x := ⟨_, rfl⟩;rw [hx] at HU4 hfi;clear b4 hx;obtain ⟨bf0, bf1⟩ := bf;obtain ⟨bl0, bl1⟩ := bl;have HFI := Bas.hid hfi;clear hR hrb hf hl' hrv hrl hfi;go_wp2_with (fail);have k3 := Bas.heap_new wr (.cells #[.slice R s s] 52);have hb3 := (Below.refl wr.heap.size wr).alloc (Nat.le_refl _) (.cells #[.slice R s s] 52);have HP3 := Bas.hid (pRow_below HPR.out hb3);generalize wr.alloc (.cells #[.slice R s s] 52) = W3 at *;have hs3 : wr.heap.size ≤ W3.heap.size := hb3.size;have HB33 := Bas.hid hb3;obtain ⟨T8, hT8⟩ : ∃ T8, wr.heap.size = T8 := ⟨_, rfl⟩;have HT8 := Bas.hid hT8;rw [hT8] at k3 ⊢;clear hb3 hcell lgv hT8;refine' Pl.region_v1 61 [] [0, 1, 2, 3, 4] 5 9 [6] _ (fun v u => ∃ g, v = .pointer (some ⟨g, 0, none⟩) ∧ W3.heap.size ≤ g ∧ u.heap[g]? = some (.cells #[.int .i64 0, .int .i64 0, .slice none 0 0] 220 (0, 0))) (by kernel_rfl) (by kernel_rfl) (by simp) (fun _ _ _ _ e h => ⟨e ▸ h.1, h.2⟩) ?_ ?_ ?_ ?_
    rotate_left
    ·intro I F hI hF;simp only [Pl.selN, List.nil_append, List.drop_succ_cons, List.drop_zero];have x1 := fun i => hF.cell (heap_lt k3) (cell_of_heap (i := 0) (v := .slice R s s) k3 rfl) i
     repeat (go_big_quiet_step ((go_at_call 49; first | with_reducible exact hF.call (HU2.out _ (hF.on HB33.out _)) | with_reducible exact hF.call (HU0.out _ (hF.on HB33.out _)))))
     refine wpQuiet_nil ?_;rfl
    ·rintro v u u' ⟨g, h1, h2, h3⟩ hu hu';exact ⟨g, h1, h2, (hu'.block g (heap_lt h3)).trans h3⟩
    ·simp only [Pl.selN, List.drop_succ_cons, List.drop_zero, List.mem_singleton, forall_eq];intro u hu
     go_simp
     simp only [Pl.valsAt];exact ⟨(Below.refl _ _).alloc (Nat.le_refl _) _, _, rfl, hu.size, Bas.heap_new _ _⟩
    ·intro v u hu hv;obtain ⟨T, rfl, hT, kT⟩ := hv;simp only [Pl.selN, List.drop_succ_cons, List.drop_zero, Act.put, List.setIfInBounds_toArray, List.set_cons_zero, List.set_cons_succ];have HNE : Hid (∀ g, (Value.slice ado i cpo).ownBlock = some g → g ≠ T) := fun g hg => by have := HLT.out g hg; omega
     have hwT : w2.heap.size ≤ T := Nat.le_trans HB23.out.size (Nat.le_trans hs3 hT);have hTT : T8 ≠ T := by have := HT8.out; have := heap_lt k3; omega
     have k4 := (hu.block _ (heap_lt k3)).trans k3;have HPu := Bas.hid (pRow_below HP3.out hu);have HBu := Bas.hid (HB23.out.trans ((HB33.out.trans (hu.mono HB33.out.size)).mono HB23.out.size));have HWu := Bas.hid (HB33.out.trans (hu.mono HB33.out.size));have kr := (hu.block _ (Nat.lt_of_lt_of_le (heap_lt (HK2.out wr HB23.out)) hs3)).trans ((HB33.out.block _ (heap_lt (HK2.out wr HB23.out))).trans (HK2.out wr HB23.out));have hRT : w.heap.size ≠ T := by omega
     have c0 := cell_of_heap (i := 0) kT rfl;have c1 := cell_of_heap (i := 1) kT rfl;have c2 := cell_of_heap (i := 2) kT rfl;have f0 := free_of_heap (i := 0) kT;have f1 := free_of_heap (i := 1) kT;have f2 := free_of_heap (i := 2) kT;have hTr : wr.heap.size ≤ T := Nat.le_trans hs3 hT;clear hu HP3 k3 hT hs3;by_cases hfl : f ≤ l
     ·have d1 : decide (f ≤ l) = true := decide_eq_true hfl;have hfi := HFI.out;rw [if_pos hfl] at hfi;go_wp2_with (first | (go_at_call 51; refine Row.fence ?_));refine Row.unfence ?_;have q0 := heap_set (i := 0) kT (.int .i64 f);have q1 := heap_set (i := 1) q0 (.int .i64 l);have q2 := heap_set (i := 2) q1 (.slice none 0 0);have hkk : ∀ g, g ≠ T → (((u.setCell ⟨T, 0, none⟩ (.int .i64 f)).setCell ⟨T, 1, none⟩ (.int .i64 l)).setCell ⟨T, 2, none⟩ (.slice none 0 0)).heap[g]? = u.heap[g]? := fun g hg => (Below.heap_setCell _ _ _ _ hg).trans ((Below.heap_setCell _ _ _ _ hg).trans (Below.heap_setCell _ _ _ _ hg))
      have HP5 := Bas.hid (pRow_keep HPu.out (w' := ((u.setCell ⟨T, 0, none⟩ (.int .i64 f)).setCell ⟨T, 1, none⟩ (.int .i64 l)).setCell ⟨T, 2, none⟩ (.slice none 0 0)) (fun g hg => hkk g (HNE.out g hg)) (fun e size n u xs he ho => Row.owned_keep ho fun g' hg' => hkk g' (fun e' => own_ty ho kT he (by rw [hg', e']))))
      have HB5 := Bas.hid (((HBu.out.setCell (p := ⟨T, 0, none⟩) hwT (.int .i64 f)).setCell (p := ⟨T, 1, none⟩) hwT (.int .i64 l)).setCell (p := ⟨T, 2, none⟩) hwT (.slice none 0 0));have HTw' : wr.heap.size ≤ T := hTr;have HW5 := Bas.hid (((HWu.out.setCell (p := ⟨T, 0, none⟩) HTw' (.int .i64 f)).setCell (p := ⟨T, 1, none⟩) HTw' (.int .i64 l)).setCell (p := ⟨T, 2, none⟩) HTw' (.slice none 0 0));have k5 := (hkk T8 hTT).trans k4;have kr5 := (hkk _ hRT).trans kr;generalize ((u.setCell ⟨T, 0, none⟩ (.int .i64 f)).setCell ⟨T, 1, none⟩ (.int .i64 l)).setCell ⟨T, 2, none⟩ (.slice none 0 0) = W5 at *;have kT5 : W5.heap[T]? = some (.cells #[.int .i64 f, .int .i64 l, .slice none 0 0] 220 (0, 0)) := q2;clear q0 q1 q2 hkk kT c0 c1 c2 f0 f1 f2 k4 kr HPu HBu HWu;have c0 := cell_of_heap (i := 0) kT5 rfl;have c1 := cell_of_heap (i := 1) kT5 rfl;have r0 := cell_of_heap (i := 0) (v := .slice a len cap) kr5 rfl;have r2 := cell_of_heap (i := 2) (v := .int .i64 size) kr5 rfl;have y0 := cell_of_heap (i := 0) (v := .slice R s s) k5 rfl;rw [if_neg (by decide)] at hfi
      have HONE : Hid (FN i = some ⟨f, l, [x]⟩) := hfi;refine (need_yesb _ _ (by first | rfl | (simp; done) | (simp; omega))).mono ?_
      rintro e w' ⟨rfl, rfl⟩;clear hfi c0 c1 r0;go_wp2_with (fail);refine (HU4.out _ HW5.out).mono ?_;rintro e W7 ⟨rfl, hb7⟩;have kT7 := (hb7.block _ (heap_lt kT5)).trans kT5;have HP7' := Bas.hid (pRow_below HP5.out hb7);have HB7' := Bas.hid (HB5.out.trans (hb7.mono HB5.out.size));clear hb7 y0 r2 kT5 k5 kr5;have c0 := cell_of_heap (i := 0) kT7 rfl;have c1 := cell_of_heap (i := 1) kT7 rfl;have c2 := cell_of_heap (i := 2) kT7 rfl;have ff2 := free_of_heap (i := 2) kT7;have lT7 := heap_lt kT7;go_wp2_with (at_builtin; refine Row.fence ?_);refine Row.unfence ?_;clear c0 c1 c2 ff2;have kT9 := heap_set (i := 2) kT7 (.slice (some ⟨W7.heap.size, 0, none⟩) 1 1);have hk9 : ∀ g, g ≠ T → (W7.setCell ⟨T, 2, none⟩ (.slice (some ⟨W7.heap.size, 0, none⟩) 1 1)).heap[g]? = W7.heap[g]? := fun g hg => Below.heap_setCell _ _ _ _ hg
      have HP9 := Bas.hid (pRow_keep HP7'.out (w' := W7.setCell ⟨T, 2, none⟩ (.slice (some ⟨W7.heap.size, 0, none⟩) 1 1)) (fun g hg => hk9 g (HNE.out g hg)) (fun e size n u xs he ho => Row.owned_keep ho fun g' hg' => hk9 g' (fun e' => own_ty ho kT7 he (by rw [hg', e']))))
      have HB9 := Bas.hid (HB7'.out.setCell (p := ⟨T, 2, none⟩) hwT (.slice (some ⟨W7.heap.size, 0, none⟩) 1 1));have hs9 : (W7.setCell ⟨T, 2, none⟩ (.slice (some ⟨W7.heap.size, 0, none⟩) 1 1)).heap.size = W7.heap.size := by simp
      have hw7 : w2.heap.size ≤ W7.heap.size := HB7'.out.size;clear kT7 hk9;generalize W7.setCell ⟨T, 2, none⟩ (.slice (some ⟨W7.heap.size, 0, none⟩) 1 1) = W9 at *;have q8 := (Below.heap_alloc (W9.alloc (.cells #[.int .i64 x] 3)) (.cells #[.int .i64 f, .int .i64 l, .slice (some ⟨W7.heap.size, 0, none⟩) 1 1] 220) _ (by simp)).trans (Bas.heap_new W9 (.cells #[.int .i64 x] 3))
      have q2 := Bas.heap_new2 W9 (.cells #[.int .i64 x] 3) (.cells #[.int .i64 f, .int .i64 l, .slice (some ⟨W7.heap.size, 0, none⟩) 1 1] 220);rw [hs9] at q8 q2;have hb6 := ((Below.refl W9.heap.size W9).alloc (Nat.le_refl _) (.cells #[.int .i64 x] 3)).alloc (by simp) (.cells #[.int .i64 f, .int .i64 l, .slice (some ⟨W7.heap.size, 0, none⟩) 1 1] 220)
      have HP6 := Bas.hid (pRow_below HP9.out hb6);have HB6 := Bas.hid (HB9.out.trans (hb6.mono HB9.out.size));generalize (W9.alloc (.cells #[.int .i64 x] 3)).alloc (.cells #[.int .i64 f, .int .i64 l, .slice (some ⟨W7.heap.size, 0, none⟩) 1 1] 220) = W6 at *;have HV6 := Bas.hid (own_one (base := w2.heap.size) (cs := [.int .i64 x]) q8 hw7 rfl);have hO6 := HP6.out.own;rw [HPL.out] at hO6;have HO6 := Bas.hid hO6;clear hb6 kT9 hO6 q8;refine (Row.append_any rfl _ _ 215 220 rfl (.agg #[.int .i64 0, .int .i64 0, .slice none 0 0]) 3 40 Tryz.underlying215 infoP6 rfl (by decide) w2.heap.size (.slice ado i cpo) i _ rfl HO6.out (.slice (some ⟨W7.heap.size + 1, 0, none⟩) 1 1) 1 [.int .i64 f, .int .i64 l, .slice (some ⟨W7.heap.size, 0, none⟩) 1 1] rfl (leads_heap q2) rfl (by simp; first | exact ⟨rfl, rfl, rfl⟩ | exact ⟨rfl, rfl⟩) (by unfold maxLen; omega) (by omega) HB6.out.size ?_)
      intro v7 w7 ho7 hg7 _;have HK7 := Bas.hid fun (e : TypeId) (size n : Nat) (u : Value) (xs : List Value) (he : e ≠ 220) (ho : W6.ownsRow w2.heap.size e size u n xs) => Row.owned_keep ho fun g' hg' => hg7.block g' (Row.own_block ho hg').2 (fun e' => own_rows_ne HO6.out ho (fun h => he h.symm) e'.symm hg')
      have HP7 := Bas.hid (pRow_snoc (p := ⟨f, l, [x]⟩) HP6.out (by rw [HPL.out]; exact ho7) HK7.out (HK7.out _ _ _ _ _ (by decide) HV6.out))
      have HB7 := Bas.hid (HB6.out.grown hg7 HB6.out.size (fun g' hg' => (Row.own_block HO6.out hg').1))
      clear ho7 hg7 q2;go_wp2_with (fail);go_roundw
      case rel => exact ⟨i + 1, _, ps ++ [⟨f, l, [x]⟩], vs ++ [.slice (some ⟨W7.heap.size, 0, none⟩) 1 1], by omega, by go_num, rfl, by rw [List.length_append, HPL.out]; rfl, by
       rw [HUP.out, HSTEP.out, HONE.out, Option.bind_some]; simp [Option.map_map, Function.comp_def], HP7.out, HB7.out⟩
      case measure => simp [intOf]; omega
     ·have d1 : decide (f ≤ l) = false := decide_eq_false hfl;have hfi := HFI.out;rw [if_neg hfl] at hfi;have HNO : Hid (segsL bs false size = none) := by
       unfold Hid;rw [HSL.out, HUP.out, HSTEP.out, hfi]; rfl
      clear hfi hfl;go_wp2_with (first | (go_at_call 51; refine Row.fence ?_));refine Row.unfence ?_;have HBE := Bas.hid (HB2.out.trans ((((HBu.out.setCell (p := ⟨T, 0, none⟩) hwT (.int .i64 f)).setCell (p := ⟨T, 1, none⟩) hwT (.int .i64 l)).setCell (p := ⟨T, 2, none⟩) hwT (.slice none 0 0)).mono HB2.out.size));refine (need_nob _ _ (by first | rfl | (simp; done) | (simp; omega))).mono ?_
      rintro e w' ⟨rfl, rfl⟩;exact ⟨rfl, HBE.out, by rw [HNO.out]⟩
   ·have him2 : i = m := by omega
    have e1 : decide ((i : Int) < (m : Int)) = false := by simp; omega
    have hdone : segsL bs false size = some ps := by
     rw [HSL.out, HUP.out, him2, Nat.sub_self, partsUp]; simp
    have HD := Bas.hid hdone;clear hdone;go_wp2_with (fail);go_ret;exact ⟨HB3.out, by rw [HD.out]; exact ⟨_, vs, rfl, pRow_base HPR.out hw2⟩⟩
 ·rw [if_neg hok] at h2;subst h2;have HSL : Hid (segsL bs false size = none) := by unfold Hid segsL; rw [if_neg (by exact hok)]
  go_wp2_with (fail);exact ⟨rfl, HB2.out, by rw [HSL.out]⟩
def LkTakeP (w : World) (bs : List Int) (gl size : Nat) (e : Ending) (w' : World) : Prop :=
 Below w.heap.size w w' ∧ match parseLk bs gl size with
  | none => e = .panicked short
  | some ps => ∃ v, e = .returned v ∧ Lives w.heap.size (fun u => LkAt u v ps) w'
theorem rises_iff : ∀ ps : List PartD, rises ps = true ↔ ∀ i p q, ps[i]? = some p → ps[i + 1]? = some q → p.last < q.first
 | [] => by simp [rises]
 | [p] => by
  simp only [rises, true_iff];intro i p' q h1 h2;simp at h2
 | p :: q :: l => by
  have ih := rises_iff (q :: l);simp only [rises, Bool.and_eq_true, decide_eq_true_eq, ih];constructor
  ·rintro ⟨h1, h2⟩ i p' q' hp hq;cases i with
   | zero => simp at hp hq; subst hp hq; exact h1
   | succ i => exact h2 i p' q' (by simpa using hp) (by simpa using hq)
  ·intro h;exact ⟨h 0 p q rfl rfl, fun i p' q' hp hq => h (i + 1) p' q' (by simpa using hp) (by simpa using hq)⟩
theorem pRow_set {w : World} {base T i : Nat} {cs : Array Value} {t : TypeId} {v : Value} {ps : List PartD} {vs : List Value} (h : PRow w base v ps vs) (hT : w.heap[T]? = some (.cells cs t (0, 0))) (h1 : 220 ≠ t) (h2 : 3 ≠ t) (x : Value) : PRow (w.setCell ⟨T, i, none⟩ x) base v ps vs :=
 ⟨h.len, Row.owned_keep h.own fun g hg => Below.heap_setCell _ _ _ _ (fun e => own_ty h.own hT h1 (by rw [hg, e])), fun i p u hp hu => Row.owned_keep (h.vals i p u hp hu) fun g hg => Below.heap_setCell _ _ _ _ (fun e => own_ty (h.vals i p u hp hu) hT h2 (by rw [hg, e]))⟩
theorem lkAt_of {w : World} {base T : Nat} {fmt : Int} {vp : Value} {ps : List PartD} {vs : List Value} (hT : w.heap[T]? = some (.cells #[.int .i64 fmt, vp] 217 (0, 0))) (h : PRow w base vp ps vs) : LkAt w (.pointer (some ⟨T, 0, none⟩)) ps :=
 ⟨T, fmt, vp, vs, rfl, hT, h.len, Row.leads_owned h.own, fun i p u hp hu => Row.leads_owned (h.vals i p u hp hu)⟩
theorem lkLives_of {w : World} {a base T : Nat} {fmt : Int} {vp : Value} {ps : List PartD} {vs : List Value} (hT : w.heap[T]? = some (.cells #[.int .i64 fmt, vp] 217 (0, 0))) (h : PRow w base vp ps vs) (h1 : a ≤ T) (h2 : a ≤ base) : Lives a (fun u => LkAt u (.pointer (some ⟨T, 0, none⟩)) ps) w :=
 fun u hu => lkAt_of (lives_heap hT h1 u hu) (lives_prow h h2 u hu)
set_option maxRecDepth 100000 in
set_option maxHeartbeats 16000000 in
theorem lkTake_any (a : Option Addr) (len cap : Nat) (bs : List Int) (gl size : Nat) (w : World) (hl : len ≤ cap) (hc : cap ≤ maxLen) (hv : VB w a bs) (hbl : bs.length = len) (hs : size = 2 ∨ size = 4) (hg1 : 1 ≤ gl) (hg2 : gl ≤ 65536) :
  Calls Tryz.prog 84 #[.agg #[.slice a len cap], .int .i64 gl, .int .i64 size] w (LkTakeP w bs gl size) := by
 have k1 := Bas.heap_new w (.cells #[.slice a len cap] 52);have BX := ((Below.refl w.heap.size w).alloc (Nat.le_refl _) (.cells #[.slice a len cap] 52)).alloc (by simp) (.cells #[.slice a len cap, .int .i64 gl, .int .i64 size] 214)
 have k1' := (Below.heap_alloc (w.alloc (.cells #[.slice a len cap] 52)) (.cells #[.slice a len cap, .int .i64 gl, .int .i64 size] 214) _ (by simp)).trans k1
 have kr := Bas.heap_new2 w (.cells #[.slice a len cap] 52) (.cells #[.slice a len cap, .int .i64 gl, .int .i64 size] 214);have HV := Bas.hid hv;have HB1 := Bas.hid BX;have HS := Bas.hid hs;clear BX hv hs k1;by_cases f2 : 2 ≤ len
 ·have U := fun (w' : World) (hb : Below w.heap.size w w') => u16_ok a len cap bs 0 w' hl hc (HV.out.below hb) hbl (by omega) (by omega)
  simp only [show Int.toNat 0 = 0 from rfl] at U
  have b0 := be_rng2 HV.out.byte 0;have HL2 : Hid (2 ≤ bs.length) := by unfold Hid; omega
  obtain ⟨x, hx⟩ : ∃ x, be bs 0 2 = x := ⟨_, rfl⟩;rw [hx] at U b0;have HX := Bas.hid hx;have HU := Bas.hid U;obtain ⟨b00, b01⟩ := b0;clear U hx;go_enter Tryz.func84, Tryz.ntmps84
  go_wp2_with (fail);generalize (w.alloc (.cells #[.slice a len cap] 52)).alloc (.cells #[.slice a len cap, .int .i64 gl, .int .i64 size] 214) = W1 at *;refine (HU.out _ HB1.out).mono ?_;rintro e w1 ⟨rfl, hb1⟩;have k2 := (hb1.block _ (heap_lt k1')).trans k1';have kr2 := (hb1.block _ (heap_lt kr)).trans kr;have kT := Bas.heap_new w1 (.cells #[.int .i64 x, .slice none 0 0] 217);have hb2 := (Below.refl w1.heap.size w1).alloc (Nat.le_refl _) (.cells #[.int .i64 x, .slice none 0 0] 217);have HB2 := Bas.hid (HB1.out.trans ((hb1.trans (hb2.mono hb1.size)).mono HB1.out.size));have k3 := (hb2.block _ (heap_lt k2)).trans k2;have kr3 := (hb2.block _ (heap_lt kr2)).trans kr2;have hwT : w.heap.size ≤ w1.heap.size := Nat.le_trans HB1.out.size hb1.size;have hs2 : (w1.alloc (.cells #[.int .i64 x, .slice none 0 0] 217)).heap.size = w1.heap.size + 1 := by simp
  have c0 := cell_of_heap (i := 0) (v := .slice a len cap) k2 rfl;have r0 := cell_of_heap (i := 0) (v := .slice a len cap) kr2 rfl;have r1 := cell_of_heap (i := 1) (v := .int .i64 gl) kr2 rfl;have r2 := cell_of_heap (i := 2) (v := .int .i64 size) kr2 rfl;have lk2 := heap_lt k2;have lkr2 := heap_lt kr2;clear hb1 hb2 k1' kr HB1 HU;by_cases x0 : x = 0
  ·subst x0;have HFR : Hid (formL bs gl size = (listL bs 2 gl size).map fun vs => [⟨0, (gl : Int) - 1, vs⟩]) := by unfold Hid formL; rw [HX.out]; simp
   go_wp2_with (fail);generalize w1.alloc (.cells #[.int .i64 0, .slice none 0 0] 217) = w2 at *;obtain ⟨T, hT⟩ : ∃ T, w1.heap.size = T := ⟨_, rfl⟩;rw [hT] at kT hwT ⊢;clear hT hs2 c0 r0 r1 r2 lk2 lkr2 k2 kr2;have LL := Bas.hid (list_any a len cap bs 2 gl size w2 hl hc (HV.out.below HB2.out) hbl (by have := HS.out; omega) (by omega) (by omega))
   clear k3 kr3;refine LL.out.mono ?_;rintro e w3 ⟨hb3, h3⟩;have kT3 := (hb3.block _ (heap_lt kT)).trans kT;have HB3 := Bas.hid (HB2.out.trans (hb3.mono HB2.out.size));have hw23 : w.heap.size ≤ w2.heap.size := HB2.out.size;clear hb3 LL;cases hls : listL bs 2 gl size with
   | none =>
    rw [hls] at h3;simp only at h3;subst h3;have HNO : Hid (parseLk bs gl size = none) := by unfold Hid parseLk; rw [if_pos HL2.out, HFR.out, hls]; rfl
    clear hls;go_wp2_with (fail);exact ⟨rfl, HB3.out, by rw [HNO.out]⟩
   | some xs =>
    rw [hls] at h3;simp only at h3;obtain ⟨v3, rfl, ho3⟩ := h3;obtain ⟨av3, cv3, rfl⟩ := own_slice ho3;have hxl : xs.length = gl := by simpa using ho3.1
    have HXL := Bas.hid hxl;have HF : Hid (formL bs gl size = some [⟨0, (gl : Int) - 1, xs⟩]) := by unfold Hid; rw [HFR.out, hls]; rfl
    have HO3 := Bas.hid (Row.owned_base ho3 hw23);have c0 := cell_of_heap (i := 1) kT3 rfl;have f0 := free_of_heap (i := 1) kT3;have lT3 := heap_lt kT3;clear ho3 hls kT hxl;go_wp2_with (fail);have q5 := heap_set (i := 1) kT3 (.slice (some ⟨w3.heap.size, 0, none⟩) 1 1);have HO4 := Bas.hid (Row.owned_keep HO3.out (w' := w3.setCell ⟨T, 1, none⟩ (.slice (some ⟨w3.heap.size, 0, none⟩) 1 1)) fun g hg => Below.heap_setCell _ _ _ _ (fun e => own_ty HO3.out kT3 (by decide) (by rw [hg, e])))
    have HB4 := Bas.hid (HB3.out.setCell (p := ⟨T, 1, none⟩) hwT (.slice (some ⟨w3.heap.size, 0, none⟩) 1 1));have hs4 : (w3.setCell ⟨T, 1, none⟩ (.slice (some ⟨w3.heap.size, 0, none⟩) 1 1)).heap.size = w3.heap.size := by simp
    have hw3 : w.heap.size ≤ w3.heap.size := HB3.out.size;clear kT3 c0 f0 lT3;generalize w3.setCell ⟨T, 1, none⟩ (.slice (some ⟨w3.heap.size, 0, none⟩) 1 1) = w4 at *;have q6 := Bas.heap_new w4 (.cells #[.int .i64 0, .int .i64 ((gl : Int) - 1), .slice av3 gl cv3] 220);rw [hs4] at q6;have hb4 := (Below.refl w4.heap.size w4).alloc (Nat.le_refl _) (.cells #[.int .i64 0, .int .i64 ((gl : Int) - 1), .slice av3 gl cv3] 220);have kT5 := (hb4.block _ (heap_lt q5)).trans q5;have HB5 := Bas.hid (HB4.out.trans (hb4.mono HB4.out.size));have HO5' := Bas.hid (Row.owned_below HO4.out hb4);generalize w4.alloc (.cells #[.int .i64 0, .int .i64 ((gl : Int) - 1), .slice av3 gl cv3] 220) = W5 at *;have HP5 : Hid (PRow W5 w.heap.size (.slice (some ⟨w3.heap.size, 0, none⟩) 1 1) [⟨0, (gl : Int) - 1, xs⟩] [.slice av3 gl cv3]) := by
     refine ⟨rfl, own_one (cs := [.int .i64 0, .int .i64 ((gl : Int) - 1), .slice av3 gl cv3]) q6 hw3 rfl, fun i q u' hq hu' => ?_⟩
     have hi0 : i = 0 := by
      have := (List.getElem?_eq_some_iff.1 hq).1;simpa using this
     subst hi0;simp at hq hu';subst hq hu';simp only [HXL.out];exact HO5'.out
    have kT6 : W5.heap[T]? = some (.cells #[.int .i64 0, .slice (some ⟨w3.heap.size, 0, none⟩) 1 1] 217 (0, 0)) := kT5;have HYES : Hid (parseLk bs gl size = some [⟨0, (gl : Int) - 1, xs⟩]) := by
     unfold Hid parseLk;rw [if_pos HL2.out, HF.out]; rfl
    have HAT := Bas.hid (lkLives_of (a := w.heap.size) kT6 HP5.out (by first | exact hwT | omega) (by first | exact Nat.le_refl _ | exact hwT | omega))
    have t1 := cell_of_heap (i := 1) kT6 rfl;clear hb4 q5 q6 kT5;go_loopw [10] (fun vi wr => vi = .int .i64 1 ∧ wr = W5) (fun _ _ => 0)
    case atStart => exact ⟨rfl, rfl⟩
    case round =>
     obtain ⟨rfl, rfl⟩ := hrel;go_wp2_with (fail);go_ret;exact ⟨HB5.out, by rw [HYES.out]; exact ⟨_, rfl, HAT.out⟩⟩
  by_cases x2 : x = 2
  ·subst x2;have HFR : Hid (formL bs gl size = segsL bs false size) := by unfold Hid formL; rw [HX.out]; simp
   go_wp2_with (fail);generalize w1.alloc (.cells #[.int .i64 2, .slice none 0 0] 217) = w2 at *;obtain ⟨T, hT⟩ : ∃ T, w1.heap.size = T := ⟨_, rfl⟩;rw [hT] at kT hwT ⊢;clear hT hs2 c0 r0 r1 r2 lk2 lkr2 k2 kr2;have PC := Bas.hid (segs_false a len cap bs gl size w2 hl hc (HV.out.below HB2.out) hbl HS.out);clear k3 kr3;refine PC.out.mono ?_;rintro e w3 ⟨hb3, h3⟩;have kT3 := (hb3.block _ (heap_lt kT)).trans kT;have HB3 := Bas.hid (HB2.out.trans (hb3.mono HB2.out.size));have hw23 : w.heap.size ≤ w2.heap.size := HB2.out.size;clear hb3 PC;obtain ⟨r, hr⟩ : ∃ r, formL bs gl size = r := ⟨_, rfl⟩;rw [← HFR.out, hr] at h3;cases r with
   | none =>
    simp only at h3;subst h3;have HNO : Hid (parseLk bs gl size = none) := by unfold Hid parseLk; rw [if_pos HL2.out, hr]; rfl
    clear hr;go_wp2_with (fail);exact ⟨rfl, HB3.out, by rw [HNO.out]⟩
   | some ps =>
    simp only at h3;obtain ⟨v3, vs, rfl, hp3⟩ := h3;obtain ⟨av, cv, rfl⟩ := own_slice hp3.own;have HF := Bas.hid hr;have HP3 := Bas.hid (pRow_base hp3 hw23);have c0 := cell_of_heap (i := 1) kT3 rfl;have f0 := free_of_heap (i := 1) kT3;have lT3 := heap_lt kT3;clear hp3 hr kT;go_wp2_with (fail);have kT5 := heap_set (i := 1) kT3 (.slice av ps.length cv);have HP5 := Bas.hid (pRow_set (i := 1) HP3.out kT3 (by decide) (by decide) (.slice av ps.length cv))
    have HB5 := Bas.hid (HB3.out.setCell (p := ⟨T, 1, none⟩) hwT (.slice av ps.length cv));clear kT3 c0 f0 lT3;generalize w3.setCell ⟨T, 1, none⟩ (.slice av ps.length cv) = W5 at *;have kT5 : W5.heap[T]? = some (.cells #[.int .i64 2, .slice av ps.length cv] 217 (0, 0)) := kT5;obtain ⟨n5, hn5⟩ : ∃ n5, ps.length = n5 := ⟨_, rfl⟩;have HN5 := Bas.hid hn5;have hown5 := HP5.out.own;rw [hn5] at hown5 kT5 ⊢;have HO5 := Bas.hid hown5;have hn63 : n5 ≤ 9223372036854775807 := by have h1 := (own_cap hown5).2; have h2 := h1.1; have h3 := h1.2; unfold maxLen at h3; omega
    clear hown5 hn5;have t0 := cell_of_heap (i := 1) kT5 rfl;go_loopw [10] (fun vi wr => ∃ j : Nat, 1 ≤ j ∧ (j ≤ n5 ∨ j = 1) ∧ vi = .int .i64 j ∧ (∀ i p q, i + 1 < j → ps[i]? = some p → ps[i + 1]? = some q → p.last < q.first) ∧ Below W5.heap.size W5 wr) (fun vi _ => n5 + 1 - (intOf vi).toNat)
    case atStart => exact ⟨1, by omega, .inr rfl, rfl, fun i p q h => by omega, Below.refl _ _⟩
    case round =>
     obtain ⟨j, hj1, hj2, rfl, hris, hb6⟩ := hrel;have HRIS := Bas.hid hris;have HB6 := Bas.hid hb6;have kT6 := (hb6.block _ (heap_lt kT5)).trans kT5;have t1 := cell_of_heap (i := 1) kT6 rfl;have lT6 := heap_lt kT6;clear hris hb6 t0;by_cases hjn : j < n5
     ·have e1 : decide ((j : Int) < (n5 : Int)) = true := by simp; omega
      obtain ⟨i, hi⟩ : ∃ i, j = i + 1 := ⟨j - 1, by omega⟩
      obtain ⟨p, hp⟩ : ∃ p, ps[i]? = some p := ⟨_, List.getElem?_eq_getElem (by rw [HN5.out]; omega)⟩
      obtain ⟨q, hq⟩ : ∃ q, ps[j]? = some q := ⟨_, List.getElem?_eq_getElem (by rw [HN5.out]; exact hjn)⟩
      obtain ⟨up, hup⟩ : ∃ u, vs[i]? = some u := ⟨_, List.getElem?_eq_getElem (by rw [HP5.out.len, HN5.out]; omega)⟩
      obtain ⟨uq, huq⟩ : ∃ u, vs[j]? = some u := ⟨_, List.getElem?_eq_getElem (by rw [HP5.out.len, HN5.out]; exact hjn)⟩
      have hL := Row.leads_below (Row.leads_owned HO5.out) HB6.out;have hz1 : (ps.zip vs)[i]? = some (p, up) := List.getElem?_zip_eq_some.2 ⟨hp, hup⟩;have hz2 : (ps.zip vs)[j]? = some (q, uq) := List.getElem?_zip_eq_some.2 ⟨hq, huq⟩;obtain ⟨B1, O1, cp1, hv1, hcl1⟩ := Row.leads_elem prC_len hL hz1 (by omega)
      obtain ⟨B2, O2, cp2, hv2, hcl2⟩ := Row.leads_elem prC_len hL hz2 (by omega)
      cases hv1;cases hv2;have d1 := hcl1 1 _ rfl;have d0 := hcl2 0 _ rfl;simp only [Nat.add_zero] at d0 d1
      have lB : B1 < wr.heap.size := World.block_lt_of_cell? _ _ d1;have e3 : (j : Int) - 1 = (i : Int) := by omega
      have e4 : decide ((i : Int) < (n5 : Int)) = true := by simp; omega
      have hin : i < n5 := by omega
      have HPI := Bas.hid hp;have hqi : ps[i + 1]? = some q := by rw [← hi]; exact hq
      have HQI := Bas.hid hqi;have HJ := Bas.hid hi;obtain ⟨pl, hpl⟩ : ∃ pl, p.last = pl := ⟨_, rfl⟩;obtain ⟨qf, hqf⟩ : ∃ qf, q.first = qf := ⟨_, rfl⟩;rw [hpl] at d1;rw [hqf] at d0;have HPLL := Bas.hid hpl;have HQF := Bas.hid hqf;clear hL hcl1 hcl2 hz1 hz2 hp hq hup huq hi hpl hqf hqi;by_cases hr : pl < qf
      ·have dr : decide (pl < qf) = true := decide_eq_true hr;have HRR := Bas.hid hr;clear hr;go_wp2_with (fail);refine' Pl.region_v0 116 [] [0, 1, 2, 3, 4, 5, 6, 7, 8, 9, 10, 11, 12, 13, 14, 15, 16, 17, 18] [] _ (by kernel_rfl) (by kernel_rfl) (by simp) (fun _ _ _ _ e h => ⟨e ▸ h.1, h.2⟩) ?_ ?_
       rotate_left
       ·intro I F hI hF;simp only [Pl.selN, List.nil_append, List.drop_succ_cons, List.drop_zero];have x0 := fun i => hF.cell lT6 t1 i
        have x1 := fun i => hF.cell lB d1 i
        have x2 := fun i => hF.cell lB d0 i
        repeat (go_big_quiet_step ((go_at_call 51; first | exact hF.same (need_yes _) | exact hF.same (need_yesb _ _ dr))))
        refine wpQuiet_nil ?_;rfl
       intro w7 hw7;simp only [Pl.selN];have HB7 := Bas.hid (HB6.out.trans (hw7.mono HB6.out.size));have HRIS2 : Hid (∀ i' p' q', i' + 1 < j + 1 → ps[i']? = some p' → ps[i' + 1]? = some q' → p'.last < q'.first) := fun i' p' q' h hp' hq' => by
        by_cases h' : i' + 1 < j
        ·exact HRIS.out i' p' q' h' hp' hq'
        ·have e : i' = i := by have := HJ.out; omega
         subst e;rw [HPI.out] at hp';rw [HQI.out] at hq';cases hp';cases hq';rw [HPLL.out, HQF.out];exact HRR.out
       clear hw7 d0 d1 dr;go_wp2_with (fail);go_roundw
       case rel => exact ⟨j + 1, by omega, .inl (by omega), by go_num, HRIS2.out, HB7.out⟩
       case measure => simp [intOf]; omega
      ·have dr : decide (pl < qf) = false := decide_eq_false hr;have HNO : Hid (parseLk bs gl size = none) := by
        unfold Hid parseLk;rw [if_pos HL2.out, HF.out, Option.bind_some, if_neg];intro h;have := (rises_iff ps).1 h i p q HPI.out HQI.out;rw [HPLL.out, HQF.out] at this;exact hr this
       clear hr;go_wp2_with (fail);refine' Pl.region_vh 116 [] [0, 1, 2, 3, 4, 5, 6, 7, 8, 9, 10, 11, 12, 13, 14, 15, 16, 17] [] 18 114 [] _ (fun ch w' => ch = short ∧ Below w.heap.size w w') (by kernel_rfl) (by kernel_rfl) (by kernel_rfl) (by simp) (fun _ _ _ _ e h => ⟨e ▸ h.1, h.2⟩) ?_ ?_ ?_ ?_
       rotate_left
       ·intro I F hI hF;simp only [Pl.selN, List.nil_append, List.drop_succ_cons, List.drop_zero];have x0 := fun i => hF.cell lT6 t1 i
        have x1 := fun i => hF.cell lB d1 i
        have x2 := fun i => hF.cell lB d0 i
        repeat (go_big_quiet_step (fail))
        refine wpQuiet_nil ?_;rfl
       ·simp only [Pl.selN, List.drop_succ_cons, List.drop_zero, List.mem_singleton, forall_eq];intro u hu
        go_simp
        simp only [Pl.valsAt];have hbu := HB5.out.trans ((HB6.out.trans (hu.mono HB6.out.size)).mono HB5.out.size);refine (need_no u).mono ?_;rintro e w'' ⟨he, hb⟩;exact .inr ⟨short, he, rfl, by rw [← hb]; exact hbu⟩
       ·intro z hz;cases hz
       ·rintro c' a' u hd ⟨rfl, hb⟩;exact ⟨hd, hb, by rw [HNO.out]⟩
     ·have e1 : decide ((j : Int) < (n5 : Int)) = false := by simp; omega
      have e2 : decide (j < n5) = false := by simp; omega
      have e3 : ¬ (j : Int) < (n5 : Int) := by omega
      have HYES : Hid (parseLk bs gl size = some ps) := by
       unfold Hid parseLk;rw [if_pos HL2.out, HF.out, Option.bind_some, if_pos];rw [rises_iff];intro i p q hp hq;refine HRIS.out i p q ?_ hp hq;have := (List.getElem?_eq_some_iff.1 hq).1;rw [HN5.out] at this;omega
      have HBE := Bas.hid (HB5.out.trans (HB6.out.mono HB5.out.size));have HAT : Hid (Lives w.heap.size (fun u => LkAt u (.pointer (some ⟨T, 0, none⟩)) ps) wr) := by
       have h := pRow_below HP5.out HB6.out;rw [HN5.out] at h;exact lkLives_of kT6 h (by first | exact hwT | omega) (by first | exact Nat.le_refl _ | exact hwT | omega)
      go_wp2_with (fail);go_ret;exact ⟨HBE.out, by rw [HYES.out]; exact ⟨_, rfl, HAT.out⟩⟩
  by_cases x4 : x = 4
  ·subst x4;have HFR : Hid (formL bs gl size = segsL bs true size) := by unfold Hid formL; rw [HX.out]; simp
   go_wp2_with (fail);generalize w1.alloc (.cells #[.int .i64 4, .slice none 0 0] 217) = w2 at *;obtain ⟨T, hT⟩ : ∃ T, w1.heap.size = T := ⟨_, rfl⟩;rw [hT] at kT hwT ⊢;clear hT hs2 c0 r0 r1 r2 lk2 lkr2 k2 kr2;have PC := Bas.hid (segs_true a len cap bs gl size w2 hl hc (HV.out.below HB2.out) hbl HS.out);clear k3 kr3;refine PC.out.mono ?_;rintro e w3 ⟨hb3, h3⟩;have kT3 := (hb3.block _ (heap_lt kT)).trans kT;have HB3 := Bas.hid (HB2.out.trans (hb3.mono HB2.out.size));have hw23 : w.heap.size ≤ w2.heap.size := HB2.out.size;clear hb3 PC;obtain ⟨r, hr⟩ : ∃ r, formL bs gl size = r := ⟨_, rfl⟩;rw [← HFR.out, hr] at h3;cases r with
   | none =>
    simp only at h3;subst h3;have HNO : Hid (parseLk bs gl size = none) := by unfold Hid parseLk; rw [if_pos HL2.out, hr]; rfl
    clear hr;go_wp2_with (fail);exact ⟨rfl, HB3.out, by rw [HNO.out]⟩
   | some ps =>
    simp only at h3;obtain ⟨v3, vs, rfl, hp3⟩ := h3;obtain ⟨av, cv, rfl⟩ := own_slice hp3.own;have HF := Bas.hid hr;have HP3 := Bas.hid (pRow_base hp3 hw23);have c0 := cell_of_heap (i := 1) kT3 rfl;have f0 := free_of_heap (i := 1) kT3;have lT3 := heap_lt kT3;clear hp3 hr kT;go_wp2_with (fail);have kT5 := heap_set (i := 1) kT3 (.slice av ps.length cv);have HP5 := Bas.hid (pRow_set (i := 1) HP3.out kT3 (by decide) (by decide) (.slice av ps.length cv))
    have HB5 := Bas.hid (HB3.out.setCell (p := ⟨T, 1, none⟩) hwT (.slice av ps.length cv));clear kT3 c0 f0 lT3;generalize w3.setCell ⟨T, 1, none⟩ (.slice av ps.length cv) = W5 at *;have kT5 : W5.heap[T]? = some (.cells #[.int .i64 4, .slice av ps.length cv] 217 (0, 0)) := kT5;obtain ⟨n5, hn5⟩ : ∃ n5, ps.length = n5 := ⟨_, rfl⟩;have HN5 := Bas.hid hn5;have hown5 := HP5.out.own;rw [hn5] at hown5 kT5 ⊢;have HO5 := Bas.hid hown5;have hn63 : n5 ≤ 9223372036854775807 := by have h1 := (own_cap hown5).2; have h2 := h1.1; have h3 := h1.2; unfold maxLen at h3; omega
    clear hown5 hn5;have t0 := cell_of_heap (i := 1) kT5 rfl;go_loopw [10] (fun vi wr => ∃ j : Nat, 1 ≤ j ∧ (j ≤ n5 ∨ j = 1) ∧ vi = .int .i64 j ∧ (∀ i p q, i + 1 < j → ps[i]? = some p → ps[i + 1]? = some q → p.last < q.first) ∧ Below W5.heap.size W5 wr) (fun vi _ => n5 + 1 - (intOf vi).toNat)
    case atStart => exact ⟨1, by omega, .inr rfl, rfl, fun i p q h => by omega, Below.refl _ _⟩
    case round =>
     obtain ⟨j, hj1, hj2, rfl, hris, hb6⟩ := hrel;have HRIS := Bas.hid hris;have HB6 := Bas.hid hb6;have kT6 := (hb6.block _ (heap_lt kT5)).trans kT5;have t1 := cell_of_heap (i := 1) kT6 rfl;have lT6 := heap_lt kT6;clear hris hb6 t0;by_cases hjn : j < n5
     ·have e1 : decide ((j : Int) < (n5 : Int)) = true := by simp; omega
      obtain ⟨i, hi⟩ : ∃ i, j = i + 1 := ⟨j - 1, by omega⟩
      obtain ⟨p, hp⟩ : ∃ p, ps[i]? = some p := ⟨_, List.getElem?_eq_getElem (by rw [HN5.out]; omega)⟩
      obtain ⟨q, hq⟩ : ∃ q, ps[j]? = some q := ⟨_, List.getElem?_eq_getElem (by rw [HN5.out]; exact hjn)⟩
      obtain ⟨up, hup⟩ : ∃ u, vs[i]? = some u := ⟨_, List.getElem?_eq_getElem (by rw [HP5.out.len, HN5.out]; omega)⟩
      obtain ⟨uq, huq⟩ : ∃ u, vs[j]? = some u := ⟨_, List.getElem?_eq_getElem (by rw [HP5.out.len, HN5.out]; exact hjn)⟩
      have hL := Row.leads_below (Row.leads_owned HO5.out) HB6.out;have hz1 : (ps.zip vs)[i]? = some (p, up) := List.getElem?_zip_eq_some.2 ⟨hp, hup⟩;have hz2 : (ps.zip vs)[j]? = some (q, uq) := List.getElem?_zip_eq_some.2 ⟨hq, huq⟩;obtain ⟨B1, O1, cp1, hv1, hcl1⟩ := Row.leads_elem prC_len hL hz1 (by omega)
      obtain ⟨B2, O2, cp2, hv2, hcl2⟩ := Row.leads_elem prC_len hL hz2 (by omega)
      cases hv1;cases hv2;have d1 := hcl1 1 _ rfl;have d0 := hcl2 0 _ rfl;simp only [Nat.add_zero] at d0 d1
      have lB : B1 < wr.heap.size := World.block_lt_of_cell? _ _ d1;have e3 : (j : Int) - 1 = (i : Int) := by omega
      have e4 : decide ((i : Int) < (n5 : Int)) = true := by simp; omega
      have hin : i < n5 := by omega
      have HPI := Bas.hid hp;have hqi : ps[i + 1]? = some q := by rw [← hi]; exact hq
      have HQI := Bas.hid hqi;have HJ := Bas.hid hi;obtain ⟨pl, hpl⟩ : ∃ pl, p.last = pl := ⟨_, rfl⟩;obtain ⟨qf, hqf⟩ : ∃ qf, q.first = qf := ⟨_, rfl⟩;rw [hpl] at d1;rw [hqf] at d0;have HPLL := Bas.hid hpl;have HQF := Bas.hid hqf;clear hL hcl1 hcl2 hz1 hz2 hp hq hup huq hi hpl hqf hqi;by_cases hr : pl < qf
      ·have dr : decide (pl < qf) = true := decide_eq_true hr;have HRR := Bas.hid hr;clear hr;go_wp2_with (fail);refine' Pl.region_v0 116 [] [0, 1, 2, 3, 4, 5, 6, 7, 8, 9, 10, 11, 12, 13, 14, 15, 16, 17, 18] [] _ (by kernel_rfl) (by kernel_rfl) (by simp) (fun _ _ _ _ e h => ⟨e ▸ h.1, h.2⟩) ?_ ?_
       rotate_left
       ·intro I F hI hF;simp only [Pl.selN, List.nil_append, List.drop_succ_cons, List.drop_zero];have x0 := fun i => hF.cell lT6 t1 i
        have x1 := fun i => hF.cell lB d1 i
        have x2 := fun i => hF.cell lB d0 i
        repeat (go_big_quiet_step ((go_at_call 51; first | exact hF.same (need_yes _) | exact hF.same (need_yesb _ _ dr))))
        refine wpQuiet_nil ?_;rfl
       intro w7 hw7;simp only [Pl.selN];have HB7 := Bas.hid (HB6.out.trans (hw7.mono HB6.out.size));have HRIS2 : Hid (∀ i' p' q', i' + 1 < j + 1 → ps[i']? = some p' → ps[i' + 1]? = some q' → p'.last < q'.first) := fun i' p' q' h hp' hq' => by
        by_cases h' : i' + 1 < j
        ·exact HRIS.out i' p' q' h' hp' hq'
        ·have e : i' = i := by have := HJ.out; omega
         subst e;rw [HPI.out] at hp';rw [HQI.out] at hq';cases hp';cases hq';rw [HPLL.out, HQF.out];exact HRR.out
       clear hw7 d0 d1 dr;go_wp2_with (fail);go_roundw
       case rel => exact ⟨j + 1, by omega, .inl (by omega), by go_num, HRIS2.out, HB7.out⟩
       case measure => simp [intOf]; omega
      ·have dr : decide (pl < qf) = false := decide_eq_false hr;have HNO : Hid (parseLk bs gl size = none) := by
        unfold Hid parseLk;rw [if_pos HL2.out, HF.out, Option.bind_some, if_neg];intro h;have := (rises_iff ps).1 h i p q HPI.out HQI.out;rw [HPLL.out, HQF.out] at this;exact hr this
       clear hr;go_wp2_with (fail);refine' Pl.region_vh 116 [] [0, 1, 2, 3, 4, 5, 6, 7, 8, 9, 10, 11, 12, 13, 14, 15, 16, 17] [] 18 114 [] _ (fun ch w' => ch = short ∧ Below w.heap.size w w') (by kernel_rfl) (by kernel_rfl) (by kernel_rfl) (by simp) (fun _ _ _ _ e h => ⟨e ▸ h.1, h.2⟩) ?_ ?_ ?_ ?_
       rotate_left
       ·intro I F hI hF;simp only [Pl.selN, List.nil_append, List.drop_succ_cons, List.drop_zero];have x0 := fun i => hF.cell lT6 t1 i
        have x1 := fun i => hF.cell lB d1 i
        have x2 := fun i => hF.cell lB d0 i
        repeat (go_big_quiet_step (fail))
        refine wpQuiet_nil ?_;rfl
       ·simp only [Pl.selN, List.drop_succ_cons, List.drop_zero, List.mem_singleton, forall_eq];intro u hu
        go_simp
        simp only [Pl.valsAt];have hbu := HB5.out.trans ((HB6.out.trans (hu.mono HB6.out.size)).mono HB5.out.size);refine (need_no u).mono ?_;rintro e w'' ⟨he, hb⟩;exact .inr ⟨short, he, rfl, by rw [← hb]; exact hbu⟩
       ·intro z hz;cases hz
       ·rintro c' a' u hd ⟨rfl, hb⟩;exact ⟨hd, hb, by rw [HNO.out]⟩
     ·have e1 : decide ((j : Int) < (n5 : Int)) = false := by simp; omega
      have e2 : decide (j < n5) = false := by simp; omega
      have e3 : ¬ (j : Int) < (n5 : Int) := by omega
      have HYES : Hid (parseLk bs gl size = some ps) := by
       unfold Hid parseLk;rw [if_pos HL2.out, HF.out, Option.bind_some, if_pos];rw [rises_iff];intro i p q hp hq;refine HRIS.out i p q ?_ hp hq;have := (List.getElem?_eq_some_iff.1 hq).1;rw [HN5.out] at this;omega
      have HBE := Bas.hid (HB5.out.trans (HB6.out.mono HB5.out.size));have HAT : Hid (Lives w.heap.size (fun u => LkAt u (.pointer (some ⟨T, 0, none⟩)) ps) wr) := by
       have h := pRow_below HP5.out HB6.out;rw [HN5.out] at h;exact lkLives_of kT6 h (by first | exact hwT | omega) (by first | exact Nat.le_refl _ | exact hwT | omega)
      go_wp2_with (fail);go_ret;exact ⟨HBE.out, by rw [HYES.out]; exact ⟨_, rfl, HAT.out⟩⟩
  by_cases x6 : x = 6
  ·subst x6;have HFR : Hid (formL bs gl size = singL bs size) := by unfold Hid formL; rw [HX.out]; simp
   go_wp2_with (fail);generalize w1.alloc (.cells #[.int .i64 6, .slice none 0 0] 217) = w2 at *;obtain ⟨T, hT⟩ : ∃ T, w1.heap.size = T := ⟨_, rfl⟩;rw [hT] at kT hwT ⊢;clear hT hs2 c0 r0 r1 r2 lk2 lkr2 k2 kr2;have PC := Bas.hid (single_any a len cap bs gl size w2 hl hc (HV.out.below HB2.out) hbl HS.out);clear k3 kr3;refine PC.out.mono ?_;rintro e w3 ⟨hb3, h3⟩;have kT3 := (hb3.block _ (heap_lt kT)).trans kT;have HB3 := Bas.hid (HB2.out.trans (hb3.mono HB2.out.size));have hw23 : w.heap.size ≤ w2.heap.size := HB2.out.size;clear hb3 PC;obtain ⟨r, hr⟩ : ∃ r, formL bs gl size = r := ⟨_, rfl⟩;rw [← HFR.out, hr] at h3;cases r with
   | none =>
    simp only at h3;subst h3;have HNO : Hid (parseLk bs gl size = none) := by unfold Hid parseLk; rw [if_pos HL2.out, hr]; rfl
    clear hr;go_wp2_with (fail);exact ⟨rfl, HB3.out, by rw [HNO.out]⟩
   | some ps =>
    simp only at h3;obtain ⟨v3, vs, rfl, hp3⟩ := h3;obtain ⟨av, cv, rfl⟩ := own_slice hp3.own;have HF := Bas.hid hr;have HP3 := Bas.hid (pRow_base hp3 hw23);have c0 := cell_of_heap (i := 1) kT3 rfl;have f0 := free_of_heap (i := 1) kT3;have lT3 := heap_lt kT3;clear hp3 hr kT;go_wp2_with (fail);have kT5 := heap_set (i := 1) kT3 (.slice av ps.length cv);have HP5 := Bas.hid (pRow_set (i := 1) HP3.out kT3 (by decide) (by decide) (.slice av ps.length cv))
    have HB5 := Bas.hid (HB3.out.setCell (p := ⟨T, 1, none⟩) hwT (.slice av ps.length cv));clear kT3 c0 f0 lT3;generalize w3.setCell ⟨T, 1, none⟩ (.slice av ps.length cv) = W5 at *;have kT5 : W5.heap[T]? = some (.cells #[.int .i64 6, .slice av ps.length cv] 217 (0, 0)) := kT5;obtain ⟨n5, hn5⟩ : ∃ n5, ps.length = n5 := ⟨_, rfl⟩;have HN5 := Bas.hid hn5;have hown5 := HP5.out.own;rw [hn5] at hown5 kT5 ⊢;have HO5 := Bas.hid hown5;have hn63 : n5 ≤ 9223372036854775807 := by have h1 := (own_cap hown5).2; have h2 := h1.1; have h3 := h1.2; unfold maxLen at h3; omega
    clear hown5 hn5;have t0 := cell_of_heap (i := 1) kT5 rfl;go_loopw [10] (fun vi wr => ∃ j : Nat, 1 ≤ j ∧ (j ≤ n5 ∨ j = 1) ∧ vi = .int .i64 j ∧ (∀ i p q, i + 1 < j → ps[i]? = some p → ps[i + 1]? = some q → p.last < q.first) ∧ Below W5.heap.size W5 wr) (fun vi _ => n5 + 1 - (intOf vi).toNat)
    case atStart => exact ⟨1, by omega, .inr rfl, rfl, fun i p q h => by omega, Below.refl _ _⟩
    case round =>
     obtain ⟨j, hj1, hj2, rfl, hris, hb6⟩ := hrel;have HRIS := Bas.hid hris;have HB6 := Bas.hid hb6;have kT6 := (hb6.block _ (heap_lt kT5)).trans kT5;have t1 := cell_of_heap (i := 1) kT6 rfl;have lT6 := heap_lt kT6;clear hris hb6 t0;by_cases hjn : j < n5
     ·have e1 : decide ((j : Int) < (n5 : Int)) = true := by simp; omega
      obtain ⟨i, hi⟩ : ∃ i, j = i + 1 := ⟨j - 1, by omega⟩
      obtain ⟨p, hp⟩ : ∃ p, ps[i]? = some p := ⟨_, List.getElem?_eq_getElem (by rw [HN5.out]; omega)⟩
      obtain ⟨q, hq⟩ : ∃ q, ps[j]? = some q := ⟨_, List.getElem?_eq_getElem (by rw [HN5.out]; exact hjn)⟩
      obtain ⟨up, hup⟩ : ∃ u, vs[i]? = some u := ⟨_, List.getElem?_eq_getElem (by rw [HP5.out.len, HN5.out]; omega)⟩
      obtain ⟨uq, huq⟩ : ∃ u, vs[j]? = some u := ⟨_, List.getElem?_eq_getElem (by rw [HP5.out.len, HN5.out]; exact hjn)⟩
      have hL := Row.leads_below (Row.leads_owned HO5.out) HB6.out;have hz1 : (ps.zip vs)[i]? = some (p, up) := List.getElem?_zip_eq_some.2 ⟨hp, hup⟩;have hz2 : (ps.zip vs)[j]? = some (q, uq) := List.getElem?_zip_eq_some.2 ⟨hq, huq⟩;obtain ⟨B1, O1, cp1, hv1, hcl1⟩ := Row.leads_elem prC_len hL hz1 (by omega)
      obtain ⟨B2, O2, cp2, hv2, hcl2⟩ := Row.leads_elem prC_len hL hz2 (by omega)
      cases hv1;cases hv2;have d1 := hcl1 1 _ rfl;have d0 := hcl2 0 _ rfl;simp only [Nat.add_zero] at d0 d1
      have lB : B1 < wr.heap.size := World.block_lt_of_cell? _ _ d1;have e3 : (j : Int) - 1 = (i : Int) := by omega
      have e4 : decide ((i : Int) < (n5 : Int)) = true := by simp; omega
      have hin : i < n5 := by omega
      have HPI := Bas.hid hp;have hqi : ps[i + 1]? = some q := by rw [← hi]; exact hq
      have HQI := Bas.hid hqi;have HJ := Bas.hid hi;obtain ⟨pl, hpl⟩ : ∃ pl, p.last = pl := ⟨_, rfl⟩;obtain ⟨qf, hqf⟩ : ∃ qf, q.first = qf := ⟨_, rfl⟩;rw [hpl] at d1;rw [hqf] at d0;have HPLL := Bas.hid hpl;have HQF := Bas.hid hqf;clear hL hcl1 hcl2 hz1 hz2 hp hq hup huq hi hpl hqf hqi;by_cases hr : pl < qf
      ·have dr : decide (pl < qf) = true := decide_eq_true hr;have HRR := Bas.hid hr;clear hr;go_wp2_with (fail);refine' Pl.region_v0 116 [] [0, 1, 2, 3, 4, 5, 6, 7, 8, 9, 10, 11, 12, 13, 14, 15, 16, 17, 18] [] _ (by kernel_rfl) (by kernel_rfl) (by simp) (fun _ _ _ _ e h => ⟨e ▸ h.1, h.2⟩) ?_ ?_
       rotate_left
       ·intro I F hI hF;simp only [Pl.selN, List.nil_append, List.drop_succ_cons, List.drop_zero];have x0 := fun i => hF.cell lT6 t1 i
        have x1 := fun i => hF.cell lB d1 i
        have x2 := fun i => hF.cell lB d0 i
        repeat (go_big_quiet_step ((go_at_call 51; first | exact hF.same (need_yes _) | exact hF.same (need_yesb _ _ dr))))
        refine wpQuiet_nil ?_;rfl
       intro w7 hw7;simp only [Pl.selN];have HB7 := Bas.hid (HB6.out.trans (hw7.mono HB6.out.size));have HRIS2 : Hid (∀ i' p' q', i' + 1 < j + 1 → ps[i']? = some p' → ps[i' + 1]? = some q' → p'.last < q'.first) := fun i' p' q' h hp' hq' => by
        by_cases h' : i' + 1 < j
        ·exact HRIS.out i' p' q' h' hp' hq'
        ·have e : i' = i := by have := HJ.out; omega
         subst e;rw [HPI.out] at hp';rw [HQI.out] at hq';cases hp';cases hq';rw [HPLL.out, HQF.out];exact HRR.out
       clear hw7 d0 d1 dr;go_wp2_with (fail);go_roundw
       case rel => exact ⟨j + 1, by omega, .inl (by omega), by go_num, HRIS2.out, HB7.out⟩
       case measure => simp [intOf]; omega
      ·have dr : decide (pl < qf) = false := decide_eq_false hr;have HNO : Hid (parseLk bs gl size = none) := by
        unfold Hid parseLk;rw [if_pos HL2.out, HF.out, Option.bind_some, if_neg];intro h;have := (rises_iff ps).1 h i p q HPI.out HQI.out;rw [HPLL.out, HQF.out] at this;exact hr this
       clear hr;go_wp2_with (fail);refine' Pl.region_vh 116 [] [0, 1, 2, 3, 4, 5, 6, 7, 8, 9, 10, 11, 12, 13, 14, 15, 16, 17] [] 18 114 [] _ (fun ch w' => ch = short ∧ Below w.heap.size w w') (by kernel_rfl) (by kernel_rfl) (by kernel_rfl) (by simp) (fun _ _ _ _ e h => ⟨e ▸ h.1, h.2⟩) ?_ ?_ ?_ ?_
       rotate_left
       ·intro I F hI hF;simp only [Pl.selN, List.nil_append, List.drop_succ_cons, List.drop_zero];have x0 := fun i => hF.cell lT6 t1 i
        have x1 := fun i => hF.cell lB d1 i
        have x2 := fun i => hF.cell lB d0 i
        repeat (go_big_quiet_step (fail))
        refine wpQuiet_nil ?_;rfl
       ·simp only [Pl.selN, List.drop_succ_cons, List.drop_zero, List.mem_singleton, forall_eq];intro u hu
        go_simp
        simp only [Pl.valsAt];have hbu := HB5.out.trans ((HB6.out.trans (hu.mono HB6.out.size)).mono HB5.out.size);refine (need_no u).mono ?_;rintro e w'' ⟨he, hb⟩;exact .inr ⟨short, he, rfl, by rw [← hb]; exact hbu⟩
       ·intro z hz;cases hz
       ·rintro c' a' u hd ⟨rfl, hb⟩;exact ⟨hd, hb, by rw [HNO.out]⟩
     ·have e1 : decide ((j : Int) < (n5 : Int)) = false := by simp; omega
      have e2 : decide (j < n5) = false := by simp; omega
      have e3 : ¬ (j : Int) < (n5 : Int) := by omega
      have HYES : Hid (parseLk bs gl size = some ps) := by
       unfold Hid parseLk;rw [if_pos HL2.out, HF.out, Option.bind_some, if_pos];rw [rises_iff];intro i p q hp hq;refine HRIS.out i p q ?_ hp hq;have := (List.getElem?_eq_some_iff.1 hq).1;rw [HN5.out] at this;omega
      have HBE := Bas.hid (HB5.out.trans (HB6.out.mono HB5.out.size));have HAT : Hid (Lives w.heap.size (fun u => LkAt u (.pointer (some ⟨T, 0, none⟩)) ps) wr) := by
       have h := pRow_below HP5.out HB6.out;rw [HN5.out] at h;exact lkLives_of kT6 h (by first | exact hwT | omega) (by first | exact Nat.le_refl _ | exact hwT | omega)
      go_wp2_with (fail);go_ret;exact ⟨HBE.out, by rw [HYES.out]; exact ⟨_, rfl, HAT.out⟩⟩
  by_cases x8 : x = 8
  ·subst x8;have HFR : Hid (formL bs gl size = trimL bs 2 size) := by unfold Hid formL; rw [HX.out]; simp
   go_wp2_with (fail);generalize w1.alloc (.cells #[.int .i64 8, .slice none 0 0] 217) = w2 at *;obtain ⟨T, hT⟩ : ∃ T, w1.heap.size = T := ⟨_, rfl⟩;rw [hT] at kT hwT ⊢;clear hT hs2 c0 r0 r1 r2 lk2 lkr2 k2 kr2;have PC := Bas.hid (trimmed_any a len cap bs gl size 2 size w2 hl hc (HV.out.below HB2.out) hbl (by have := HS.out; omega) (by omega))
   clear k3 kr3;refine PC.out.mono ?_;rintro e w3 ⟨hb3, h3⟩;have kT3 := (hb3.block _ (heap_lt kT)).trans kT;have HB3 := Bas.hid (HB2.out.trans (hb3.mono HB2.out.size));have hw23 : w.heap.size ≤ w2.heap.size := HB2.out.size;clear hb3 PC;obtain ⟨r, hr⟩ : ∃ r, formL bs gl size = r := ⟨_, rfl⟩;rw [← HFR.out, hr] at h3;cases r with
   | none =>
    simp only at h3;subst h3;have HNO : Hid (parseLk bs gl size = none) := by unfold Hid parseLk; rw [if_pos HL2.out, hr]; rfl
    clear hr;go_wp2_with (fail);exact ⟨rfl, HB3.out, by rw [HNO.out]⟩
   | some ps =>
    simp only at h3;obtain ⟨v3, vs, rfl, hp3⟩ := h3;obtain ⟨av, cv, rfl⟩ := own_slice hp3.own;have HF := Bas.hid hr;have HP3 := Bas.hid (pRow_base hp3 hw23);have c0 := cell_of_heap (i := 1) kT3 rfl;have f0 := free_of_heap (i := 1) kT3;have lT3 := heap_lt kT3;clear hp3 hr kT;go_wp2_with (fail);have kT5 := heap_set (i := 1) kT3 (.slice av ps.length cv);have HP5 := Bas.hid (pRow_set (i := 1) HP3.out kT3 (by decide) (by decide) (.slice av ps.length cv))
    have HB5 := Bas.hid (HB3.out.setCell (p := ⟨T, 1, none⟩) hwT (.slice av ps.length cv));clear kT3 c0 f0 lT3;generalize w3.setCell ⟨T, 1, none⟩ (.slice av ps.length cv) = W5 at *;have kT5 : W5.heap[T]? = some (.cells #[.int .i64 8, .slice av ps.length cv] 217 (0, 0)) := kT5;obtain ⟨n5, hn5⟩ : ∃ n5, ps.length = n5 := ⟨_, rfl⟩;have HN5 := Bas.hid hn5;have hown5 := HP5.out.own;rw [hn5] at hown5 kT5 ⊢;have HO5 := Bas.hid hown5;have hn63 : n5 ≤ 9223372036854775807 := by have h1 := (own_cap hown5).2; have h2 := h1.1; have h3 := h1.2; unfold maxLen at h3; omega
    clear hown5 hn5;have t0 := cell_of_heap (i := 1) kT5 rfl;go_loopw [10] (fun vi wr => ∃ j : Nat, 1 ≤ j ∧ (j ≤ n5 ∨ j = 1) ∧ vi = .int .i64 j ∧ (∀ i p q, i + 1 < j → ps[i]? = some p → ps[i + 1]? = some q → p.last < q.first) ∧ Below W5.heap.size W5 wr) (fun vi _ => n5 + 1 - (intOf vi).toNat)
    case atStart => exact ⟨1, by omega, .inr rfl, rfl, fun i p q h => by omega, Below.refl _ _⟩
    case round =>
     obtain ⟨j, hj1, hj2, rfl, hris, hb6⟩ := hrel;have HRIS := Bas.hid hris;have HB6 := Bas.hid hb6;have kT6 := (hb6.block _ (heap_lt kT5)).trans kT5;have t1 := cell_of_heap (i := 1) kT6 rfl;have lT6 := heap_lt kT6;clear hris hb6 t0;by_cases hjn : j < n5
     ·have e1 : decide ((j : Int) < (n5 : Int)) = true := by simp; omega
      obtain ⟨i, hi⟩ : ∃ i, j = i + 1 := ⟨j - 1, by omega⟩
      obtain ⟨p, hp⟩ : ∃ p, ps[i]? = some p := ⟨_, List.getElem?_eq_getElem (by rw [HN5.out]; omega)⟩
      obtain ⟨q, hq⟩ : ∃ q, ps[j]? = some q := ⟨_, List.getElem?_eq_getElem (by rw [HN5.out]; exact hjn)⟩
      obtain ⟨up, hup⟩ : ∃ u, vs[i]? = some u := ⟨_, List.getElem?_eq_getElem (by rw [HP5.out.len, HN5.out]; omega)⟩
      obtain ⟨uq, huq⟩ : ∃ u, vs[j]? = some u := ⟨_, List.getElem?_eq_getElem (by rw [HP5.out.len, HN5.out]; exact hjn)⟩
      have hL := Row.leads_below (Row.leads_owned HO5.out) HB6.out;have hz1 : (ps.zip vs)[i]? = some (p, up) := List.getElem?_zip_eq_some.2 ⟨hp, hup⟩;have hz2 : (ps.zip vs)[j]? = some (q, uq) := List.getElem?_zip_eq_some.2 ⟨hq, huq⟩;obtain ⟨B1, O1, cp1, hv1, hcl1⟩ := Row.leads_elem prC_len hL hz1 (by omega)
      obtain ⟨B2, O2, cp2, hv2, hcl2⟩ := Row.leads_elem prC_len hL hz2 (by omega)
      cases hv1;cases hv2;have d1 := hcl1 1 _ rfl;have d0 := hcl2 0 _ rfl;simp only [Nat.add_zero] at d0 d1
      have lB : B1 < wr.heap.size := World.block_lt_of_cell? _ _ d1;have e3 : (j : Int) - 1 = (i : Int) := by omega
      have e4 : decide ((i : Int) < (n5 : Int)) = true := by simp; omega
      have hin : i < n5 := by omega
      have HPI := Bas.hid hp;have hqi : ps[i + 1]? = some q := by rw [← hi]; exact hq
      have HQI := Bas.hid hqi;have HJ := Bas.hid hi;obtain ⟨pl, hpl⟩ : ∃ pl, p.last = pl := ⟨_, rfl⟩;obtain ⟨qf, hqf⟩ : ∃ qf, q.first = qf := ⟨_, rfl⟩;rw [hpl] at d1;rw [hqf] at d0;have HPLL := Bas.hid hpl;have HQF := Bas.hid hqf;clear hL hcl1 hcl2 hz1 hz2 hp hq hup huq hi hpl hqf hqi;by_cases hr : pl < qf
      ·have dr : decide (pl < qf) = true := decide_eq_true hr;have HRR := Bas.hid hr;clear hr;go_wp2_with (fail);refine' Pl.region_v0 116 [] [0, 1, 2, 3, 4, 5, 6, 7, 8, 9, 10, 11, 12, 13, 14, 15, 16, 17, 18] [] _ (by kernel_rfl) (by kernel_rfl) (by simp) (fun _ _ _ _ e h => ⟨e ▸ h.1, h.2⟩) ?_ ?_
       rotate_left
       ·intro I F hI hF;simp only [Pl.selN, List.nil_append, List.drop_succ_cons, List.drop_zero];have x0 := fun i => hF.cell lT6 t1 i
        have x1 := fun i => hF.cell lB d1 i
        have x2 := fun i => hF.cell lB d0 i
        repeat (go_big_quiet_step ((go_at_call 51; first | exact hF.same (need_yes _) | exact hF.same (need_yesb _ _ dr))))
        refine wpQuiet_nil ?_;rfl
       intro w7 hw7;simp only [Pl.selN];have HB7 := Bas.hid (HB6.out.trans (hw7.mono HB6.out.size));have HRIS2 : Hid (∀ i' p' q', i' + 1 < j + 1 → ps[i']? = some p' → ps[i' + 1]? = some q' → p'.last < q'.first) := fun i' p' q' h hp' hq' => by
        by_cases h' : i' + 1 < j
        ·exact HRIS.out i' p' q' h' hp' hq'
        ·have e : i' = i := by have := HJ.out; omega
         subst e;rw [HPI.out] at hp';rw [HQI.out] at hq';cases hp';cases hq';rw [HPLL.out, HQF.out];exact HRR.out
       clear hw7 d0 d1 dr;go_wp2_with (fail);go_roundw
       case rel => exact ⟨j + 1, by omega, .inl (by omega), by go_num, HRIS2.out, HB7.out⟩
       case measure => simp [intOf]; omega
      ·have dr : decide (pl < qf) = false := decide_eq_false hr;have HNO : Hid (parseLk bs gl size = none) := by
        unfold Hid parseLk;rw [if_pos HL2.out, HF.out, Option.bind_some, if_neg];intro h;have := (rises_iff ps).1 h i p q HPI.out HQI.out;rw [HPLL.out, HQF.out] at this;exact hr this
       clear hr;go_wp2_with (fail);refine' Pl.region_vh 116 [] [0, 1, 2, 3, 4, 5, 6, 7, 8, 9, 10, 11, 12, 13, 14, 15, 16, 17] [] 18 114 [] _ (fun ch w' => ch = short ∧ Below w.heap.size w w') (by kernel_rfl) (by kernel_rfl) (by kernel_rfl) (by simp) (fun _ _ _ _ e h => ⟨e ▸ h.1, h.2⟩) ?_ ?_ ?_ ?_
       rotate_left
       ·intro I F hI hF;simp only [Pl.selN, List.nil_append, List.drop_succ_cons, List.drop_zero];have x0 := fun i => hF.cell lT6 t1 i
        have x1 := fun i => hF.cell lB d1 i
        have x2 := fun i => hF.cell lB d0 i
        repeat (go_big_quiet_step (fail))
        refine wpQuiet_nil ?_;rfl
       ·simp only [Pl.selN, List.drop_succ_cons, List.drop_zero, List.mem_singleton, forall_eq];intro u hu
        go_simp
        simp only [Pl.valsAt];have hbu := HB5.out.trans ((HB6.out.trans (hu.mono HB6.out.size)).mono HB5.out.size);refine (need_no u).mono ?_;rintro e w'' ⟨he, hb⟩;exact .inr ⟨short, he, rfl, by rw [← hb]; exact hbu⟩
       ·intro z hz;cases hz
       ·rintro c' a' u hd ⟨rfl, hb⟩;exact ⟨hd, hb, by rw [HNO.out]⟩
     ·have e1 : decide ((j : Int) < (n5 : Int)) = false := by simp; omega
      have e2 : decide (j < n5) = false := by simp; omega
      have e3 : ¬ (j : Int) < (n5 : Int) := by omega
      have HYES : Hid (parseLk bs gl size = some ps) := by
       unfold Hid parseLk;rw [if_pos HL2.out, HF.out, Option.bind_some, if_pos];rw [rises_iff];intro i p q hp hq;refine HRIS.out i p q ?_ hp hq;have := (List.getElem?_eq_some_iff.1 hq).1;rw [HN5.out] at this;omega
      have HBE := Bas.hid (HB5.out.trans (HB6.out.mono HB5.out.size));have HAT : Hid (Lives w.heap.size (fun u => LkAt u (.pointer (some ⟨T, 0, none⟩)) ps) wr) := by
       have h := pRow_below HP5.out HB6.out;rw [HN5.out] at h;exact lkLives_of kT6 h (by first | exact hwT | omega) (by first | exact Nat.le_refl _ | exact hwT | omega)
      go_wp2_with (fail);go_ret;exact ⟨HBE.out, by rw [HYES.out]; exact ⟨_, rfl, HAT.out⟩⟩
  by_cases x10 : x = 10
  ·subst x10;by_cases f4 : 4 ≤ len
   ·have HU4 := Bas.hid (fun (w' : World) (hb : Below w.heap.size w w') => u16_ok a len cap bs 2 w' hl hc (HV.out.below hb) hbl (by omega) (by omega))
    simp only [show Int.toNat 2 = 2 from rfl] at HU4
    have b2 := be_rng2 HV.out.byte 2;obtain ⟨un, hun⟩ : ∃ un, be bs 2 2 = un := ⟨_, rfl⟩;rw [hun] at HU4;have HUN := Bas.hid hun;clear b2 hun;by_cases hu : un = 1
    ·subst hu;have HFR : Hid (formL bs gl size = trimL bs 4 1) := by unfold Hid formL; rw [HX.out, HUN.out]; simp; omega
     have f4' := f4;go_wp2_with (fail);generalize w1.alloc (.cells #[.int .i64 10, .slice none 0 0] 217) = w2 at *;obtain ⟨T, hT⟩ : ∃ T, w1.heap.size = T := ⟨_, rfl⟩;rw [hT] at kT hwT ⊢;have HB22 := Bas.hid HB2.out;clear hT hs2 c0 r0 r1 r2 lk2 lkr2 k2 kr2;refine (HU4.out _ HB22.out).mono ?_;rintro e w2' ⟨rfl, hb22⟩;have kT' := (hb22.block _ (heap_lt kT)).trans kT;have kr3' := (hb22.block _ (heap_lt kr3)).trans kr3;have HB2' := Bas.hid (HB2.out.trans (hb22.mono HB2.out.size));have r0 := cell_of_heap (i := 0) (v := .slice a len cap) kr3' rfl;have r1 := cell_of_heap (i := 1) (v := .int .i64 gl) kr3' rfl;have r2 := cell_of_heap (i := 2) (v := .int .i64 size) kr3' rfl;clear hb22 kT kr3 k3 HB2 HB22 HU4;have kT := kT';have HB2 := HB2';clear kT' HB2';go_wp2_with (go_at_call 51; refine (need_yes _).mono ?_; rintro e w' ⟨rfl, rfl⟩);have PC := Bas.hid (trimmed_any a len cap bs gl size 4 1 w2' hl hc (HV.out.below HB2.out) hbl (by omega) (by omega))
     clear r0 r1 r2 kr3';refine PC.out.mono ?_;rintro e w3 ⟨hb3, h3⟩;have kT3 := (hb3.block _ (heap_lt kT)).trans kT;have HB3 := Bas.hid (HB2.out.trans (hb3.mono HB2.out.size));have hw23 : w.heap.size ≤ w2'.heap.size := HB2.out.size;clear hb3 PC;obtain ⟨r, hr⟩ : ∃ r, formL bs gl size = r := ⟨_, rfl⟩;rw [← HFR.out, hr] at h3;cases r with
     | none =>
      simp only at h3;subst h3;have HNO : Hid (parseLk bs gl size = none) := by unfold Hid parseLk; rw [if_pos HL2.out, hr]; rfl
      clear hr;go_wp2_with (fail);exact ⟨rfl, HB3.out, by rw [HNO.out]⟩
     | some ps =>
      simp only at h3;obtain ⟨v3, vs, rfl, hp3⟩ := h3;obtain ⟨av, cv, rfl⟩ := own_slice hp3.own;have HF := Bas.hid hr;have HP3 := Bas.hid (pRow_base hp3 hw23);have c0 := cell_of_heap (i := 1) kT3 rfl;have f0 := free_of_heap (i := 1) kT3;have lT3 := heap_lt kT3;clear hp3 hr kT;go_wp2_with (fail);have kT5 := heap_set (i := 1) kT3 (.slice av ps.length cv);have HP5 := Bas.hid (pRow_set (i := 1) HP3.out kT3 (by decide) (by decide) (.slice av ps.length cv))
      have HB5 := Bas.hid (HB3.out.setCell (p := ⟨T, 1, none⟩) hwT (.slice av ps.length cv));clear kT3 c0 f0 lT3;generalize w3.setCell ⟨T, 1, none⟩ (.slice av ps.length cv) = W5 at *;have kT5 : W5.heap[T]? = some (.cells #[.int .i64 10, .slice av ps.length cv] 217 (0, 0)) := kT5;obtain ⟨n5, hn5⟩ : ∃ n5, ps.length = n5 := ⟨_, rfl⟩;have HN5 := Bas.hid hn5;have hown5 := HP5.out.own;rw [hn5] at hown5 kT5 ⊢;have HO5 := Bas.hid hown5;have hn63 : n5 ≤ 9223372036854775807 := by have h1 := (own_cap hown5).2; have h2 := h1.1; have h3 := h1.2; unfold maxLen at h3; omega
      clear hown5 hn5;have t0 := cell_of_heap (i := 1) kT5 rfl;go_loopw [10] (fun vi wr => ∃ j : Nat, 1 ≤ j ∧ (j ≤ n5 ∨ j = 1) ∧ vi = .int .i64 j ∧ (∀ i p q, i + 1 < j → ps[i]? = some p → ps[i + 1]? = some q → p.last < q.first) ∧ Below W5.heap.size W5 wr) (fun vi _ => n5 + 1 - (intOf vi).toNat)
      case atStart => exact ⟨1, by omega, .inr rfl, rfl, fun i p q h => by omega, Below.refl _ _⟩
      case round =>
       obtain ⟨j, hj1, hj2, rfl, hris, hb6⟩ := hrel;have HRIS := Bas.hid hris;have HB6 := Bas.hid hb6;have kT6 := (hb6.block _ (heap_lt kT5)).trans kT5;have t1 := cell_of_heap (i := 1) kT6 rfl;have lT6 := heap_lt kT6;clear hris hb6 t0;by_cases hjn : j < n5
       ·have e1 : decide ((j : Int) < (n5 : Int)) = true := by simp; omega
        obtain ⟨i, hi⟩ : ∃ i, j = i + 1 := ⟨j - 1, by omega⟩
        obtain ⟨p, hp⟩ : ∃ p, ps[i]? = some p := ⟨_, List.getElem?_eq_getElem (by rw [HN5.out]; omega)⟩
        obtain ⟨q, hq⟩ : ∃ q, ps[j]? = some q := ⟨_, List.getElem?_eq_getElem (by rw [HN5.out]; exact hjn)⟩
        obtain ⟨up, hup⟩ : ∃ u, vs[i]? = some u := ⟨_, List.getElem?_eq_getElem (by rw [HP5.out.len, HN5.out]; omega)⟩
        obtain ⟨uq, huq⟩ : ∃ u, vs[j]? = some u := ⟨_, List.getElem?_eq_getElem (by rw [HP5.out.len, HN5.out]; exact hjn)⟩
        have hL := Row.leads_below (Row.leads_owned HO5.out) HB6.out;have hz1 : (ps.zip vs)[i]? = some (p, up) := List.getElem?_zip_eq_some.2 ⟨hp, hup⟩;have hz2 : (ps.zip vs)[j]? = some (q, uq) := List.getElem?_zip_eq_some.2 ⟨hq, huq⟩;obtain ⟨B1, O1, cp1, hv1, hcl1⟩ := Row.leads_elem prC_len hL hz1 (by omega)
        obtain ⟨B2, O2, cp2, hv2, hcl2⟩ := Row.leads_elem prC_len hL hz2 (by omega)
        cases hv1;cases hv2;have d1 := hcl1 1 _ rfl;have d0 := hcl2 0 _ rfl;simp only [Nat.add_zero] at d0 d1
        have lB : B1 < wr.heap.size := World.block_lt_of_cell? _ _ d1;have e3 : (j : Int) - 1 = (i : Int) := by omega
        have e4 : decide ((i : Int) < (n5 : Int)) = true := by simp; omega
        have hin : i < n5 := by omega
        have HPI := Bas.hid hp;have hqi : ps[i + 1]? = some q := by rw [← hi]; exact hq
        have HQI := Bas.hid hqi;have HJ := Bas.hid hi;obtain ⟨pl, hpl⟩ : ∃ pl, p.last = pl := ⟨_, rfl⟩;obtain ⟨qf, hqf⟩ : ∃ qf, q.first = qf := ⟨_, rfl⟩;rw [hpl] at d1;rw [hqf] at d0;have HPLL := Bas.hid hpl;have HQF := Bas.hid hqf;clear hL hcl1 hcl2 hz1 hz2 hp hq hup huq hi hpl hqf hqi;by_cases hr : pl < qf
        ·have dr : decide (pl < qf) = true := decide_eq_true hr;have HRR := Bas.hid hr;clear hr;go_wp2_with (fail);refine' Pl.region_v0 116 [] [0, 1, 2, 3, 4, 5, 6, 7, 8, 9, 10, 11, 12, 13, 14, 15, 16, 17, 18] [] _ (by kernel_rfl) (by kernel_rfl) (by simp) (fun _ _ _ _ e h => ⟨e ▸ h.1, h.2⟩) ?_ ?_
         rotate_left
         ·intro I F hI hF;simp only [Pl.selN, List.nil_append, List.drop_succ_cons, List.drop_zero];have x0 := fun i => hF.cell lT6 t1 i
          have x1 := fun i => hF.cell lB d1 i
          have x2 := fun i => hF.cell lB d0 i
          repeat (go_big_quiet_step ((go_at_call 51; first | exact hF.same (need_yes _) | exact hF.same (need_yesb _ _ dr))))
          refine wpQuiet_nil ?_;rfl
         intro w7 hw7;simp only [Pl.selN];have HB7 := Bas.hid (HB6.out.trans (hw7.mono HB6.out.size));have HRIS2 : Hid (∀ i' p' q', i' + 1 < j + 1 → ps[i']? = some p' → ps[i' + 1]? = some q' → p'.last < q'.first) := fun i' p' q' h hp' hq' => by
          by_cases h' : i' + 1 < j
          ·exact HRIS.out i' p' q' h' hp' hq'
          ·have e : i' = i := by have := HJ.out; omega
           subst e;rw [HPI.out] at hp';rw [HQI.out] at hq';cases hp';cases hq';rw [HPLL.out, HQF.out];exact HRR.out
         clear hw7 d0 d1 dr;go_wp2_with (fail);go_roundw
         case rel => exact ⟨j + 1, by omega, .inl (by omega), by go_num, HRIS2.out, HB7.out⟩
         case measure => simp [intOf]; omega
        ·have dr : decide (pl < qf) = false := decide_eq_false hr;have HNO : Hid (parseLk bs gl size = none) := by
          unfold Hid parseLk;rw [if_pos HL2.out, HF.out, Option.bind_some, if_neg];intro h;have := (rises_iff ps).1 h i p q HPI.out HQI.out;rw [HPLL.out, HQF.out] at this;exact hr this
         clear hr;go_wp2_with (fail);refine' Pl.region_vh 116 [] [0, 1, 2, 3, 4, 5, 6, 7, 8, 9, 10, 11, 12, 13, 14, 15, 16, 17] [] 18 114 [] _ (fun ch w' => ch = short ∧ Below w.heap.size w w') (by kernel_rfl) (by kernel_rfl) (by kernel_rfl) (by simp) (fun _ _ _ _ e h => ⟨e ▸ h.1, h.2⟩) ?_ ?_ ?_ ?_
         rotate_left
         ·intro I F hI hF;simp only [Pl.selN, List.nil_append, List.drop_succ_cons, List.drop_zero];have x0 := fun i => hF.cell lT6 t1 i
          have x1 := fun i => hF.cell lB d1 i
          have x2 := fun i => hF.cell lB d0 i
          repeat (go_big_quiet_step (fail))
          refine wpQuiet_nil ?_;rfl
         ·simp only [Pl.selN, List.drop_succ_cons, List.drop_zero, List.mem_singleton, forall_eq];intro u hu
          go_simp
          simp only [Pl.valsAt];have hbu := HB5.out.trans ((HB6.out.trans (hu.mono HB6.out.size)).mono HB5.out.size);refine (need_no u).mono ?_;rintro e w'' ⟨he, hb⟩;exact .inr ⟨short, he, rfl, by rw [← hb]; exact hbu⟩
         ·intro z hz;cases hz
         ·rintro c' a' u hd ⟨rfl, hb⟩;exact ⟨hd, hb, by rw [HNO.out]⟩
       ·have e1 : decide ((j : Int) < (n5 : Int)) = false := by simp; omega
        have e2 : decide (j < n5) = false := by simp; omega
        have e3 : ¬ (j : Int) < (n5 : Int) := by omega
        have HYES : Hid (parseLk bs gl size = some ps) := by
         unfold Hid parseLk;rw [if_pos HL2.out, HF.out, Option.bind_some, if_pos];rw [rises_iff];intro i p q hp hq;refine HRIS.out i p q ?_ hp hq;have := (List.getElem?_eq_some_iff.1 hq).1;rw [HN5.out] at this;omega
        have HBE := Bas.hid (HB5.out.trans (HB6.out.mono HB5.out.size));have HAT : Hid (Lives w.heap.size (fun u => LkAt u (.pointer (some ⟨T, 0, none⟩)) ps) wr) := by
         have h := pRow_below HP5.out HB6.out;rw [HN5.out] at h;exact lkLives_of kT6 h (by first | exact hwT | omega) (by first | exact Nat.le_refl _ | exact hwT | omega)
        go_wp2_with (fail);go_ret;exact ⟨HBE.out, by rw [HYES.out]; exact ⟨_, rfl, HAT.out⟩⟩
    have hu1 := hu;clear hu;by_cases hu : un = 2
    ·subst hu;have HFR : Hid (formL bs gl size = trimL bs 4 2) := by unfold Hid formL; rw [HX.out, HUN.out]; simp; omega
     have f4' := f4;go_wp2_with (fail);generalize w1.alloc (.cells #[.int .i64 10, .slice none 0 0] 217) = w2 at *;obtain ⟨T, hT⟩ : ∃ T, w1.heap.size = T := ⟨_, rfl⟩;rw [hT] at kT hwT ⊢;have HB22 := Bas.hid HB2.out;clear hT hs2 c0 r0 r1 r2 lk2 lkr2 k2 kr2;refine (HU4.out _ HB22.out).mono ?_;rintro e w2' ⟨rfl, hb22⟩;have kT' := (hb22.block _ (heap_lt kT)).trans kT;have kr3' := (hb22.block _ (heap_lt kr3)).trans kr3;have HB2' := Bas.hid (HB2.out.trans (hb22.mono HB2.out.size));have r0 := cell_of_heap (i := 0) (v := .slice a len cap) kr3' rfl;have r1 := cell_of_heap (i := 1) (v := .int .i64 gl) kr3' rfl;have r2 := cell_of_heap (i := 2) (v := .int .i64 size) kr3' rfl;clear hb22 kT kr3 k3 HB2 HB22 HU4;have kT := kT';have HB2 := HB2';clear kT' HB2';go_wp2_with (go_at_call 51; refine (need_yes _).mono ?_; rintro e w' ⟨rfl, rfl⟩);have PC := Bas.hid (trimmed_any a len cap bs gl size 4 2 w2' hl hc (HV.out.below HB2.out) hbl (by omega) (by omega))
     clear r0 r1 r2 kr3';refine PC.out.mono ?_;rintro e w3 ⟨hb3, h3⟩;have kT3 := (hb3.block _ (heap_lt kT)).trans kT;have HB3 := Bas.hid (HB2.out.trans (hb3.mono HB2.out.size));have hw23 : w.heap.size ≤ w2'.heap.size := HB2.out.size;clear hb3 PC;obtain ⟨r, hr⟩ : ∃ r, formL bs gl size = r := ⟨_, rfl⟩;rw [← HFR.out, hr] at h3;cases r with
     | none =>
      simp only at h3;subst h3;have HNO : Hid (parseLk bs gl size = none) := by unfold Hid parseLk; rw [if_pos HL2.out, hr]; rfl
      clear hr;go_wp2_with (fail);exact ⟨rfl, HB3.out, by rw [HNO.out]⟩
     | some ps =>
      simp only at h3;obtain ⟨v3, vs, rfl, hp3⟩ := h3;obtain ⟨av, cv, rfl⟩ := own_slice hp3.own;have HF := Bas.hid hr;have HP3 := Bas.hid (pRow_base hp3 hw23);have c0 := cell_of_heap (i := 1) kT3 rfl;have f0 := free_of_heap (i := 1) kT3;have lT3 := heap_lt kT3;clear hp3 hr kT;go_wp2_with (fail);have kT5 := heap_set (i := 1) kT3 (.slice av ps.length cv);have HP5 := Bas.hid (pRow_set (i := 1) HP3.out kT3 (by decide) (by decide) (.slice av ps.length cv))
      have HB5 := Bas.hid (HB3.out.setCell (p := ⟨T, 1, none⟩) hwT (.slice av ps.length cv));clear kT3 c0 f0 lT3;generalize w3.setCell ⟨T, 1, none⟩ (.slice av ps.length cv) = W5 at *;have kT5 : W5.heap[T]? = some (.cells #[.int .i64 10, .slice av ps.length cv] 217 (0, 0)) := kT5;obtain ⟨n5, hn5⟩ : ∃ n5, ps.length = n5 := ⟨_, rfl⟩;have HN5 := Bas.hid hn5;have hown5 := HP5.out.own;rw [hn5] at hown5 kT5 ⊢;have HO5 := Bas.hid hown5;have hn63 : n5 ≤ 9223372036854775807 := by have h1 := (own_cap hown5).2; have h2 := h1.1; have h3 := h1.2; unfold maxLen at h3; omega
      clear hown5 hn5;have t0 := cell_of_heap (i := 1) kT5 rfl;go_loopw [10] (fun vi wr => ∃ j : Nat, 1 ≤ j ∧ (j ≤ n5 ∨ j = 1) ∧ vi = .int .i64 j ∧ (∀ i p q, i + 1 < j → ps[i]? = some p → ps[i + 1]? = some q → p.last < q.first) ∧ Below W5.heap.size W5 wr) (fun vi _ => n5 + 1 - (intOf vi).toNat)
      case atStart => exact ⟨1, by omega, .inr rfl, rfl, fun i p q h => by omega, Below.refl _ _⟩
      case round =>
       obtain ⟨j, hj1, hj2, rfl, hris, hb6⟩ := hrel;have HRIS := Bas.hid hris;have HB6 := Bas.hid hb6;have kT6 := (hb6.block _ (heap_lt kT5)).trans kT5;have t1 := cell_of_heap (i := 1) kT6 rfl;have lT6 := heap_lt kT6;clear hris hb6 t0;by_cases hjn : j < n5
       ·have e1 : decide ((j : Int) < (n5 : Int)) = true := by simp; omega
        obtain ⟨i, hi⟩ : ∃ i, j = i + 1 := ⟨j - 1, by omega⟩
        obtain ⟨p, hp⟩ : ∃ p, ps[i]? = some p := ⟨_, List.getElem?_eq_getElem (by rw [HN5.out]; omega)⟩
        obtain ⟨q, hq⟩ : ∃ q, ps[j]? = some q := ⟨_, List.getElem?_eq_getElem (by rw [HN5.out]; exact hjn)⟩
        obtain ⟨up, hup⟩ : ∃ u, vs[i]? = some u := ⟨_, List.getElem?_eq_getElem (by rw [HP5.out.len, HN5.out]; omega)⟩
        obtain ⟨uq, huq⟩ : ∃ u, vs[j]? = some u := ⟨_, List.getElem?_eq_getElem (by rw [HP5.out.len, HN5.out]; exact hjn)⟩
        have hL := Row.leads_below (Row.leads_owned HO5.out) HB6.out;have hz1 : (ps.zip vs)[i]? = some (p, up) := List.getElem?_zip_eq_some.2 ⟨hp, hup⟩;have hz2 : (ps.zip vs)[j]? = some (q, uq) := List.getElem?_zip_eq_some.2 ⟨hq, huq⟩;obtain ⟨B1, O1, cp1, hv1, hcl1⟩ := Row.leads_elem prC_len hL hz1 (by omega)
        obtain ⟨B2, O2, cp2, hv2, hcl2⟩ := Row.leads_elem prC_len hL hz2 (by omega)
        cases hv1;cases hv2;have d1 := hcl1 1 _ rfl;have d0 := hcl2 0 _ rfl;simp only [Nat.add_zero] at d0 d1
        have lB : B1 < wr.heap.size := World.block_lt_of_cell? _ _ d1;have e3 : (j : Int) - 1 = (i : Int) := by omega
        have e4 : decide ((i : Int) < (n5 : Int)) = true := by simp; omega
        have hin : i < n5 := by omega
        have HPI := Bas.hid hp;have hqi : ps[i + 1]? = some q := by rw [← hi]; exact hq
        have HQI := Bas.hid hqi;have HJ := Bas.hid hi;obtain ⟨pl, hpl⟩ : ∃ pl, p.last = pl := ⟨_, rfl⟩;obtain ⟨qf, hqf⟩ : ∃ qf, q.first = qf := ⟨_, rfl⟩;rw [hpl] at d1;rw [hqf] at d0;have HPLL := Bas.hid hpl;have HQF := Bas.hid hqf;clear hL hcl1 hcl2 hz1 hz2 hp hq hup huq hi hpl hqf hqi;by_cases hr : pl < qf
        ·have dr : decide (pl < qf) = true := decide_eq_true hr;have HRR := Bas.hid hr;clear hr;go_wp2_with (fail);refine' Pl.region_v0 116 [] [0, 1, 2, 3, 4, 5, 6, 7, 8, 9, 10, 11, 12, 13, 14, 15, 16, 17, 18] [] _ (by kernel_rfl) (by kernel_rfl) (by simp) (fun _ _ _ _ e h => ⟨e ▸ h.1, h.2⟩) ?_ ?_
         rotate_left
         ·intro I F hI hF;simp only [Pl.selN, List.nil_append, List.drop_succ_cons, List.drop_zero];have x0 := fun i => hF.cell lT6 t1 i
          have x1 := fun i => hF.cell lB d1 i
          have x2 := fun i => hF.cell lB d0 i
          repeat (go_big_quiet_step ((go_at_call 51; first | exact hF.same (need_yes _) | exact hF.same (need_yesb _ _ dr))))
          refine wpQuiet_nil ?_;rfl
         intro w7 hw7;simp only [Pl.selN];have HB7 := Bas.hid (HB6.out.trans (hw7.mono HB6.out.size));have HRIS2 : Hid (∀ i' p' q', i' + 1 < j + 1 → ps[i']? = some p' → ps[i' + 1]? = some q' → p'.last < q'.first) := fun i' p' q' h hp' hq' => by
          by_cases h' : i' + 1 < j
          ·exact HRIS.out i' p' q' h' hp' hq'
          ·have e : i' = i := by have := HJ.out; omega
           subst e;rw [HPI.out] at hp';rw [HQI.out] at hq';cases hp';cases hq';rw [HPLL.out, HQF.out];exact HRR.out
         clear hw7 d0 d1 dr;go_wp2_with (fail);go_roundw
         case rel => exact ⟨j + 1, by omega, .inl (by omega), by go_num, HRIS2.out, HB7.out⟩
         case measure => simp [intOf]; omega
        ·have dr : decide (pl < qf) = false := decide_eq_false hr;have HNO : Hid (parseLk bs gl size = none) := by
          unfold Hid parseLk;rw [if_pos HL2.out, HF.out, Option.bind_some, if_neg];intro h;have := (rises_iff ps).1 h i p q HPI.out HQI.out;rw [HPLL.out, HQF.out] at this;exact hr this
         clear hr;go_wp2_with (fail);refine' Pl.region_vh 116 [] [0, 1, 2, 3, 4, 5, 6, 7, 8, 9, 10, 11, 12, 13, 14, 15, 16, 17] [] 18 114 [] _ (fun ch w' => ch = short ∧ Below w.heap.size w w') (by kernel_rfl) (by kernel_rfl) (by kernel_rfl) (by simp) (fun _ _ _ _ e h => ⟨e ▸ h.1, h.2⟩) ?_ ?_ ?_ ?_
         rotate_left
         ·intro I F hI hF;simp only [Pl.selN, List.nil_append, List.drop_succ_cons, List.drop_zero];have x0 := fun i => hF.cell lT6 t1 i
          have x1 := fun i => hF.cell lB d1 i
          have x2 := fun i => hF.cell lB d0 i
          repeat (go_big_quiet_step (fail))
          refine wpQuiet_nil ?_;rfl
         ·simp only [Pl.selN, List.drop_succ_cons, List.drop_zero, List.mem_singleton, forall_eq];intro u hu
          go_simp
          simp only [Pl.valsAt];have hbu := HB5.out.trans ((HB6.out.trans (hu.mono HB6.out.size)).mono HB5.out.size);refine (need_no u).mono ?_;rintro e w'' ⟨he, hb⟩;exact .inr ⟨short, he, rfl, by rw [← hb]; exact hbu⟩
         ·intro z hz;cases hz
         ·rintro c' a' u hd ⟨rfl, hb⟩;exact ⟨hd, hb, by rw [HNO.out]⟩
       ·have e1 : decide ((j : Int) < (n5 : Int)) = false := by simp; omega
        have e2 : decide (j < n5) = false := by simp; omega
        have e3 : ¬ (j : Int) < (n5 : Int) := by omega
        have HYES : Hid (parseLk bs gl size = some ps) := by
         unfold Hid parseLk;rw [if_pos HL2.out, HF.out, Option.bind_some, if_pos];rw [rises_iff];intro i p q hp hq;refine HRIS.out i p q ?_ hp hq;have := (List.getElem?_eq_some_iff.1 hq).1;rw [HN5.out] at this;omega
        have HBE := Bas.hid (HB5.out.trans (HB6.out.mono HB5.out.size));have HAT : Hid (Lives w.heap.size (fun u => LkAt u (.pointer (some ⟨T, 0, none⟩)) ps) wr) := by
         have h := pRow_below HP5.out HB6.out;rw [HN5.out] at h;exact lkLives_of kT6 h (by first | exact hwT | omega) (by first | exact Nat.le_refl _ | exact hwT | omega)
        go_wp2_with (fail);go_ret;exact ⟨HBE.out, by rw [HYES.out]; exact ⟨_, rfl, HAT.out⟩⟩
    have hu2 := hu;clear hu;by_cases hu : un = 4
    ·subst hu;have HFR : Hid (formL bs gl size = trimL bs 4 4) := by unfold Hid formL; rw [HX.out, HUN.out]; simp; omega
     have f4' := f4;go_wp2_with (fail);generalize w1.alloc (.cells #[.int .i64 10, .slice none 0 0] 217) = w2 at *;obtain ⟨T, hT⟩ : ∃ T, w1.heap.size = T := ⟨_, rfl⟩;rw [hT] at kT hwT ⊢;have HB22 := Bas.hid HB2.out;clear hT hs2 c0 r0 r1 r2 lk2 lkr2 k2 kr2;refine (HU4.out _ HB22.out).mono ?_;rintro e w2' ⟨rfl, hb22⟩;have kT' := (hb22.block _ (heap_lt kT)).trans kT;have kr3' := (hb22.block _ (heap_lt kr3)).trans kr3;have HB2' := Bas.hid (HB2.out.trans (hb22.mono HB2.out.size));have r0 := cell_of_heap (i := 0) (v := .slice a len cap) kr3' rfl;have r1 := cell_of_heap (i := 1) (v := .int .i64 gl) kr3' rfl;have r2 := cell_of_heap (i := 2) (v := .int .i64 size) kr3' rfl;clear hb22 kT kr3 k3 HB2 HB22 HU4;have kT := kT';have HB2 := HB2';clear kT' HB2';go_wp2_with (go_at_call 51; refine (need_yes _).mono ?_; rintro e w' ⟨rfl, rfl⟩);have PC := Bas.hid (trimmed_any a len cap bs gl size 4 4 w2' hl hc (HV.out.below HB2.out) hbl (by omega) (by omega))
     clear r0 r1 r2 kr3';refine PC.out.mono ?_;rintro e w3 ⟨hb3, h3⟩;have kT3 := (hb3.block _ (heap_lt kT)).trans kT;have HB3 := Bas.hid (HB2.out.trans (hb3.mono HB2.out.size));have hw23 : w.heap.size ≤ w2'.heap.size := HB2.out.size;clear hb3 PC;obtain ⟨r, hr⟩ : ∃ r, formL bs gl size = r := ⟨_, rfl⟩;rw [← HFR.out, hr] at h3;cases r with
     | none =>
      simp only at h3;subst h3;have HNO : Hid (parseLk bs gl size = none) := by unfold Hid parseLk; rw [if_pos HL2.out, hr]; rfl
      clear hr;go_wp2_with (fail);exact ⟨rfl, HB3.out, by rw [HNO.out]⟩
     | some ps =>
      simp only at h3;obtain ⟨v3, vs, rfl, hp3⟩ := h3;obtain ⟨av, cv, rfl⟩ := own_slice hp3.own;have HF := Bas.hid hr;have HP3 := Bas.hid (pRow_base hp3 hw23);have c0 := cell_of_heap (i := 1) kT3 rfl;have f0 := free_of_heap (i := 1) kT3;have lT3 := heap_lt kT3;clear hp3 hr kT;go_wp2_with (fail);have kT5 := heap_set (i := 1) kT3 (.slice av ps.length cv);have HP5 := Bas.hid (pRow_set (i := 1) HP3.out kT3 (by decide) (by decide) (.slice av ps.length cv))
      have HB5 := Bas.hid (HB3.out.setCell (p := ⟨T, 1, none⟩) hwT (.slice av ps.length cv));clear kT3 c0 f0 lT3;generalize w3.setCell ⟨T, 1, none⟩ (.slice av ps.length cv) = W5 at *;have kT5 : W5.heap[T]? = some (.cells #[.int .i64 10, .slice av ps.length cv] 217 (0, 0)) := kT5;obtain ⟨n5, hn5⟩ : ∃ n5, ps.length = n5 := ⟨_, rfl⟩;have HN5 := Bas.hid hn5;have hown5 := HP5.out.own;rw [hn5] at hown5 kT5 ⊢;have HO5 := Bas.hid hown5;have hn63 : n5 ≤ 9223372036854775807 := by have h1 := (own_cap hown5).2; have h2 := h1.1; have h3 := h1.2; unfold maxLen at h3; omega
      clear hown5 hn5;have t0 := cell_of_heap (i := 1) kT5 rfl;go_loopw [10] (fun vi wr => ∃ j : Nat, 1 ≤ j ∧ (j ≤ n5 ∨ j = 1) ∧ vi = .int .i64 j ∧ (∀ i p q, i + 1 < j → ps[i]? = some p → ps[i + 1]? = some q → p.last < q.first) ∧ Below W5.heap.size W5 wr) (fun vi _ => n5 + 1 - (intOf vi).toNat)
      case atStart => exact ⟨1, by omega, .inr rfl, rfl, fun i p q h => by omega, Below.refl _ _⟩
      case round =>
       obtain ⟨j, hj1, hj2, rfl, hris, hb6⟩ := hrel;have HRIS := Bas.hid hris;have HB6 := Bas.hid hb6;have kT6 := (hb6.block _ (heap_lt kT5)).trans kT5;have t1 := cell_of_heap (i := 1) kT6 rfl;have lT6 := heap_lt kT6;clear hris hb6 t0;by_cases hjn : j < n5
       ·have e1 : decide ((j : Int) < (n5 : Int)) = true := by simp; omega
        obtain ⟨i, hi⟩ : ∃ i, j = i + 1 := ⟨j - 1, by omega⟩
        obtain ⟨p, hp⟩ : ∃ p, ps[i]? = some p := ⟨_, List.getElem?_eq_getElem (by rw [HN5.out]; omega)⟩
        obtain ⟨q, hq⟩ : ∃ q, ps[j]? = some q := ⟨_, List.getElem?_eq_getElem (by rw [HN5.out]; exact hjn)⟩
        obtain ⟨up, hup⟩ : ∃ u, vs[i]? = some u := ⟨_, List.getElem?_eq_getElem (by rw [HP5.out.len, HN5.out]; omega)⟩
        obtain ⟨uq, huq⟩ : ∃ u, vs[j]? = some u := ⟨_, List.getElem?_eq_getElem (by rw [HP5.out.len, HN5.out]; exact hjn)⟩
        have hL := Row.leads_below (Row.leads_owned HO5.out) HB6.out;have hz1 : (ps.zip vs)[i]? = some (p, up) := List.getElem?_zip_eq_some.2 ⟨hp, hup⟩;have hz2 : (ps.zip vs)[j]? = some (q, uq) := List.getElem?_zip_eq_some.2 ⟨hq, huq⟩;obtain ⟨B1, O1, cp1, hv1, hcl1⟩ := Row.leads_elem prC_len hL hz1 (by omega)
        obtain ⟨B2, O2, cp2, hv2, hcl2⟩ := Row.leads_elem prC_len hL hz2 (by omega)
        cases hv1;cases hv2;have d1 := hcl1 1 _ rfl;have d0 := hcl2 0 _ rfl;simp only [Nat.add_zero] at d0 d1
        have lB : B1 < wr.heap.size := World.block_lt_of_cell? _ _ d1;have e3 : (j : Int) - 1 = (i : Int) := by omega
        have e4 : decide ((i : Int) < (n5 : Int)) = true := by simp; omega
        have hin : i < n5 := by omega
        have HPI := Bas.hid hp;have hqi : ps[i + 1]? = some q := by rw [← hi]; exact hq
        have HQI := Bas.hid hqi;have HJ := Bas.hid hi;obtain ⟨pl, hpl⟩ : ∃ pl, p.last = pl := ⟨_, rfl⟩;obtain ⟨qf, hqf⟩ : ∃ qf, q.first = qf := ⟨_, rfl⟩;rw [hpl] at d1;rw [hqf] at d0;have HPLL := Bas.hid hpl;have HQF := Bas.hid hqf;clear hL hcl1 hcl2 hz1 hz2 hp hq hup huq hi hpl hqf hqi;by_cases hr : pl < qf
        ·have dr : decide (pl < qf) = true := decide_eq_true hr;have HRR := Bas.hid hr;clear hr;go_wp2_with (fail);refine' Pl.region_v0 116 [] [0, 1, 2, 3, 4, 5, 6, 7, 8, 9, 10, 11, 12, 13, 14, 15, 16, 17, 18] [] _ (by kernel_rfl) (by kernel_rfl) (by simp) (fun _ _ _ _ e h => ⟨e ▸ h.1, h.2⟩) ?_ ?_
         rotate_left
         ·intro I F hI hF;simp only [Pl.selN, List.nil_append, List.drop_succ_cons, List.drop_zero];have x0 := fun i => hF.cell lT6 t1 i
          have x1 := fun i => hF.cell lB d1 i
          have x2 := fun i => hF.cell lB d0 i
          repeat (go_big_quiet_step ((go_at_call 51; first | exact hF.same (need_yes _) | exact hF.same (need_yesb _ _ dr))))
          refine wpQuiet_nil ?_;rfl
         intro w7 hw7;simp only [Pl.selN];have HB7 := Bas.hid (HB6.out.trans (hw7.mono HB6.out.size));have HRIS2 : Hid (∀ i' p' q', i' + 1 < j + 1 → ps[i']? = some p' → ps[i' + 1]? = some q' → p'.last < q'.first) := fun i' p' q' h hp' hq' => by
          by_cases h' : i' + 1 < j
          ·exact HRIS.out i' p' q' h' hp' hq'
          ·have e : i' = i := by have := HJ.out; omega
           subst e;rw [HPI.out] at hp';rw [HQI.out] at hq';cases hp';cases hq';rw [HPLL.out, HQF.out];exact HRR.out
         clear hw7 d0 d1 dr;go_wp2_with (fail);go_roundw
         case rel => exact ⟨j + 1, by omega, .inl (by omega), by go_num, HRIS2.out, HB7.out⟩
         case measure => simp [intOf]; omega
        ·have dr : decide (pl < qf) = false := decide_eq_false hr;have HNO : Hid (parseLk bs gl size = none) := by
          unfold Hid parseLk;rw [if_pos HL2.out, HF.out, Option.bind_some, if_neg];intro h;have := (rises_iff ps).1 h i p q HPI.out HQI.out;rw [HPLL.out, HQF.out] at this;exact hr this
         clear hr;go_wp2_with (fail);refine' Pl.region_vh 116 [] [0, 1, 2, 3, 4, 5, 6, 7, 8, 9, 10, 11, 12, 13, 14, 15, 16, 17] [] 18 114 [] _ (fun ch w' => ch = short ∧ Below w.heap.size w w') (by kernel_rfl) (by kernel_rfl) (by kernel_rfl) (by simp) (fun _ _ _ _ e h => ⟨e ▸ h.1, h.2⟩) ?_ ?_ ?_ ?_
         rotate_left
         ·intro I F hI hF;simp only [Pl.selN, List.nil_append, List.drop_succ_cons, List.drop_zero];have x0 := fun i => hF.cell lT6 t1 i
          have x1 := fun i => hF.cell lB d1 i
          have x2 := fun i => hF.cell lB d0 i
          repeat (go_big_quiet_step (fail))
          refine wpQuiet_nil ?_;rfl
         ·simp only [Pl.selN, List.drop_succ_cons, List.drop_zero, List.mem_singleton, forall_eq];intro u hu
          go_simp
          simp only [Pl.valsAt];have hbu := HB5.out.trans ((HB6.out.trans (hu.mono HB6.out.size)).mono HB5.out.size);refine (need_no u).mono ?_;rintro e w'' ⟨he, hb⟩;exact .inr ⟨short, he, rfl, by rw [← hb]; exact hbu⟩
         ·intro z hz;cases hz
         ·rintro c' a' u hd ⟨rfl, hb⟩;exact ⟨hd, hb, by rw [HNO.out]⟩
       ·have e1 : decide ((j : Int) < (n5 : Int)) = false := by simp; omega
        have e2 : decide (j < n5) = false := by simp; omega
        have e3 : ¬ (j : Int) < (n5 : Int) := by omega
        have HYES : Hid (parseLk bs gl size = some ps) := by
         unfold Hid parseLk;rw [if_pos HL2.out, HF.out, Option.bind_some, if_pos];rw [rises_iff];intro i p q hp hq;refine HRIS.out i p q ?_ hp hq;have := (List.getElem?_eq_some_iff.1 hq).1;rw [HN5.out] at this;omega
        have HBE := Bas.hid (HB5.out.trans (HB6.out.mono HB5.out.size));have HAT : Hid (Lives w.heap.size (fun u => LkAt u (.pointer (some ⟨T, 0, none⟩)) ps) wr) := by
         have h := pRow_below HP5.out HB6.out;rw [HN5.out] at h;exact lkLives_of kT6 h (by first | exact hwT | omega) (by first | exact Nat.le_refl _ | exact hwT | omega)
        go_wp2_with (fail);go_ret;exact ⟨HBE.out, by rw [HYES.out]; exact ⟨_, rfl, HAT.out⟩⟩
    have HNO : Hid (parseLk bs gl size = none) := by
     unfold Hid parseLk formL;rw [if_pos HL2.out, HX.out, HUN.out, if_neg (by omega), if_neg (by omega), if_neg (by omega), if_neg (by omega), if_neg (by omega), if_pos rfl, if_neg (by omega)]; rfl
    have u1 : (un == 1) = false := by simpa using hu1
    have u2 : (un == 2) = false := by simpa using hu2
    have u4 : (un == 4) = false := by simpa using hu
    clear hu hu1 hu2;go_wp2_with (fail);generalize w1.alloc (.cells #[.int .i64 10, .slice none 0 0] 217) = w2 at *;obtain ⟨T, hT⟩ : ∃ T, w1.heap.size = T := ⟨_, rfl⟩;rw [hT] at kT hwT ⊢;have HB22 := Bas.hid HB2.out;clear hT hs2 c0 r0 r1 r2 lk2 lkr2 k2 kr2;refine (HU4.out _ HB22.out).mono ?_;rintro e w2' ⟨rfl, hb22⟩;have HB2' := Bas.hid (HB2.out.trans (hb22.mono HB2.out.size));clear hb22 kT kr3 k3 HB2 HB22 HU4;go_wp2_with (go_at_call 51; refine (need_no _).mono ?_; rintro e w' ⟨rfl, rfl⟩);exact ⟨rfl, HB2'.out, by rw [HNO.out]⟩
   ·have HNO : Hid (parseLk bs gl size = none) := by
     unfold Hid parseLk formL;rw [if_pos HL2.out, HX.out, if_neg (by omega), if_neg (by omega), if_neg (by omega), if_neg (by omega), if_neg (by omega), if_pos rfl, if_neg (by omega)]; rfl
    have HU4 := Bas.hid (fun (w' : World) => u16_no a len cap 2 w' hl hc (by omega))
    go_wp2_with (fail);generalize w1.alloc (.cells #[.int .i64 10, .slice none 0 0] 217) = w2 at *;obtain ⟨T, hT⟩ : ∃ T, w1.heap.size = T := ⟨_, rfl⟩;rw [hT] at kT hwT ⊢;have HB22 := Bas.hid HB2.out;clear hT hs2 c0 r0 r1 r2 lk2 lkr2 k2 kr2;refine (HU4.out _).mono ?_;rintro e w2' ⟨rfl, hb22⟩;have HB2' := Bas.hid (HB2.out.trans (hb22.mono HB2.out.size));clear hb22;go_wp2_with (fail);exact ⟨rfl, HB2'.out, by rw [HNO.out]⟩
  have HNO : Hid (parseLk bs gl size = none) := by
   unfold Hid parseLk formL;rw [if_pos HL2.out, HX.out, if_neg x0, if_neg x2, if_neg x4, if_neg x6, if_neg x8, if_neg x10]; rfl
  have e0 : (x == 0) = false := by simpa using x0
  have e2 : (x == 2) = false := by simpa using x2
  have e4 : (x == 4) = false := by simpa using x4
  have e6 : (x == 6) = false := by simpa using x6
  have e8 : (x == 8) = false := by simpa using x8
  have e10 : (x == 10) = false := by simpa using x10
  clear x0 x2 x4 x6 x8 x10;go_wp2_with (fail);refine (fail_any _).mono ?_;rintro e w3 ⟨rfl, rfl⟩;exact ⟨rfl, HB2.out, by rw [HNO.out]⟩
 ·have HNO : Hid (parseLk bs gl size = none) := by unfold Hid parseLk; rw [if_neg (by omega)]
  have HU := Bas.hid (fun (w' : World) => u16_no a len cap 0 w' hl hc (by omega))
  go_enter Tryz.func84, Tryz.ntmps84
  go_wp2_with (fail);generalize (w.alloc (.cells #[.slice a len cap] 52)).alloc (.cells #[.slice a len cap, .int .i64 gl, .int .i64 size] 214) = W1 at *;refine (HU.out _).mono ?_;rintro e w1 ⟨rfl, hb1⟩;have HB2 := Bas.hid (HB1.out.trans (hb1.mono HB1.out.size));clear hb1;go_wp2_with (fail);exact ⟨rfl, HB2.out, by rw [HNO.out]⟩
end Lk
namespace St
open Vw Sk Ch Lk
theorem entry_any (base G n : Nat) (vt vr ve : Value) (us : List Value) (rows : List (List Int)) (ents : List EntD) (ra : Option Addr) (rl : Nat) (ea : Option Addr) (el : Nat) (eb : List Int) (words : Nat) (w : World)
  (hM : MBuild w base G n vt vr ve us rows ents) (hv : ∀ w', Below base w w' → VB w' ea eb) (hel : eb.length = el) (hem : el ≤ maxLen) (hk : ents.length ≤ 65536) (hbase : base ≤ w.heap.size) (hw : words ≤ 2) :
  Calls Tryz.prog 102 #[.agg #[.pointer (some ⟨G, 0, none⟩), .slice ra rl rl, .slice ea el el, .int .i64 words]] w (EntP w base G n vt vr ve us rows ents eb words) := by
 rcases (by omega : words = 0 ∨ words = 1 ∨ words = 2) with rfl | rfl | rfl
 ·exact entry_any0 base G n vt vr ve us rows ents ra rl ea el eb w hM hv hel hem hk hbase
 ·exact entry_any1 base G n vt vr ve us rows ents ra rl ea el eb w hM hv hel hem hk hbase
 ·exact entry_any2 base G n vt vr ve us rows ents ra rl ea el eb w hM hv hel hem hk hbase
theorem be_drop (bs : List Int) (o i k : Nat) : be (bs.drop o) i k = be bs (o + i) k := by unfold be; rw [List.drop_drop]
theorem rowAt_drop (bs : List Int) (ro n k : Nat) : rowAt (bs.drop ro) n k = rowOf bs n ro k := by
 unfold rowAt rowOf;exact List.map_congr_left fun i _ => by rw [be_drop, ← Nat.add_assoc]
theorem entAt_drop (bs : List Int) (eo words k : Nat) : entAt (bs.drop eo) words k = entOf bs eo words k := by
 unfold entAt entOf;simp only [be_drop, ← Nat.add_assoc]
theorem machAt_of {w : World} {base G n : Nat} {vt vr ve : Value} {us : List Value} {rows : List (List Int)} {ents : List EntD} {ps : List PartD} (h : MBuild w base G n vt vr ve us rows ents) (ht : LkAt w vt ps) : MachAt w (.pointer (some ⟨G, 0, none⟩)) ⟨n, ps, rows, ents⟩ :=
 ⟨G, vt, vr, ve, us, rfl, h.head, ht, h.ulen, Row.leads_owned h.rown, fun i r u hr hu => Row.leads_owned (h.vals i r u hr hu), Row.leads_owned h.eown⟩
theorem machLives_of {w : World} {a base G n : Nat} {vt vr ve : Value} {us : List Value} {rows : List (List Int)} {ents : List EntD} {ps : List PartD} (h : MBuild w base G n vt vr ve us rows ents) (ht : Lives a (fun u => LkAt u vt ps) w) (ha : a ≤ base) : Lives a (fun u => MachAt u (.pointer (some ⟨G, 0, none⟩)) ⟨n, ps, rows, ents⟩) w :=
 fun u hu => machAt_of ⟨lives_heap h.head (Nat.le_trans ha h.low) u hu, h.low, h.ulen, lives_own h.rown ha u hu, fun i r x hr hx => lives_own (h.vals i r x hr hx) ha u hu, lives_own h.eown ha u hu⟩ (ht u hu)
def lenAt (w : World) (G i : Nat) : Nat := match w.cell? ⟨G, i, none⟩ with | some (.slice _ l _) => l | _ => 0
theorem vb_drop {w : World} {a : Option Addr} {bs : List Int} (hv : VB w a bs) (q : Nat) (h : q ≤ bs.length) : VB w (sub a q (bs.length - q)) (bs.drop q) := by
 have h1 := hv.sub q (bs.length - q) (by omega)
 rwa [List.take_of_length_le (by rw [List.length_drop]; omega)] at h1
theorem MBuild.lens {w : World} {base G n : Nat} {vt vr ve : Value} {us : List Value} {rows : List (List Int)} {ents : List EntD} (h : MBuild w base G n vt vr ve us rows ents) : lenAt w G 2 = rows.length ∧ lenAt w G 3 = ents.length := by
 obtain ⟨a, c, rfl⟩ := own_slice h.rown;obtain ⟨a2, c2, rfl⟩ := own_slice h.eown;have c1 := cell_of_heap (i := 2) (v := .slice a rows.length c) h.head rfl;have c3 := cell_of_heap (i := 3) (v := .slice a2 ents.length c2) h.head rfl;exact ⟨by unfold lenAt; rw [c1], by unfold lenAt; rw [c3]⟩
theorem growM_step {bs : List Int} {n ro eo words f R E : Nat} (h : R < needS (entsOf bs eo words E) ∨ E < needE (rowsOf bs n ro R)) : growM bs n ro eo words (f + 1) R E =
  if ro + 2 * n * needS (entsOf bs eo words E) ≤ bs.length then if eo + (4 + 2 * words) * needE (rowsOf bs n ro (needS (entsOf bs eo words E))) ≤ bs.length then
   growM bs n ro eo words f (needS (entsOf bs eo words E)) (needE (rowsOf bs n ro (needS (entsOf bs eo words E)))) else none else none := by rw [growM, if_pos h]
theorem growM_stop {bs : List Int} {n ro eo words f R E : Nat} (h : ¬ (R < needS (entsOf bs eo words E) ∨ E < needE (rowsOf bs n ro R))) : growM bs n ro eo words (f + 1) R E = some (R, E) := by rw [growM, if_neg h]
theorem parse_yes {bs : List Int} {gl words o0 o4 o8 o12 : Nat} {ps : List PartD} (h0 : be bs 0 4 = (o0 : Int)) (h4 : be bs 4 4 = (o4 : Int)) (h8 : be bs 8 4 = (o8 : Int)) (h12 : be bs 12 4 = (o12 : Int)) (hl : 16 ≤ bs.length) (a : 4 ≤ o0) (b : o0 ≤ 65535) (c : o4 ≤ bs.length) (d : o8 ≤ bs.length) (e : o12 ≤ bs.length)
  (hp : parseLk (bs.drop o4) gl 2 = some ps) : parseSt bs gl words = (growM bs o0 o8 o12 words fuelM 0 0).map fun RE => ⟨o0, ps, rowsOf bs o0 o8 RE.1, entsOf bs o12 words RE.2⟩ := by
 unfold parseSt;rw [h0, h4, h8, h12, if_pos ⟨hl, by omega, by omega, by omega, by omega, by omega⟩]
 simp only [Int.toNat_natCast];rw [hp];rfl
def StTakeP (w : World) (bs : List Int) (gl words : Nat) (e : Ending) (w' : World) : Prop :=
 Below w.heap.size w w' ∧ match parseSt bs gl words with
  | none => e = .panicked short
  | some M => ∃ v, e = .returned v ∧ Lives w.heap.size (fun u => MachAt u v M) w'
theorem parse_no {bs : List Int} {gl words : Nat} (h : ¬ (16 ≤ bs.length ∧ 4 ≤ be bs 0 4 ∧ be bs 0 4 ≤ 65535 ∧ be bs 4 4 ≤ bs.length ∧ be bs 8 4 ≤ bs.length ∧ be bs 12 4 ≤ bs.length)) : parseSt bs gl words = none := if_neg h
set_option maxRecDepth 100000 in
set_option maxHeartbeats 16000000 in
theorem stTake_any (a : Option Addr) (len cap : Nat) (bs : List Int) (gl words : Nat) (w : World) (hl : len ≤ cap) (hc : cap ≤ maxLen) (hv : VB w a bs) (hbl : bs.length = len) (hw : words ≤ 2) (hg1 : 1 ≤ gl) (hg2 : gl ≤ 65536) :
  Calls Tryz.prog 77 #[.agg #[.slice a len cap], .int .i64 gl, .int .i64 words] w (StTakeP w bs gl words) := by
 have k1 := Bas.heap_new w (.cells #[.slice a len cap] 52);have HB1 := Bas.hid ((Below.refl w.heap.size w).alloc (Nat.le_refl _) (.cells #[.slice a len cap] 52));have HV := Bas.hid (fun (w' : World) (hb : Below w.heap.size w w') => hv.below hb)
 have b0 := be_rng4 hv.byte 0 4 (by omega)
 obtain ⟨o0, ho0⟩ := Int.eq_ofNat_of_zero_le b0.1;rw [ho0] at b0;have hb0 := b0.2;have HO0 := Bas.hid ho0;clear b0 ho0;have b4 := be_rng4 hv.byte 4 4 (by omega)
 obtain ⟨o4, ho4⟩ := Int.eq_ofNat_of_zero_le b4.1;rw [ho4] at b4;have hb4 := b4.2;have HO4 := Bas.hid ho4;clear b4 ho4;have b8 := be_rng4 hv.byte 8 4 (by omega)
 obtain ⟨o8, ho8⟩ := Int.eq_ofNat_of_zero_le b8.1;rw [ho8] at b8;have hb8 := b8.2;have HO8 := Bas.hid ho8;clear b8 ho8;have b12 := be_rng4 hv.byte 12 4 (by omega)
 obtain ⟨o12, ho12⟩ := Int.eq_ofNat_of_zero_le b12.1;rw [ho12] at b12;have hb12 := b12.2;have HO12 := Bas.hid ho12;clear b12 ho12;clear hv;go_enter Tryz.func77, Tryz.ntmps77
 by_cases f4 : 4 ≤ len
 ·have HU0 := Bas.hid (fun (w' : World) (hb : Below w.heap.size w w') => (by
   have h := u32_ok a len cap bs 0 w' hl hc (HV.out w' hb) hbl (by omega) (by omega)
   rw [show ((0 : Int)).toNat = 0 by rfl, HO0.out] at h
   exact h : Calls Tryz.prog 50 #[.agg #[.slice a len cap], .int .i64 0] w' fun e w'' => e = .returned (.int .i64 (o0 : Nat)) ∧ Below w'.heap.size w' w''))
  go_wp2_with (fail);generalize w.alloc (.cells #[.slice a len cap] 52) = W1 at *;refine (HU0.out _ HB1.out).mono ?_;rintro e w2 ⟨rfl, hb1⟩;have kT := (hb1.block _ (heap_lt k1)).trans k1;have HB2 := Bas.hid (HB1.out.trans (hb1.mono HB1.out.size));have lT := heap_lt kT;have t0 := cell_of_heap (i := 0) kT rfl;clear hb1 k1 HB1 HU0;by_cases d4 : 4 ≤ o0
  ·by_cases d6 : o0 ≤ 65535
   ·have e1 : decide ((4 : Int) ≤ (o0 : Int)) = true := by simp; omega
    have e2 : decide ((o0 : Int) ≤ 65535) = true := by simp; omega
    go_wp2_with (fail);refine (need_yesb _ _ (by first | rfl | (simp; done) | (simp; omega))).mono ?_
    rintro e w' ⟨rfl, rfl⟩;clear e1 e2;go_wp2_with (fail);by_cases f8 : 8 ≤ len
    ·have HU4 := Bas.hid (fun (w' : World) (hb : Below w.heap.size w w') => (by
      have h := u32_ok a len cap bs 4 w' hl hc (HV.out w' hb) hbl (by omega) (by omega)
      rw [show ((4 : Int)).toNat = 4 by rfl, HO4.out] at h
      exact h : Calls Tryz.prog 50 #[.agg #[.slice a len cap], .int .i64 4] w' fun e w'' => e = .returned (.int .i64 (o4 : Nat)) ∧ Below w'.heap.size w' w''))
     by_cases g4 : o4 ≤ len
     ·have HR4 := Bas.hid (fun (w' : World) (_ : Below w.heap.size w w') => (by
       have h := rest_ok a len cap (o4 : Nat) w' hl hc (by omega) (by omega)
       rw [Int.toNat_natCast] at h;exact h : Calls Tryz.prog 75 #[.agg #[.slice a len cap], .int .i64 (o4 : Nat)] w' fun e w'' => e = .returned (.agg #[.slice (sub a o4 (len - o4)) (len - o4) (len - o4)]) ∧ Below w'.heap.size w' w''))
      have HS4 := Bas.hid (fun (w' : World) (hb : Below w.heap.size w w') => (by
       have h := vb_drop (HV.out w' hb) o4 (by omega)
       rw [hbl] at h;exact h : VB w' (sub a o4 (len - o4)) (bs.drop o4)))
      generalize sub a o4 (len - o4) = S4 at *;obtain ⟨l4, hl4⟩ : ∃ l4, len - o4 = l4 := ⟨_, rfl⟩;rw [hl4] at HR4;have HLL4 := Bas.hid hl4;clear hl4;refine' Pl.region_v0 80 [0] [1, 2, 3, 4, 5] [6, 7, 8, 9] _ (by kernel_rfl) (by kernel_rfl) (by simp) (fun _ _ _ _ e h => ⟨e ▸ h.1, h.2⟩) ?_ ?_
      rotate_left
      ·intro I F hI hF;simp only [Pl.selN, List.nil_append, List.cons_append, List.drop_succ_cons, List.drop_zero];have z0 := fun i => hF.cell lT t0 i
       repeat (go_big_quiet_step ((first | (go_at_call 50; with_reducible exact hF.call (HU4.out _ (HB2.out.trans ((hF.bel _).mono HB2.out.size)))) | (go_at_call 75; with_reducible exact hF.call (HR4.out _ (HB2.out.trans ((hF.bel _).mono HB2.out.size)))))))
       refine wpQuiet_nil ?_;rfl
      intro u hu;simp only [Pl.selN, List.drop_succ_cons, List.drop_zero];have HBu := Bas.hid (HB2.out.trans (hu.mono HB2.out.size));have kTu := (hu.block _ lT).trans kT;clear hu t0 kT lT;go_wp2_with (fail);refine (lkTake_any S4 l4 l4 _ gl 2 u (Nat.le_refl _) (by rw [← HLL4.out]; omega) (HS4.out u HBu.out) (by rw [List.length_drop, hbl]; exact HLL4.out) (.inl rfl) hg1 hg2).mono ?_
      rintro e w4 ⟨hb4, h4⟩;have kT3 := (hb4.block _ (heap_lt kTu)).trans kTu;have HB3 := Bas.hid (HBu.out.trans (hb4.mono HBu.out.size));clear hb4 kTu;cases hps : parseLk (bs.drop o4) gl 2 with
      | none =>
       rw [hps] at h4;simp only at h4;subst h4;have HNO : Hid (parseSt bs gl words = none) := by
        unfold Hid parseSt;split
        ·rw [HO4.out, Int.toNat_natCast, hps]; rfl
        ·rfl
       go_wp2_with (fail);exact ⟨rfl, HB3.out, by rw [HNO.out]⟩
      | some ps =>
       rw [hps] at h4;simp only at h4;obtain ⟨vt, rfl, hat⟩ := h4;have HPS := Bas.hid hps;obtain ⟨TB, htb⟩ : ∃ TB, vt = .pointer (some ⟨TB, 0, none⟩) := by
        obtain ⟨TB, _, _, _, h, _⟩ := hat.now;exact ⟨TB, h⟩
       subst htb;have HAT := Bas.hid (hat.mono HBu.out.size);clear hat hps;go_wp2_with (fail);have kG := Bas.heap_new w4 (.cells #[.int .i64 o0, .pointer (some ⟨TB, 0, none⟩), .slice none 0 0, .slice none 0 0] 202);have hbA := (Below.refl w4.heap.size w4).alloc (Nat.le_refl _) (.cells #[.int .i64 o0, .pointer (some ⟨TB, 0, none⟩), .slice none 0 0, .slice none 0 0] 202);have HB4 := Bas.hid (HB3.out.trans (hbA.mono HB3.out.size));have kT4 := (hbA.block _ (heap_lt kT3)).trans kT3;have hwG : w.heap.size ≤ w4.heap.size := HB3.out.size;have HGB := Bas.hid hbA;have HM4 : Hid (MBuild (w4.alloc (.cells #[.int .i64 o0, .pointer (some ⟨TB, 0, none⟩), .slice none 0 0, .slice none 0 0] 202)) w4.heap.size w4.heap.size o0 (.pointer (some ⟨TB, 0, none⟩)) (.slice none 0 0) (.slice none 0 0) [] [] []) := ⟨kG, Nat.le_refl _, rfl, Row.owned_nil _ _ _ _, (fun i r u h => by cases h), Row.owned_nil _ _ _ _⟩
       have hlG := heap_lt kG;clear hbA kG kT3;generalize w4.alloc (.cells #[.int .i64 o0, .pointer (some ⟨TB, 0, none⟩), .slice none 0 0, .slice none 0 0] 202) = W4 at *;obtain ⟨G, hG⟩ : ∃ G, w4.heap.size = G := ⟨_, rfl⟩;rw [hG] at HM4 HGB hwG hlG ⊢;have HG := Bas.hid hG;clear hG;have t0 := cell_of_heap (i := 0) kT4 rfl;have lT := heap_lt kT4;by_cases f12 : 12 ≤ len
       ·have HU8 := Bas.hid (fun (w' : World) (hb : Below w.heap.size w w') => (by
         have h := u32_ok a len cap bs 8 w' hl hc (HV.out w' hb) hbl (by omega) (by omega)
         rw [show ((8 : Int)).toNat = 8 by rfl, HO8.out] at h
         exact h : Calls Tryz.prog 50 #[.agg #[.slice a len cap], .int .i64 8] w' fun e w'' => e = .returned (.int .i64 (o8 : Nat)) ∧ Below w'.heap.size w' w''))
        by_cases g8 : o8 ≤ len
        ·have HR8 := Bas.hid (fun (w' : World) (_ : Below w.heap.size w w') => (by
          have h := rest_ok a len cap (o8 : Nat) w' hl hc (by omega) (by omega)
          rw [Int.toNat_natCast] at h;exact h : Calls Tryz.prog 75 #[.agg #[.slice a len cap], .int .i64 (o8 : Nat)] w' fun e w'' => e = .returned (.agg #[.slice (sub a o8 (len - o8)) (len - o8) (len - o8)]) ∧ Below w'.heap.size w' w''))
         have HS8 := Bas.hid (fun (w' : World) (hb : Below w.heap.size w w') => (by
          have h := vb_drop (HV.out w' hb) o8 (by omega)
          rw [hbl] at h;exact h : VB w' (sub a o8 (len - o8)) (bs.drop o8)))
         generalize sub a o8 (len - o8) = S8 at *;obtain ⟨l8, hl8⟩ : ∃ l8, len - o8 = l8 := ⟨_, rfl⟩;rw [hl8] at HR8;have HLL8 := Bas.hid hl8;clear hl8;by_cases f16 : 16 ≤ len
         ·have HU12 := Bas.hid (fun (w' : World) (hb : Below w.heap.size w w') => (by
           have h := u32_ok a len cap bs 12 w' hl hc (HV.out w' hb) hbl (by omega) (by omega)
           rw [show ((12 : Int)).toNat = 12 by rfl, HO12.out] at h
           exact h : Calls Tryz.prog 50 #[.agg #[.slice a len cap], .int .i64 12] w' fun e w'' => e = .returned (.int .i64 (o12 : Nat)) ∧ Below w'.heap.size w' w''))
          by_cases g12 : o12 ≤ len
          ·have HR12 := Bas.hid (fun (w' : World) (_ : Below w.heap.size w w') => (by
            have h := rest_ok a len cap (o12 : Nat) w' hl hc (by omega) (by omega)
            rw [Int.toNat_natCast] at h;exact h : Calls Tryz.prog 75 #[.agg #[.slice a len cap], .int .i64 (o12 : Nat)] w' fun e w'' => e = .returned (.agg #[.slice (sub a o12 (len - o12)) (len - o12) (len - o12)]) ∧ Below w'.heap.size w' w''))
           have HS12 := Bas.hid (fun (w' : World) (hb : Below w.heap.size w w') => (by
            have h := vb_drop (HV.out w' hb) o12 (by omega)
            rw [hbl] at h;exact h : VB w' (sub a o12 (len - o12)) (bs.drop o12)))
           generalize sub a o12 (len - o12) = S12 at *;obtain ⟨l12, hl12⟩ : ∃ l12, len - o12 = l12 := ⟨_, rfl⟩;rw [hl12] at HR12;have HLL12 := Bas.hid hl12;clear hl12;refine' Pl.region_v1 80 [0] [1, 2, 3, 4, 5, 6, 7, 8, 9, 10] 11 9 [12] _ (fun v u => ∃ g, v = .pointer (some ⟨g, 0, none⟩) ∧ W4.heap.size ≤ g ∧ u.heap[g]? = some (.cells #[.pointer none, .slice none 0 0, .slice none 0 0, .int .i64 0] 204 (0, 0))) (by kernel_rfl) (by kernel_rfl) (by simp) (fun _ _ _ _ e h => ⟨e ▸ h.1, h.2⟩) ?_ ?_ ?_ ?_
           rotate_left
           ·intro I F hI hF;simp only [Pl.selN, List.nil_append, List.cons_append, List.drop_succ_cons, List.drop_zero];have z0 := fun i => hF.cell lT t0 i
            repeat (go_big_quiet_step ((first | (go_at_call 50; with_reducible exact hF.call (HU8.out _ (HB4.out.trans ((hF.bel _).mono HB4.out.size)))) | (go_at_call 75; with_reducible exact hF.call (HR8.out _ (HB4.out.trans ((hF.bel _).mono HB4.out.size)))) | (go_at_call 50; with_reducible exact hF.call (HU12.out _ (HB4.out.trans ((hF.bel _).mono HB4.out.size)))) | (go_at_call 75; with_reducible exact hF.call (HR12.out _ (HB4.out.trans ((hF.bel _).mono HB4.out.size)))))))
            refine wpQuiet_nil ?_;rfl
           ·rintro v u u' ⟨g, h1, h2, h3⟩ hu hu';exact ⟨g, h1, h2, (hu'.block g (heap_lt h3)).trans h3⟩
           ·simp only [Pl.selN, List.drop_succ_cons, List.drop_zero, List.mem_singleton, forall_eq];intro u hu
            go_simp
            simp only [Pl.valsAt];exact ⟨(Below.refl _ _).alloc (Nat.le_refl _) _, _, rfl, hu.size, Bas.heap_new _ _⟩
           ·intro v u hu hv;obtain ⟨Q, rfl, hQ, kQ⟩ := hv;simp only [Pl.selN, List.drop_succ_cons, List.drop_zero, Act.put, List.setIfInBounds_toArray, List.set_cons_zero, List.set_cons_succ];have hGQ : G ≠ Q := by omega
            have hGQ2 : G ≤ Q := by omega
            have HM5 := Bas.hid (HM4.out.below hu);have HGB5 := Bas.hid (HGB.out.trans (hu.mono (by omega)))
            have c0 := cell_of_heap (i := 0) kQ rfl;have c1 := cell_of_heap (i := 1) kQ rfl;have c2 := cell_of_heap (i := 2) kQ rfl;have c3 := cell_of_heap (i := 3) kQ rfl;have f0 := free_of_heap (i := 0) kQ;have f1 := free_of_heap (i := 1) kQ;have f2 := free_of_heap (i := 2) kQ;have f3 := free_of_heap (i := 3) kQ;clear hu HM4 HGB hQ lT t0 kT4 HB4;go_wp2_with (fail);obtain ⟨k6, hk6⟩ := set4 kQ (.pointer (some ⟨G, 0, none⟩)) (.slice S8 l8 l8) (.slice S12 l12 l12) (.int .i64 words);have HM6 := Bas.hid (HM5.out.off kQ (by decide) (by decide) hGQ (by intro e; cases e) hk6)
            have HGB6 := Bas.hid ((((HGB5.out.setCell (p := ⟨Q, 0, none⟩) hGQ2 (.pointer (some ⟨G, 0, none⟩))).setCell (p := ⟨Q, 1, none⟩) hGQ2 (.slice S8 l8 l8)).setCell (p := ⟨Q, 2, none⟩) hGQ2 (.slice S12 l12 l12)).setCell (p := ⟨Q, 3, none⟩) hGQ2 (.int .i64 words));clear hk6 c0 c1 c2 c3 f0 f1 f2 f3 kQ HM5 HGB5;generalize ((((u.setCell ⟨Q, 0, none⟩ (.pointer (some ⟨G, 0, none⟩))).setCell ⟨Q, 1, none⟩ (.slice S8 l8 l8)).setCell ⟨Q, 2, none⟩ (.slice S12 l12 l12)).setCell ⟨Q, 3, none⟩ (.int .i64 words)) = W6 at *;obtain ⟨S, hS⟩ : ∃ S : Nat → Nat, ∀ E, needS (entsOf bs o12 words E) = S E := ⟨_, fun _ => rfl⟩
            obtain ⟨N, hN⟩ : ∃ N : Nat → Nat, ∀ R, needE (rowsOf bs o0 o8 R) = N R := ⟨_, fun _ => rfl⟩
            have HBY := Bas.hid (HV.out w (Below.refl _ _)).byte;have HSB : Hid (∀ E, 2 ≤ S E ∧ S E ≤ 65536) := fun E => by rw [← hS]; exact needS_bd HBY.out _ _ _
            have HNB : Hid (∀ R, N R ≤ 65536) := fun R => by rw [← hN]; exact needE_bd HBY.out _ _ _
            have HSS : Hid (∀ E, S (E + 1) = max (S E) ((entOf bs o12 words E).next + 1).toNat) := fun E => by rw [← hS, ← hS]; exact needS_succ _ _ _ _
            have HNS : Hid (∀ R, N (R + 1) = max (N R) (mostOf (rowOf bs o0 o8 R))) := fun R => by rw [← hN, ← hN]; exact needE_succ _ _ _ _
            have HSM : Hid (∀ E E', E ≤ E' → S E ≤ S E') := fun E E' h => by rw [← hS, ← hS]; exact needS_mono _ _ _ h
            have HNM : Hid (∀ R R', R ≤ R' → N R ≤ N R') := fun R R' h => by rw [← hN, ← hN]; exact needE_mono _ _ _ h
            have HS0 : Hid (S 0 = 2) := by unfold Hid; rw [← hS]; rfl
            have HN0 : Hid (N 0 = 0) := by unfold Hid; rw [← hN]; rfl
            have HPY := Bas.hid (parse_yes (words := words) HO0.out HO4.out HO8.out HO12.out (by omega) d4 d6 (by omega) (by omega) (by omega) HPS.out)
            have HGST : Hid (∀ f R E, (R < S E ∨ E < N R) → growM bs o0 o8 o12 words (f + 1) R E = if o8 + 2 * o0 * S E ≤ len then if o12 + (4 + 2 * words) * N (S E) ≤ len then growM bs o0 o8 o12 words f (S E) (N (S E)) else none else none) := fun f R E h => by
             rw [growM_step (by rw [hS, hN]; exact h)]
             simp only [hS, hN, hbl]
            have HGSP : Hid (∀ f R E, ¬ (R < S E ∨ E < N R) → growM bs o0 o8 o12 words (f + 1) R E = some (R, E)) := fun f R E h => growM_stop (by rw [hS, hN]; exact h)
            have HROW : Hid (∀ (r : Nat) (us : List Value) (vr ve : Value) (ents : List EntD) (wr : World), r ≤ 65536 → MBuild wr G G o0 (.pointer (some ⟨TB, 0, none⟩)) vr ve us (rowsOf bs o0 o8 r) ents → Below G w4 wr →
              Calls Tryz.prog 101 #[.agg #[.pointer (some ⟨G, 0, none⟩), .slice S8 l8 l8, .slice S12 l12 l12, .int .i64 words]] wr fun e w' => Below G w4 w' ∧ (∀ g, g < wr.heap.size → g ≠ G → vr.ownBlock ≠ some g → w'.heap[g]? = wr.heap[g]?) ∧
               if 2 * o0 * (r + 1) ≤ l8 then ∃ vr' u, e = .returned (.int .i64 (mostOf (rowOf bs o0 o8 r))) ∧ MBuild w' G G o0 (.pointer (some ⟨TB, 0, none⟩)) vr' ve (us ++ [u]) (rowsOf bs o0 o8 (r + 1)) ents else e = .panicked short) := fun r us vr ve ents wr hr hM hgb => by
             refine (row_any G G o0 _ vr ve us (rowsOf bs o0 o8 r) ents S8 l8 (bs.drop o8) S12 l12 words wr hM (fun w' hb => HS8.out w' (HB3.out.trans ((hgb.trans hb).mono hwG))) (by rw [List.length_drop, hbl]; exact HLL8.out) (by have := HLL8.out; omega) d4 d6 (by rw [rowsOf_len]; exact hr) (by have := hgb.size; have := HG.out; omega)).mono ?_
             rintro e w' ⟨h1, h2, h3⟩;rw [rowsOf_len, rowAt_drop, ← rowsOf_succ, List.length_drop, hbl, HLL8.out] at h3;exact ⟨hgb.trans h1, h2, h3⟩
            have HENT : Hid (∀ (k : Nat) (us : List Value) (vr ve : Value) (rows : List (List Int)) (wr : World), k ≤ 65536 → MBuild wr G G o0 (.pointer (some ⟨TB, 0, none⟩)) vr ve us rows (entsOf bs o12 words k) → Below G w4 wr →
              Calls Tryz.prog 102 #[.agg #[.pointer (some ⟨G, 0, none⟩), .slice S8 l8 l8, .slice S12 l12 l12, .int .i64 words]] wr fun e w' => Below G w4 w' ∧ (∀ g, g < wr.heap.size → g ≠ G → ve.ownBlock ≠ some g → w'.heap[g]? = wr.heap[g]?) ∧
               if (4 + 2 * words) * (k + 1) ≤ l12 then ∃ ve', e = .returned (.int .i64 ((entOf bs o12 words k).next + 1)) ∧ MBuild w' G G o0 (.pointer (some ⟨TB, 0, none⟩)) vr ve' us rows (entsOf bs o12 words (k + 1)) else e = .panicked short) := fun k us vr ve rows wr hk hM hgb => by
             refine (entry_any G G o0 _ vr ve us rows (entsOf bs o12 words k) S8 l8 S12 l12 (bs.drop o12) words wr hM (fun w' hb => HS12.out w' (HB3.out.trans ((hgb.trans hb).mono hwG))) (by rw [List.length_drop, hbl]; exact HLL12.out) (by have := HLL12.out; omega) (by rw [entsOf_len]; exact hk) (by have := hgb.size; have := HG.out; omega) hw).mono ?_
             rintro e w' ⟨h1, h2, h3⟩;rw [entsOf_len, entAt_drop, ← entsOf_succ, List.length_drop, hbl, HLL12.out] at h3;exact ⟨hgb.trans h1, h2, h3⟩
            clear hS hN;go_loopw [10, 11] (fun v10 v11 wr => ∃ (R E f : Nat) (us : List Value) (vr ve : Value), v10 = .int .i64 (S E) ∧ v11 = .int .i64 (N R) ∧ growM bs o0 o8 o12 words (f + 1) R E = growM bs o0 o8 o12 words fuelM 0 0 ∧ R ≤ S E ∧ E ≤ N R ∧ 139999 ≤ f + R + E ∧ o8 + 2 * o0 * R ≤ len ∧ o12 + (4 + 2 * words) * E ≤ len ∧
             MBuild wr G G o0 (.pointer (some ⟨TB, 0, none⟩)) vr ve us (rowsOf bs o0 o8 R) (entsOf bs o12 words E) ∧ Below G w4 wr ∧ wr.heap[Q]? = some (.cells #[.pointer (some ⟨G, 0, none⟩), .slice S8 l8 l8, .slice S12 l12 l12, .int .i64 words] 204 (0, 0))) (fun _ _ wr => 140000 - lenAt wr G 2 - lenAt wr G 3)
            case atStart => exact ⟨0, 0, 139999, [], _, _, by rw [HS0.out]; rfl, by rw [HN0.out]; rfl, rfl, by omega, by omega, by omega, by omega, by omega, HM6.out, HGB6.out, k6⟩
            case round =>
             obtain ⟨R, E, f, us, vr, ve, rfl, rfl, hgr, hR, hE, hf, hoR, hoE, hm, hgb, kq⟩ := hrel;obtain ⟨av, cv, rfl⟩ := own_slice hm.rown;obtain ⟨aw, cw, rfl⟩ := own_slice hm.eown;rw [rowsOf_len, entsOf_len] at hm;have hhead := hm.head;have g0 := cell_of_heap (i := 2) (v := .slice av R cv) hhead rfl;have g1 := cell_of_heap (i := 3) (v := .slice aw E cw) hhead rfl;have HGR := Bas.hid hgr;have HRS := Bas.hid hR;have HER := Bas.hid hE;have HF := Bas.hid hf;have HOR := Bas.hid hoR;have HOE := Bas.hid hoE;have HM0 := Bas.hid hm;have HGB0 := Bas.hid hgb;clear hgr hoR hoE hm hgb hhead k6;by_cases c1 : R < S E
             ·have e1 : decide ((R : Int) < ((S E : Nat) : Int)) = true := by simp; omega
              have e2 : decide (R < S E) = true := by simp; omega
              have HC : Hid (R < S E ∨ E < N R) := .inl c1;clear hR hE hf;go_wp2_with (fail);go_loopw [11] (fun v11 wr => ∃ (r : Nat) (us : List Value) (vr : Value), R ≤ r ∧ r ≤ S E ∧ o8 + 2 * o0 * r ≤ len ∧ v11 = .int .i64 (N r) ∧ MBuild wr G G o0 (.pointer (some ⟨TB, 0, none⟩)) vr (.slice aw E cw) us (rowsOf bs o0 o8 r) (entsOf bs o12 words E) ∧ Below G w4 wr ∧ wr.heap[Q]? = some (.cells #[.pointer (some ⟨G, 0, none⟩), .slice S8 l8 l8, .slice S12 l12 l12, .int .i64 words] 204 (0, 0))) (fun _ wr => 140000 - lenAt wr G 2)
              case atStart => exact ⟨R, us, _, Nat.le_refl _, HRS.out, HOR.out, rfl, HM0.out, HGB0.out, kq⟩
              case round =>
               obtain ⟨r, us1, vr1, hr1, hr2, hr3, rfl, hm1, hgb1, kq1⟩ := hrel;obtain ⟨av1, cv1, rfl⟩ := own_slice hm1.rown;have hhead1 := hm1.head;rw [rowsOf_len] at hhead1;rw [rowsOf_len] at hm1;have HM1 := Bas.hid hm1;have HGB1 := Bas.hid hgb1;clear hm1 hgb1 kq g0 g1;have g2 := cell_of_heap (i := 2) (v := .slice av1 r cv1) hhead1 rfl;have hr8 : r ≤ 65536 := by have := (HSB.out E).2; omega
               by_cases hc1 : r < S E
               ·have e1 : decide ((r : Int) < ((S E : Nat) : Int)) = true := by simp; omega
                have e2 : decide (r < S E) = true := by simp; omega
                have q0 := cell_of_heap (i := 0) (v := .pointer (some ⟨G, 0, none⟩)) kq1 rfl;have q1 := cell_of_heap (i := 1) (v := .slice S8 l8 l8) kq1 rfl;have q2 := cell_of_heap (i := 2) (v := .slice S12 l12 l12) kq1 rfl;have q3 := cell_of_heap (i := 3) (v := .int .i64 words) kq1 rfl;go_wp2_with (fail);refine (HROW.out r _ _ _ _ _ hr8 HM1.out HGB1.out).mono ?_;rintro e w7 ⟨hgb7, hfr, hif⟩;have kq7 := (hfr Q (heap_lt kq1) hGQ.symm (own_ty HM1.out.rown kq1 (by decide))).trans kq1
                have HGB7 := Bas.hid hgb7;clear hfr hgb7 q0 q1 q2 q3 g2;by_cases hlen : 2 * o0 * (r + 1) ≤ l8
                ·rw [if_pos hlen] at hif;obtain ⟨vr7, u7, rfl, hm7⟩ := hif;have hmx := HNS.out r;obtain ⟨m, hm⟩ : ∃ m, mostOf (rowOf bs o0 o8 r) = m := ⟨_, rfl⟩;rw [hm] at hmx ⊢;have hm65 : m ≤ 65536 := by have h1 := HNB.out (r + 1); rw [hmx] at h1; omega
                 have hnr6 := HNB.out r;have HMX := Bas.hid hmx;have HM7 := Bas.hid hm7;have HFIT : Hid (o8 + 2 * o0 * (r + 1) ≤ len) := by have := HLL8.out; unfold Hid; omega
                 clear hmx hm7 hm hlen;by_cases hmx : N r < m
                 ·have e3 : decide (((N r : Nat) : Int) < ((m : Int))) = true := by simp; omega
                  have e4 : ((N r : Nat) : Int) < ((m : Int)) := by omega
                  have HNX : Hid (N (r + 1) = m) := by unfold Hid; rw [HMX.out]; omega
                  clear hmx;go_wp2_with (fail);go_roundw
                  case rel => exact ⟨r + 1, _, _, by omega, by omega, HFIT.out, by rw [HNX.out], HM7.out, HGB7.out, kq7⟩
                  case measure =>
                   have l1 := HM1.out.lens.1;have l2 := HM7.out.lens.1;rw [rowsOf_len] at l1 l2;rw [l1, l2];omega
                 ·have e3 : decide (((N r : Nat) : Int) < ((m : Int))) = false := by simp; omega
                  have e4 : ¬ ((N r : Nat) : Int) < ((m : Int)) := by omega
                  have HNX : Hid (N (r + 1) = N r) := by unfold Hid; rw [HMX.out]; omega
                  clear hmx;go_wp2_with (fail);go_roundw
                  case rel => exact ⟨r + 1, _, _, by omega, by omega, HFIT.out, by rw [HNX.out], HM7.out, HGB7.out, kq7⟩
                  case measure =>
                   have l1 := HM1.out.lens.1;have l2 := HM7.out.lens.1;rw [rowsOf_len] at l1 l2;rw [l1, l2];omega
                ·rw [if_neg hlen] at hif;subst hif;have HNO : Hid (parseSt bs gl words = none) := by
                  unfold Hid;rw [HPY.out, ← HGR.out, HGST.out f R E HC.out, if_neg]
                  ·rfl
                  ·intro h;have h1 := Nat.mul_le_mul_left (2 * o0) (show r + 1 ≤ S E by omega)
                   have := HLL8.out;omega
                 have HBE := Bas.hid (HB3.out.trans (HGB7.out.mono hwG));go_wp2_with (fail);exact ⟨rfl, HBE.out, by rw [HNO.out]⟩
               ·obtain rfl : r = S E := by omega
                have e1 : decide (((S E : Nat) : Int) < ((S E : Nat) : Int)) = false := by simp
                have e2 : decide (S E < S E) = false := by simp
                have e3 : ¬ ((S E : Nat) : Int) < ((S E : Nat) : Int) := by omega
                have HFIT8 := Bas.hid hr3;have HEN : Hid (E ≤ N (S E)) := Nat.le_trans HER.out (HNM.out R (S E) HRS.out);clear hr3;go_wp2_with (fail);go_loopw [10] (fun v10 wr => ∃ (e : Nat) (ve : Value), E ≤ e ∧ e ≤ N (S E) ∧ o12 + (4 + 2 * words) * e ≤ len ∧ v10 = .int .i64 (S e) ∧ MBuild wr G G o0 (.pointer (some ⟨TB, 0, none⟩)) (.slice av1 (S E) cv1) ve us1 (rowsOf bs o0 o8 (S E)) (entsOf bs o12 words e) ∧ Below G w4 wr ∧ wr.heap[Q]? = some (.cells #[.pointer (some ⟨G, 0, none⟩), .slice S8 l8 l8, .slice S12 l12 l12, .int .i64 words] 204 (0, 0))) (fun _ wr => 140000 - lenAt wr G 3)
                case atStart => exact ⟨E, _, Nat.le_refl _, HEN.out, HOE.out, rfl, HM1.out, HGB1.out, kq1⟩
                case round =>
                 obtain ⟨e0, ve2, he1, he2, he3, rfl, hm2, hgb2, kq2⟩ := hrel;obtain ⟨aw2, cw2, rfl⟩ := own_slice hm2.eown;have hhead2 := hm2.head;rw [entsOf_len] at hhead2;rw [entsOf_len] at hm2;have HM2 := Bas.hid hm2;have HGB2 := Bas.hid hgb2;clear hm2 hgb2 kq1 g2;have g3 := cell_of_heap (i := 3) (v := .slice aw2 e0 cw2) hhead2 rfl;have hw8 : e0 ≤ 65536 := by have := HNB.out (S E); omega
                 by_cases hc2 : e0 < N (S E)
                 ·have e1 : decide ((e0 : Int) < ((N (S E) : Nat) : Int)) = true := by simp; omega
                  have e2 : decide (e0 < N (S E)) = true := by simp; omega
                  have q0 := cell_of_heap (i := 0) (v := .pointer (some ⟨G, 0, none⟩)) kq2 rfl;have q1 := cell_of_heap (i := 1) (v := .slice S8 l8 l8) kq2 rfl;have q2 := cell_of_heap (i := 2) (v := .slice S12 l12 l12) kq2 rfl;have q3 := cell_of_heap (i := 3) (v := .int .i64 words) kq2 rfl;go_wp2_with (fail);refine (HENT.out e0 _ _ _ _ _ hw8 HM2.out HGB2.out).mono ?_;rintro e w7 ⟨hgb7, hfr, hif⟩;have kq7 := (hfr Q (heap_lt kq2) hGQ.symm (own_ty HM2.out.eown kq2 (by decide))).trans kq2
                  have HGB7 := Bas.hid hgb7;clear hfr hgb7 q0 q1 q2 q3 g3;by_cases hlen : (4 + 2 * words) * (e0 + 1) ≤ l12
                  ·rw [if_pos hlen] at hif;obtain ⟨ve7, rfl, hm7⟩ := hif;have hb7 := (entOf_bd HBY.out o12 words e0).1;have hmx := HSS.out e0;obtain ⟨m, hm⟩ := Int.eq_ofNat_of_zero_le hb7.1;rw [hm] at hmx hb7 ⊢;have hm65 : m ≤ 65535 := by omega
                   rw [show ((m : Int) + 1).toNat = m + 1 by omega] at hmx
                   have HMX := Bas.hid hmx;have HM7 := Bas.hid hm7;have HSB7 := HSB.out e0;have HFIT : Hid (o12 + (4 + 2 * words) * (e0 + 1) ≤ len) := by have := HLL12.out; unfold Hid; omega
                   clear hmx hm7 hb7 hm hlen;by_cases hmx : S e0 < m + 1
                   ·have e3 : decide (((S e0 : Nat) : Int) < ((m : Int) + 1)) = true := by simp; omega
                    have e4 : ((S e0 : Nat) : Int) < ((m : Int) + 1) := by omega
                    have HNX : Hid (S (e0 + 1) = m + 1) := by unfold Hid; rw [HMX.out]; omega
                    clear hmx;go_wp2_with (fail);go_roundw
                    case rel => exact ⟨e0 + 1, _, by omega, by omega, HFIT.out, by rw [HNX.out] <;> go_num, HM7.out, HGB7.out, kq7⟩
                    case measure =>
                     have l1 := HM2.out.lens.2;have l2 := HM7.out.lens.2;rw [entsOf_len] at l1 l2;rw [l1, l2];omega
                   ·have e3 : decide (((S e0 : Nat) : Int) < ((m : Int) + 1)) = false := by simp; omega
                    have e4 : ¬ ((S e0 : Nat) : Int) < ((m : Int) + 1) := by omega
                    have HNX : Hid (S (e0 + 1) = S e0) := by unfold Hid; rw [HMX.out]; omega
                    clear hmx;go_wp2_with (fail);go_roundw
                    case rel => exact ⟨e0 + 1, _, by omega, by omega, HFIT.out, by rw [HNX.out] <;> go_num, HM7.out, HGB7.out, kq7⟩
                    case measure =>
                     have l1 := HM2.out.lens.2;have l2 := HM7.out.lens.2;rw [entsOf_len] at l1 l2;rw [l1, l2];omega
                  ·rw [if_neg hlen] at hif;subst hif;have HNO : Hid (parseSt bs gl words = none) := by
                    unfold Hid;rw [HPY.out, ← HGR.out, HGST.out f R E HC.out, if_pos HFIT8.out, if_neg]
                    ·rfl
                    ·intro h;have h1 := Nat.mul_le_mul_left (4 + 2 * words) (show e0 + 1 ≤ N (S E) by omega)
                     have := HLL12.out;omega
                   have HBE := Bas.hid (HB3.out.trans (HGB7.out.mono hwG));go_wp2_with (fail);exact ⟨rfl, HBE.out, by rw [HNO.out]⟩
                 ·obtain rfl : e0 = N (S E) := by omega
                  have e1 : decide (((N (S E) : Nat) : Int) < ((N (S E) : Nat) : Int)) = false := by simp
                  have e2 : decide (N (S E) < N (S E)) = false := by simp
                  have e3 : ¬ ((N (S E) : Nat) : Int) < ((N (S E) : Nat) : Int) := by omega
                  have HF12 := Bas.hid he3;have hsb := HSB.out E;have hnr := HNM.out R (S E) HRS.out;have hns := HSM.out E (N (S E)) (by have := HER.out; omega)
                  have hcc := HC.out;have hff := HF.out;obtain ⟨f', hf'⟩ : ∃ f', f = f' + 1 := ⟨f - 1, by have := HRS.out; have := HER.out; omega⟩
                  have HGR2 : Hid (growM bs o0 o8 o12 words (f' + 1) (S E) (N (S E)) = growM bs o0 o8 o12 words fuelM 0 0) := by
                   unfold Hid;rw [← HGR.out, HGST.out f R E HC.out, if_pos HFIT8.out, if_pos HF12.out, hf']
                  have HRSO := HRS.out;have HERO := HER.out;clear he3;go_wp2_with (fail);go_roundw
                  case rel => exact ⟨S E, N (S E), f', _, _, _, rfl, rfl, HGR2.out, hns, Nat.le_refl _, by omega, HFIT8.out, HF12.out, HM2.out, HGB2.out, kq2⟩
                  case measure =>
                   have l1 := HM2.out.lens;have l2 := HM0.out.lens;rw [entsOf_len, rowsOf_len] at l1 l2;rw [l1.1, l1.2, l2.1, l2.2];omega
             ·have e1 : decide ((R : Int) < ((S E : Nat) : Int)) = false := by simp; omega
              have e2 : decide (R < S E) = false := by simp; omega
              by_cases c2 : E < N R
              ·have e3 : decide ((E : Int) < ((N R : Nat) : Int)) = true := by simp; omega
               have e4 : decide (E < N R) = true := by simp; omega
               have HC : Hid (R < S E ∨ E < N R) := .inr c2;clear hR hE hf;go_wp2_with (fail);go_loopw [11] (fun v11 wr => ∃ (r : Nat) (us : List Value) (vr : Value), R ≤ r ∧ r ≤ S E ∧ o8 + 2 * o0 * r ≤ len ∧ v11 = .int .i64 (N r) ∧ MBuild wr G G o0 (.pointer (some ⟨TB, 0, none⟩)) vr (.slice aw E cw) us (rowsOf bs o0 o8 r) (entsOf bs o12 words E) ∧ Below G w4 wr ∧ wr.heap[Q]? = some (.cells #[.pointer (some ⟨G, 0, none⟩), .slice S8 l8 l8, .slice S12 l12 l12, .int .i64 words] 204 (0, 0))) (fun _ wr => 140000 - lenAt wr G 2)
               case atStart => exact ⟨R, us, _, Nat.le_refl _, HRS.out, HOR.out, rfl, HM0.out, HGB0.out, kq⟩
               case round =>
                obtain ⟨r, us1, vr1, hr1, hr2, hr3, rfl, hm1, hgb1, kq1⟩ := hrel;obtain ⟨av1, cv1, rfl⟩ := own_slice hm1.rown;have hhead1 := hm1.head;rw [rowsOf_len] at hhead1;rw [rowsOf_len] at hm1;have HM1 := Bas.hid hm1;have HGB1 := Bas.hid hgb1;clear hm1 hgb1 kq g0 g1;have g2 := cell_of_heap (i := 2) (v := .slice av1 r cv1) hhead1 rfl;have hr8 : r ≤ 65536 := by have := (HSB.out E).2; omega
                by_cases hc1 : r < S E
                ·exact absurd (Nat.lt_of_le_of_lt hr1 hc1) c1
                ·obtain rfl : r = S E := by omega
                 have e1 : decide (((S E : Nat) : Int) < ((S E : Nat) : Int)) = false := by simp
                 have e2 : decide (S E < S E) = false := by simp
                 have e3 : ¬ ((S E : Nat) : Int) < ((S E : Nat) : Int) := by omega
                 have HFIT8 := Bas.hid hr3;have HEN : Hid (E ≤ N (S E)) := Nat.le_trans HER.out (HNM.out R (S E) HRS.out);clear hr3;go_wp2_with (fail);go_loopw [10] (fun v10 wr => ∃ (e : Nat) (ve : Value), E ≤ e ∧ e ≤ N (S E) ∧ o12 + (4 + 2 * words) * e ≤ len ∧ v10 = .int .i64 (S e) ∧ MBuild wr G G o0 (.pointer (some ⟨TB, 0, none⟩)) (.slice av1 (S E) cv1) ve us1 (rowsOf bs o0 o8 (S E)) (entsOf bs o12 words e) ∧ Below G w4 wr ∧ wr.heap[Q]? = some (.cells #[.pointer (some ⟨G, 0, none⟩), .slice S8 l8 l8, .slice S12 l12 l12, .int .i64 words] 204 (0, 0))) (fun _ wr => 140000 - lenAt wr G 3)
                 case atStart => exact ⟨E, _, Nat.le_refl _, HEN.out, HOE.out, rfl, HM1.out, HGB1.out, kq1⟩
                 case round =>
                  obtain ⟨e0, ve2, he1, he2, he3, rfl, hm2, hgb2, kq2⟩ := hrel;obtain ⟨aw2, cw2, rfl⟩ := own_slice hm2.eown;have hhead2 := hm2.head;rw [entsOf_len] at hhead2;rw [entsOf_len] at hm2;have HM2 := Bas.hid hm2;have HGB2 := Bas.hid hgb2;clear hm2 hgb2 kq1 g2;have g3 := cell_of_heap (i := 3) (v := .slice aw2 e0 cw2) hhead2 rfl;have hw8 : e0 ≤ 65536 := by have := HNB.out (S E); omega
                  by_cases hc2 : e0 < N (S E)
                  ·have e1 : decide ((e0 : Int) < ((N (S E) : Nat) : Int)) = true := by simp; omega
                   have e2 : decide (e0 < N (S E)) = true := by simp; omega
                   have q0 := cell_of_heap (i := 0) (v := .pointer (some ⟨G, 0, none⟩)) kq2 rfl;have q1 := cell_of_heap (i := 1) (v := .slice S8 l8 l8) kq2 rfl;have q2 := cell_of_heap (i := 2) (v := .slice S12 l12 l12) kq2 rfl;have q3 := cell_of_heap (i := 3) (v := .int .i64 words) kq2 rfl;go_wp2_with (fail);refine (HENT.out e0 _ _ _ _ _ hw8 HM2.out HGB2.out).mono ?_;rintro e w7 ⟨hgb7, hfr, hif⟩;have kq7 := (hfr Q (heap_lt kq2) hGQ.symm (own_ty HM2.out.eown kq2 (by decide))).trans kq2
                   have HGB7 := Bas.hid hgb7;clear hfr hgb7 q0 q1 q2 q3 g3;by_cases hlen : (4 + 2 * words) * (e0 + 1) ≤ l12
                   ·rw [if_pos hlen] at hif;obtain ⟨ve7, rfl, hm7⟩ := hif;have hb7 := (entOf_bd HBY.out o12 words e0).1;have hmx := HSS.out e0;obtain ⟨m, hm⟩ := Int.eq_ofNat_of_zero_le hb7.1;rw [hm] at hmx hb7 ⊢;have hm65 : m ≤ 65535 := by omega
                    rw [show ((m : Int) + 1).toNat = m + 1 by omega] at hmx
                    have HMX := Bas.hid hmx;have HM7 := Bas.hid hm7;have HSB7 := HSB.out e0;have HFIT : Hid (o12 + (4 + 2 * words) * (e0 + 1) ≤ len) := by have := HLL12.out; unfold Hid; omega
                    clear hmx hm7 hb7 hm hlen;by_cases hmx : S e0 < m + 1
                    ·have e3 : decide (((S e0 : Nat) : Int) < ((m : Int) + 1)) = true := by simp; omega
                     have e4 : ((S e0 : Nat) : Int) < ((m : Int) + 1) := by omega
                     have HNX : Hid (S (e0 + 1) = m + 1) := by unfold Hid; rw [HMX.out]; omega
                     clear hmx;go_wp2_with (fail);go_roundw
                     case rel => exact ⟨e0 + 1, _, by omega, by omega, HFIT.out, by rw [HNX.out] <;> go_num, HM7.out, HGB7.out, kq7⟩
                     case measure =>
                      have l1 := HM2.out.lens.2;have l2 := HM7.out.lens.2;rw [entsOf_len] at l1 l2;rw [l1, l2];omega
                    ·have e3 : decide (((S e0 : Nat) : Int) < ((m : Int) + 1)) = false := by simp; omega
                     have e4 : ¬ ((S e0 : Nat) : Int) < ((m : Int) + 1) := by omega
                     have HNX : Hid (S (e0 + 1) = S e0) := by unfold Hid; rw [HMX.out]; omega
                     clear hmx;go_wp2_with (fail);go_roundw
                     case rel => exact ⟨e0 + 1, _, by omega, by omega, HFIT.out, by rw [HNX.out] <;> go_num, HM7.out, HGB7.out, kq7⟩
                     case measure =>
                      have l1 := HM2.out.lens.2;have l2 := HM7.out.lens.2;rw [entsOf_len] at l1 l2;rw [l1, l2];omega
                   ·rw [if_neg hlen] at hif;subst hif;have HNO : Hid (parseSt bs gl words = none) := by
                     unfold Hid;rw [HPY.out, ← HGR.out, HGST.out f R E HC.out, if_pos HFIT8.out, if_neg]
                     ·rfl
                     ·intro h;have h1 := Nat.mul_le_mul_left (4 + 2 * words) (show e0 + 1 ≤ N (S E) by omega)
                      have := HLL12.out;omega
                    have HBE := Bas.hid (HB3.out.trans (HGB7.out.mono hwG));go_wp2_with (fail);exact ⟨rfl, HBE.out, by rw [HNO.out]⟩
                  ·obtain rfl : e0 = N (S E) := by omega
                   have e1 : decide (((N (S E) : Nat) : Int) < ((N (S E) : Nat) : Int)) = false := by simp
                   have e2 : decide (N (S E) < N (S E)) = false := by simp
                   have e3 : ¬ ((N (S E) : Nat) : Int) < ((N (S E) : Nat) : Int) := by omega
                   have HF12 := Bas.hid he3;have hsb := HSB.out E;have hnr := HNM.out R (S E) HRS.out;have hns := HSM.out E (N (S E)) (by have := HER.out; omega)
                   have hcc := HC.out;have hff := HF.out;obtain ⟨f', hf'⟩ : ∃ f', f = f' + 1 := ⟨f - 1, by have := HRS.out; have := HER.out; omega⟩
                   have HGR2 : Hid (growM bs o0 o8 o12 words (f' + 1) (S E) (N (S E)) = growM bs o0 o8 o12 words fuelM 0 0) := by
                    unfold Hid;rw [← HGR.out, HGST.out f R E HC.out, if_pos HFIT8.out, if_pos HF12.out, hf']
                   have HRSO := HRS.out;have HERO := HER.out;clear he3;go_wp2_with (fail);go_roundw
                   case rel => exact ⟨S E, N (S E), f', _, _, _, rfl, rfl, HGR2.out, hns, Nat.le_refl _, by omega, HFIT8.out, HF12.out, HM2.out, HGB2.out, kq2⟩
                   case measure =>
                    have l1 := HM2.out.lens;have l2 := HM0.out.lens;rw [entsOf_len, rowsOf_len] at l1 l2;rw [l1.1, l1.2, l2.1, l2.2];omega
              ·have e3 : decide ((E : Int) < ((N R : Nat) : Int)) = false := by simp; omega
               have e4 : decide (E < N R) = false := by simp; omega
               have HYES : Hid (parseSt bs gl words = some ⟨o0, ps, rowsOf bs o0 o8 R, entsOf bs o12 words E⟩) := by
                unfold Hid;rw [HPY.out, ← HGR.out, HGSP.out f R E (by omega)]
                rfl
               have HBE := Bas.hid (HB3.out.trans (HGB0.out.mono hwG));have HATR : Hid (Lives w.heap.size (fun u => MachAt u (.pointer (some ⟨G, 0, none⟩)) ⟨o0, ps, rowsOf bs o0 o8 R, entsOf bs o12 words E⟩) wr) := machLives_of HM0.out (HAT.out.below (by rw [HG.out]; exact HGB0.out)) hwG
               go_wp2_with (fail);go_ret;exact ⟨HBE.out, by rw [HYES.out]; exact ⟨_, rfl, HATR.out⟩⟩
          ·have HNO : Hid (parseSt bs gl words = none) := parse_no (by rw [HO0.out, HO4.out, HO8.out, HO12.out, hbl]; omega)
           have HX := Bas.hid (fun (w' : World) (_ : Below w.heap.size w w') => rest_no a len cap (o12 : Nat) w' hl hc (by omega))
           refine' Pl.region_vh 80 [0] [1, 2, 3, 4, 5, 6, 7, 9] [(11, 9)] 8 38 [10, 12] _ (fun ch w' => ch = short ∧ Below w.heap.size w w') (by kernel_rfl) (by kernel_rfl) (by kernel_rfl) (by simp) (fun _ _ _ _ e h => ⟨e ▸ h.1, h.2⟩) ?_ ?_ ?_ ?_
           rotate_left
           ·intro I F hI hF;simp only [Pl.selN, List.nil_append, List.cons_append, List.drop_succ_cons, List.drop_zero];have z0 := fun i => hF.cell lT t0 i
            repeat (go_big_quiet_step ((first | (go_at_call 50; with_reducible exact hF.call (HU8.out _ (HB4.out.trans ((hF.bel _).mono HB4.out.size)))) | (go_at_call 75; with_reducible exact hF.call (HR8.out _ (HB4.out.trans ((hF.bel _).mono HB4.out.size)))) | (go_at_call 50; with_reducible exact hF.call (HU12.out _ (HB4.out.trans ((hF.bel _).mono HB4.out.size)))))))
            refine wpQuiet_nil ?_;rfl
           ·simp only [Pl.selN, List.drop_succ_cons, List.drop_zero, List.mem_singleton, forall_eq];intro u hu
            go_simp
            simp only [Pl.valsAt];have hbu := HB4.out.trans (hu.mono HB4.out.size);refine (HX.out u hbu).mono ?_;rintro e w'' ⟨he, hb⟩;exact .inr ⟨short, he, rfl, hbu.trans (hb.mono hbu.size)⟩
           ·intro z hz;simp only [List.mem_singleton] at hz;subst hz;simp only [Pl.selN, List.drop_succ_cons, List.drop_zero, List.mem_singleton, forall_eq];intro u hu
            go_simp
            simp only [Pl.valsAt];exact (Below.refl _ _).alloc (Nat.le_refl _) _
           ·rintro c' a' u hd ⟨rfl, hb⟩;exact ⟨hd, hb, by rw [HNO.out]⟩
         ·have HNO : Hid (parseSt bs gl words = none) := parse_no (by rw [HO0.out, HO4.out, HO8.out, HO12.out, hbl]; omega)
          have HX := Bas.hid (fun (w' : World) (_ : Below w.heap.size w w') => u32_no a len cap 12 w' hl hc (by omega))
          refine' Pl.region_vh 80 [0] [1, 2, 3, 4, 5, 6, 9] [(11, 9)] 7 37 [8, 10, 12] _ (fun ch w' => ch = short ∧ Below w.heap.size w w') (by kernel_rfl) (by kernel_rfl) (by kernel_rfl) (by simp) (fun _ _ _ _ e h => ⟨e ▸ h.1, h.2⟩) ?_ ?_ ?_ ?_
          rotate_left
          ·intro I F hI hF;simp only [Pl.selN, List.nil_append, List.cons_append, List.drop_succ_cons, List.drop_zero];have z0 := fun i => hF.cell lT t0 i
           repeat (go_big_quiet_step ((first | (go_at_call 50; with_reducible exact hF.call (HU8.out _ (HB4.out.trans ((hF.bel _).mono HB4.out.size)))) | (go_at_call 75; with_reducible exact hF.call (HR8.out _ (HB4.out.trans ((hF.bel _).mono HB4.out.size)))))))
           refine wpQuiet_nil ?_;rfl
          ·simp only [Pl.selN, List.drop_succ_cons, List.drop_zero, List.mem_singleton, forall_eq];intro u hu
           go_simp
           simp only [Pl.valsAt];have hbu := HB4.out.trans (hu.mono HB4.out.size);refine (HX.out u hbu).mono ?_;rintro e w'' ⟨he, hb⟩;exact .inr ⟨short, he, rfl, hbu.trans (hb.mono hbu.size)⟩
          ·intro z hz;simp only [List.mem_singleton] at hz;subst hz;simp only [Pl.selN, List.drop_succ_cons, List.drop_zero, List.mem_singleton, forall_eq];intro u hu
           go_simp
           simp only [Pl.valsAt];exact (Below.refl _ _).alloc (Nat.le_refl _) _
          ·rintro c' a' u hd ⟨rfl, hb⟩;exact ⟨hd, hb, by rw [HNO.out]⟩
        ·have HNO : Hid (parseSt bs gl words = none) := parse_no (by rw [HO0.out, HO4.out, HO8.out, HO12.out, hbl]; omega)
         have HX := Bas.hid (fun (w' : World) (_ : Below w.heap.size w w') => rest_no a len cap (o8 : Nat) w' hl hc (by omega))
         refine' Pl.region_vh 80 [0] [1, 2, 3, 5, 6, 9] [(11, 9)] 4 34 [7, 8, 10, 12] _ (fun ch w' => ch = short ∧ Below w.heap.size w w') (by kernel_rfl) (by kernel_rfl) (by kernel_rfl) (by simp) (fun _ _ _ _ e h => ⟨e ▸ h.1, h.2⟩) ?_ ?_ ?_ ?_
         rotate_left
         ·intro I F hI hF;simp only [Pl.selN, List.nil_append, List.cons_append, List.drop_succ_cons, List.drop_zero];have z0 := fun i => hF.cell lT t0 i
          repeat (go_big_quiet_step ((first | (go_at_call 50; with_reducible exact hF.call (HU8.out _ (HB4.out.trans ((hF.bel _).mono HB4.out.size)))))))
          refine wpQuiet_nil ?_;rfl
         ·simp only [Pl.selN, List.drop_succ_cons, List.drop_zero, List.mem_singleton, forall_eq];intro u hu
          go_simp
          simp only [Pl.valsAt];have hbu := HB4.out.trans (hu.mono HB4.out.size);refine (HX.out u hbu).mono ?_;rintro e w'' ⟨he, hb⟩;exact .inr ⟨short, he, rfl, hbu.trans (hb.mono hbu.size)⟩
         ·intro z hz;simp only [List.mem_singleton] at hz;subst hz;simp only [Pl.selN, List.drop_succ_cons, List.drop_zero, List.mem_singleton, forall_eq];intro u hu
          go_simp
          simp only [Pl.valsAt];exact (Below.refl _ _).alloc (Nat.le_refl _) _
         ·rintro c' a' u hd ⟨rfl, hb⟩;exact ⟨hd, hb, by rw [HNO.out]⟩
       ·have HNO : Hid (parseSt bs gl words = none) := parse_no (by rw [HO0.out, HO4.out, HO8.out, HO12.out, hbl]; omega)
        have HX := Bas.hid (fun (w' : World) (_ : Below w.heap.size w w') => u32_no a len cap 8 w' hl hc (by omega))
        refine' Pl.region_vh 80 [0] [1, 2, 5, 6, 9] [(11, 9)] 3 33 [4, 7, 8, 10, 12] _ (fun ch w' => ch = short ∧ Below w.heap.size w w') (by kernel_rfl) (by kernel_rfl) (by kernel_rfl) (by simp) (fun _ _ _ _ e h => ⟨e ▸ h.1, h.2⟩) ?_ ?_ ?_ ?_
        rotate_left
        ·intro I F hI hF;simp only [Pl.selN, List.nil_append, List.cons_append, List.drop_succ_cons, List.drop_zero];have z0 := fun i => hF.cell lT t0 i
         repeat (go_big_quiet_step (fail))
         refine wpQuiet_nil ?_;rfl
        ·simp only [Pl.selN, List.drop_succ_cons, List.drop_zero, List.mem_singleton, forall_eq];intro u hu
         go_simp
         simp only [Pl.valsAt];have hbu := HB4.out.trans (hu.mono HB4.out.size);refine (HX.out u hbu).mono ?_;rintro e w'' ⟨he, hb⟩;exact .inr ⟨short, he, rfl, hbu.trans (hb.mono hbu.size)⟩
        ·intro z hz;simp only [List.mem_singleton] at hz;subst hz;simp only [Pl.selN, List.drop_succ_cons, List.drop_zero, List.mem_singleton, forall_eq];intro u hu
         go_simp
         simp only [Pl.valsAt];exact (Below.refl _ _).alloc (Nat.le_refl _) _
        ·rintro c' a' u hd ⟨rfl, hb⟩;exact ⟨hd, hb, by rw [HNO.out]⟩
     ·have HNO : Hid (parseSt bs gl words = none) := parse_no (by rw [HO0.out, HO4.out, HO8.out, HO12.out, hbl]; omega)
      have HX := Bas.hid (fun (w' : World) (_ : Below w.heap.size w w') => rest_no a len cap (o4 : Nat) w' hl hc (by omega))
      refine' Pl.region_vh 80 [0] [1, 2, 3, 5] [] 4 25 [6, 7, 8, 9] _ (fun ch w' => ch = short ∧ Below w.heap.size w w') (by kernel_rfl) (by kernel_rfl) (by kernel_rfl) (by simp) (fun _ _ _ _ e h => ⟨e ▸ h.1, h.2⟩) ?_ ?_ ?_ ?_
      rotate_left
      ·intro I F hI hF;simp only [Pl.selN, List.nil_append, List.cons_append, List.drop_succ_cons, List.drop_zero];have z0 := fun i => hF.cell lT t0 i
       repeat (go_big_quiet_step ((first | (go_at_call 50; with_reducible exact hF.call (HU4.out _ (HB2.out.trans ((hF.bel _).mono HB2.out.size)))))))
       refine wpQuiet_nil ?_;rfl
      ·simp only [Pl.selN, List.drop_succ_cons, List.drop_zero, List.mem_singleton, forall_eq];intro u hu
       go_simp
       simp only [Pl.valsAt];have hbu := HB2.out.trans (hu.mono HB2.out.size);refine (HX.out u hbu).mono ?_;rintro e w'' ⟨he, hb⟩;exact .inr ⟨short, he, rfl, hbu.trans (hb.mono hbu.size)⟩
      ·intro z hz;cases hz
      ·rintro c' a' u hd ⟨rfl, hb⟩;exact ⟨hd, hb, by rw [HNO.out]⟩
    ·have HNO : Hid (parseSt bs gl words = none) := parse_no (by rw [HO0.out, HO4.out, HO8.out, HO12.out, hbl]; omega)
     have HX := Bas.hid (fun (w' : World) (_ : Below w.heap.size w w') => u32_no a len cap 4 w' hl hc (by omega))
     refine' Pl.region_vh 80 [0] [1, 2, 5] [] 3 24 [4, 6, 7, 8, 9] _ (fun ch w' => ch = short ∧ Below w.heap.size w w') (by kernel_rfl) (by kernel_rfl) (by kernel_rfl) (by simp) (fun _ _ _ _ e h => ⟨e ▸ h.1, h.2⟩) ?_ ?_ ?_ ?_
     rotate_left
     ·intro I F hI hF;simp only [Pl.selN, List.nil_append, List.cons_append, List.drop_succ_cons, List.drop_zero];have z0 := fun i => hF.cell lT t0 i
      repeat (go_big_quiet_step (fail))
      refine wpQuiet_nil ?_;rfl
     ·simp only [Pl.selN, List.drop_succ_cons, List.drop_zero, List.mem_singleton, forall_eq];intro u hu
      go_simp
      simp only [Pl.valsAt];have hbu := HB2.out.trans (hu.mono HB2.out.size);refine (HX.out u hbu).mono ?_;rintro e w'' ⟨he, hb⟩;exact .inr ⟨short, he, rfl, hbu.trans (hb.mono hbu.size)⟩
     ·intro z hz;cases hz
     ·rintro c' a' u hd ⟨rfl, hb⟩;exact ⟨hd, hb, by rw [HNO.out]⟩
   ·have e1 : decide ((4 : Int) ≤ (o0 : Int)) = true := by simp; omega
    have e2 : decide ((o0 : Int) ≤ 65535) = false := by simp; omega
    have HNO : Hid (parseSt bs gl words = none) := parse_no (by rw [HO0.out, HO4.out, HO8.out, HO12.out, hbl]; omega)
    go_wp2_with (fail);refine (need_nob _ _ (by first | rfl | (simp; done) | (simp; omega))).mono ?_
    rintro e w' ⟨rfl, rfl⟩;exact ⟨rfl, HB2.out, by rw [HNO.out]⟩
  ·have e1 : decide ((4 : Int) ≤ (o0 : Int)) = false := by simp; omega
   have HNO : Hid (parseSt bs gl words = none) := parse_no (by rw [HO0.out, HO4.out, HO8.out, HO12.out, hbl]; omega)
   go_wp2_with (fail);refine (need_nob _ _ (by first | rfl | (simp; done) | (simp; omega))).mono ?_
   rintro e w' ⟨rfl, rfl⟩;exact ⟨rfl, HB2.out, by rw [HNO.out]⟩
 ·have HNO : Hid (parseSt bs gl words = none) := parse_no (by rw [HO0.out, HO4.out, HO8.out, HO12.out, hbl]; omega)
  have HX := Bas.hid (fun (w' : World) (_ : Below w.heap.size w w') => u32_no a len cap 0 w' hl hc (by omega))
  go_wp2_with (fail);generalize w.alloc (.cells #[.slice a len cap] 52) = W1 at *;refine (HX.out _ HB1.out).mono ?_;rintro e w1 ⟨rfl, hb1⟩;have HB2 := Bas.hid (HB1.out.trans (hb1.mono HB1.out.size));clear hb1;go_wp2_with (fail);exact ⟨rfl, HB2.out, by rw [HNO.out]⟩
end St
namespace Lk
open Vw Sk Ch
theorem lk_part {w : World} {v : Value} {ps : List PartD} (h : LkAt w v ps) : ∃ g fmt ad cap, v = .pointer (some ⟨g, 0, none⟩) ∧ w.heap[g]? = some (.cells #[.int .i64 fmt, .slice ad ps.length cap] 217 (0, 0)) ∧
  ∀ (i : Nat) (p : PartD), ps[i]? = some p → ∃ B O av cv, ad = some ⟨B, O, none⟩ ∧ w.cell? ⟨B, O + i * 3, none⟩ = some (.int .i64 p.first) ∧ w.cell? ⟨B, O + i * 3 + 1, none⟩ = some (.int .i64 p.last) ∧ w.cell? ⟨B, O + i * 3 + 2, none⟩ = some (.slice av p.vals.length cv) ∧ B < w.heap.size ∧
   Row.Leads w (.slice av p.vals.length cv) p.vals.length (p.vals.map (Value.int .i64)) := by
 obtain ⟨g, fmt, vp, vs, h1, h2, h3, h4, h5⟩ := h;obtain ⟨ad, cap, rfl⟩ := Row.leads_slice h4;refine ⟨g, fmt, ad, cap, h1, h2, fun i p hp => ?_⟩
 obtain ⟨u, hu⟩ : ∃ u, vs[i]? = some u := ⟨_, List.getElem?_eq_getElem (by rw [h3]; exact (List.getElem?_eq_some_iff.1 hp).1)⟩
 have hz : (ps.zip vs)[i]? = some (p, u) := List.getElem?_zip_eq_some.2 ⟨hp, hu⟩;obtain ⟨B, O, cp, hv, hcl⟩ := Row.leads_elem prC_len h4 hz (by omega)
 cases hv;have hl := h5 i p u hp hu;obtain ⟨av, cv, rfl⟩ := Row.leads_slice hl;have c0 := hcl 0 _ rfl;simp only [Nat.add_zero] at c0;exact ⟨B, O, av, cv, rfl, c0, hcl 1 _ rfl, hcl 2 _ rfl, World.block_lt_of_cell? _ _ c0, hl⟩
set_option maxRecDepth 100000 in
set_option maxHeartbeats 2000000 in
theorem get1_any (v : Value) (ps : List PartD) (id : Int) (k : Nat) (p : PartD) (T2 T3 : Nat) (w : World) (h : LkAt w v ps) (hk : ps[k]? = some p) (h2 : w.heap[T2]? = some (.cells #[v] 172 (0, 0))) (h3 : w.heap[T3]? = some (.cells #[.int .i64 id] 3 (0, 0))) :
  Calls Tryz.prog 117 #[.int .i64 k, .pointer (some ⟨T2, 0, none⟩), .pointer (some ⟨T3, 0, none⟩)] w fun e w' => e = .returned (.bool (decide (id ≤ p.last))) ∧ Below w.heap.size w w' := by
 obtain ⟨g, fmt, ad, cap, rfl, hg, hp⟩ := lk_part h;obtain ⟨B, O, av, cv, rfl, c0, c1, _, lB, _⟩ := hp k p hk;have hkl : k < ps.length := (List.getElem?_eq_some_iff.1 hk).1;obtain ⟨l, hl⟩ : ∃ l, p.last = l := ⟨_, rfl⟩;rw [hl] at c1 ⊢;have g1 := cell_of_heap (i := 1) hg rfl;have q2 := cell_of_heap (i := 0) h2 rfl;have q3 := cell_of_heap (i := 0) h3 rfl;have lg := heap_lt hg;have l2 := heap_lt h2;have l3 := heap_lt h3;have e1 : decide ((k : Int) < (ps.length : Int)) = true := by simp; omega
 have e2 : decide (k < ps.length) = true := by simp; omega
 generalize ps.length = n at *;obtain ⟨b, hb⟩ : ∃ b, decide (id ≤ l) = b := ⟨_, rfl⟩;have hb2 : decide (l ≥ id) = b := hb;rw [hb];clear h hp hg h2 h3 hk hl c0;go_enter Tryz.func117, Tryz.ntmps117
 go_wp2_with (fail);refine' Pl.region_v0 15 [] [0, 1, 2, 3, 4, 5, 6, 7, 8, 9] [10] _ (by kernel_rfl) (by kernel_rfl) (by simp) (fun _ _ _ _ e h => ⟨e ▸ h.1, h.2⟩) ?_ ?_
 rotate_left
 ·intro I F hI hF;simp only [Pl.selN, List.nil_append, List.drop_succ_cons, List.drop_zero];have x0 := fun i => hF.cell lg g1 i
  have x1 := fun i => hF.cell lB c1 i
  have x2 := fun i => hF.cell l2 q2 i
  have x3 := fun i => hF.cell l3 q3 i
  repeat (go_big_quiet_step (fail))
  refine wpQuiet_nil ?_;rfl
 intro u hu;simp only [Pl.selN, List.drop_succ_cons, List.drop_zero];have HU := Bas.hid hu;clear hu g1 q2 q3 c1;go_wp2_with (fail);go_ret;exact ⟨rfl, HU.out⟩
set_option maxRecDepth 100000 in
set_option maxHeartbeats 2000000 in
theorem at_any (p : PartD) (av : Option Addr) (cv : Nat) (id : Int) (w : World) (ho : PartOk p) (h0 : p.first ≤ id) (h1 : id ≤ p.last) (hl : Row.Leads w (.slice av p.vals.length cv) p.vals.length (p.vals.map (Value.int .i64))) :
  Calls Tryz.prog 118 #[.agg #[.int .i64 p.first, .int .i64 p.last, .slice av p.vals.length cv], .int .i64 id] w fun e w' => e = .returned (.int .i64 (pnum p id)) ∧ Below w.heap.size w w' := by
 have a1 := ho.some;have a2 := ho.len;have a3 := ho.first0;have a4 := ho.last1;obtain ⟨q, hq⟩ := Int.eq_ofNat_of_zero_le (show 0 ≤ min (id - p.first) ((p.vals.length : Int) - 1) by omega)
 have hqn : q < p.vals.length := by omega
 obtain ⟨x, hx⟩ : ∃ x, p.vals[q]? = some x := ⟨_, List.getElem?_eq_getElem hqn⟩;have hpn : pnum p id = x := by
  unfold pnum;rw [hq, Int.toNat_natCast, List.getD_eq_getElem?_getD, hx]; rfl
 rw [hpn];rcases hl with ⟨_, h2, _⟩ | ⟨ad, cp, hv, hc⟩
 ·omega
 cases hv;have c00 : ∃ u, w.cell? (ad.add 0) = some u := by
  obtain ⟨y, hy⟩ : ∃ y, p.vals[0]? = some y := ⟨_, List.getElem?_eq_getElem a1⟩;exact ⟨_, hc 0 (.int .i64 y) (by rw [List.getElem?_map, hy]; rfl)⟩
 obtain ⟨had, c⟩ := Bas.spot_add c00 (hc q (.int .i64 x) (by rw [List.getElem?_map, hx]; rfl))
 obtain ⟨B, hB⟩ : ∃ B, ad.block = B := ⟨_, rfl⟩;obtain ⟨O, hO⟩ : ∃ O, ad.off = O := ⟨_, rfl⟩;rw [hB, hO] at had c;subst had;have lad : B < w.heap.size := World.block_lt_of_cell? _ _ c;have HBX := Bas.hid ((Below.refl w.heap.size w).alloc (Nat.le_refl _) (.cells #[.int .i64 p.first, .int .i64 p.last, .slice (some ⟨B, O, none⟩) p.vals.length cv] 220));generalize p.first = f at *;generalize p.last = l at *;generalize p.vals.length = n at *;have e1 : decide ((q : Int) < (n : Int)) = true := by simp; omega
 have e2 : decide (q < n) = true := by simp; omega
 obtain ⟨d, hd⟩ := Int.eq_ofNat_of_zero_le (show 0 ≤ id - f by omega)
 obtain ⟨m, hm⟩ := Int.eq_ofNat_of_zero_le (show 0 ≤ (n : Int) - 1 by omega)
 rw [hd, hm] at hq;clear hc hx hpn ho c00 hB hO;by_cases hdm : d ≤ m
 ·have e3 : decide ((d : Int) ≤ (m : Int)) = true := by simp; omega
  have e4 : (d : Int) ≤ (m : Int) := by omega
  have hqd : q = d := by omega
  subst hqd;clear hq;go_enter Tryz.func118, Tryz.ntmps118
  go_wp2_with (fail);go_ret;exact ⟨rfl, HBX.out⟩
 ·have e3 : decide ((d : Int) ≤ (m : Int)) = false := by simp; omega
  have e4 : ¬ (d : Int) ≤ (m : Int) := by omega
  have hqd : q = m := by omega
  subst hqd;clear hq;go_enter Tryz.func118, Tryz.ntmps118
  go_wp2_with (fail);go_ret;exact ⟨rfl, HBX.out⟩
theorem find_first {α : Type} (q : α → Bool) : ∀ (l : List α) (k : Nat), (∀ i x, i < k → l[i]? = some x → q x = false) → (∀ x, l[k]? = some x → q x = true) → l.find? q = l[k]?
 | [], k, _, _ => by simp
 | x :: l, 0, _, h2 => by
  have := h2 x rfl;simp [this]
 | x :: l, k + 1, h1, h2 => by
  have h0 := h1 0 x (by omega) rfl
  rw [List.find?_cons, h0];simpa using find_first q l k (fun i y hi hy => h1 (i + 1) y (by omega) (by simpa using hy)) (fun y hy => h2 y (by simpa using hy))
theorem last_mono {ps : List PartD} (ho : ∀ p ∈ ps, PartOk p) (hr : rises ps = true) {i j : Nat} {p q : PartD} (hij : i ≤ j) (hp : ps[i]? = some p) (hq : ps[j]? = some q) : p.last ≤ q.last := by
 rcases Nat.eq_or_lt_of_le hij with rfl | hlt
 ·rw [hp] at hq; cases hq; exact Int.le_refl _
 ·obtain ⟨h1, h2⟩ := List.getElem?_eq_some_iff.1 hp;obtain ⟨h3, h4⟩ := List.getElem?_eq_some_iff.1 hq;have h := List.pairwise_iff_getElem.1 (rises_last ho hr) i j h1 h3 hlt;rw [h2, h4] at h;have := (ho q (List.mem_of_getElem? hq)).le;omega
def GetP (w : World) (ps : List PartD) (id : Int) (e : Ending) (w' : World) : Prop :=
 e = .returned (.tuple #[.int .i64 ((getL ps id).getD 0), .bool (getL ps id).isSome]) ∧ Below w.heap.size w w'
set_option maxRecDepth 100000 in
set_option maxHeartbeats 4000000 in
theorem get_any (v : Value) (ps : List PartD) (id : Int) (w : World) (h : LkAt w v ps) (ho : ∀ p ∈ ps, PartOk p) (hr : rises ps = true) (hn : ps.length ≤ 4294967296) :
  Calls Tryz.prog 90 #[v, .int .i64 id] w (GetP w ps id) := by
 have hmf : ∀ (fn : Fn) (first cap : Array Value) (w : World), (Instr.makeFunc fn first cap).run Tryz.prog w = .ok (.func fn first cap) w := fun _ _ _ _ => rfl
 have hcf : ∀ (caps : Array Value) w, (callFunc 117 caps).run Tryz.prog w = .ok (.enter 117 caps) w := fun caps w => by simp [go_sem]
 have HCF := Bas.hid hcf;have HH := Bas.hid h;have HO := Bas.hid ho;have HR := Bas.hid hr;obtain ⟨g, fmt, ad, cap, rfl, hg, hp⟩ := lk_part h;have BX := ((Below.refl w.heap.size w).alloc (Nat.le_refl _) (.cells #[.pointer (some ⟨g, 0, none⟩)] 172)).alloc (by simp) (.cells #[.int .i64 id] 3)
 have k2 := (Below.heap_alloc (w.alloc (.cells #[.pointer (some ⟨g, 0, none⟩)] 172)) (.cells #[.int .i64 id] 3) _ (by simp)).trans (Bas.heap_new w (.cells #[.pointer (some ⟨g, 0, none⟩)] 172))
 have k3 := Bas.heap_new2 w (.cells #[.pointer (some ⟨g, 0, none⟩)] 172) (.cells #[.int .i64 id] 3);have g1 := cell_of_heap (i := 1) hg rfl;have lg := heap_lt hg;obtain ⟨n, hnn⟩ : ∃ n, ps.length = n := ⟨_, rfl⟩;rw [hnn] at g1 hn;have HN := Bas.hid hnn;have HB := Bas.hid BX;have HP := Bas.hid hp;clear hcf h ho hr hp hg BX hnn;go_enter Tryz.func90, Tryz.ntmps90
 go_wp2_with (fail);generalize (w.alloc (.cells #[.pointer (some ⟨g, 0, none⟩)] 172)).alloc (.cells #[.int .i64 id] 3) = W at *;refine (Sk.first_any 117 #[.pointer (some ⟨w.heap.size, 0, none⟩), .pointer (some ⟨w.heap.size + 1, 0, none⟩)]
  (fun lo hi w' => Below W.heap.size W w' ∧ (∀ i p, i < lo → ps[i]? = some p → p.last < id) ∧ ∀ i p, hi ≤ i → ps[i]? = some p → id ≤ p.last) n W (by omega) HCF.out ?_ ⟨Below.refl _ _, fun i p hi => by omega, fun i p hi hp => by have := (List.getElem?_eq_some_iff.1 hp).1; rw [HN.out] at this; omega⟩).mono ?_
 ·rintro lo hi w1 hlt hhl ⟨hb1, hlo, hhi⟩;obtain ⟨p, hp⟩ : ∃ p, ps[lo + (hi - lo) / 2]? = some p := ⟨_, List.getElem?_eq_getElem (by rw [HN.out]; omega)⟩
  have q2 := (hb1.block _ (heap_lt k2)).trans k2;have q3 := (hb1.block _ (heap_lt k3)).trans k3;have hat := (HH.out.below HB.out).below hb1;refine (get1_any _ ps id (lo + (hi - lo) / 2) p _ _ w1 hat hp q2 q3).mono ?_;rintro e w2 ⟨rfl, hb2⟩;have HB2 : Below W.heap.size W w2 := Bas.on hb1 hb2;by_cases hx : id ≤ p.last
  ·exact ⟨true, by rw [decide_eq_true hx], .inl ⟨rfl, HB2, hlo, fun i q h1 h2 => Int.le_trans hx (last_mono HO.out HR.out h1 hp h2)⟩⟩
  ·exact ⟨false, by rw [decide_eq_false hx], .inr ⟨rfl, HB2, fun i q h1 h2 => by have := last_mono HO.out HR.out (show i ≤ lo + (hi - lo) / 2 by omega) h2 hp; omega, hhi⟩⟩
 rintro e w2 ⟨k, hk, rfl, hb2, hlo, hhi⟩;have q2 := cell_of_heap (i := 0) ((hb2.block _ (heap_lt k2)).trans k2) rfl;have q3 := cell_of_heap (i := 0) ((hb2.block _ (heap_lt k3)).trans k3) rfl;have HBB := Bas.hid (HB.out.trans (hb2.mono HB.out.size));have g2 := (HBB.out.cell (p := ⟨g, 1, none⟩) lg).trans g1;have hfd : ps.find? (fun p => decide (id ≤ p.last)) = ps[k]? := find_first _ ps k (fun i p hi hp => decide_eq_false (by have := hlo i p hi hp; omega)) (fun p hp => decide_eq_true (hhi k p (Nat.le_refl _) hp))
 have lg2 : g < w2.heap.size := World.block_lt_of_cell? _ _ g2;have l2 := World.block_lt_of_cell? _ _ q2;have l3 := World.block_lt_of_cell? _ _ q3;have hlk2 := HH.out.below HBB.out;clear hlo hb2 k2 k3 g1 lg;by_cases hkn : k < n
 ·obtain ⟨p, hp⟩ : ∃ p, ps[k]? = some p := ⟨_, List.getElem?_eq_getElem (by rw [HN.out]; exact hkn)⟩
  have hid := hhi k p (Nat.le_refl _) hp;obtain ⟨g', fmt', ad', cap', hv', hg', hp'⟩ := lk_part hlk2;cases hv';rw [HN.out] at hg';have g3 := cell_of_heap (i := 1) hg' rfl;rw [g2] at g3;cases g3;obtain ⟨B, O, av, cv, rfl, c0, c1, c2, lB, hlv⟩ := hp' k p hp;have hpo := HO.out p (List.mem_of_getElem? hp);have e0 : ((k : Int) == (n : Int)) = false := by simp; omega
  have e1 : decide ((k : Int) < (n : Int)) = true := by simp; omega
  have e2 : decide (k < n) = true := by simp; omega
  rw [hp] at hfd;by_cases hf : id < p.first
  ·have hgl : getL ps id = none := by unfold getL; rw [hfd]; simp only [if_pos hf]
   have HGL := Bas.hid hgl;obtain ⟨f, hff⟩ : ∃ f, p.first = f := ⟨_, rfl⟩;rw [hff] at c0 hf;have e3 : decide (f > id) = true := decide_eq_true hf;have e4 : decide (id < f) = true := decide_eq_true hf;clear hfd hgl hlk2 hg' hp' hlv hpo hff hhi hp c1 c2;go_wp2_with (fail)
   go_quiet (fail)
   go_wp2_with (fail);refine bodyPost_ret (v := .tuple #[.int .i64 0, .bool false]) (by simp [results, Tryz.results90, go_sem]) rfl ⟨by rw [HGL.out]; rfl, Bas.below_drewN HBB.out _⟩
  ·have hgl : getL ps id = some (pnum p id) := by unfold getL; rw [hfd]; simp only [if_neg hf]
   have HGL := Bas.hid hgl;have HAT := Bas.hid (fun w' (hb : Below w2.heap.size w2 w') => at_any p av cv id w' hpo (by omega) hid (Row.leads_below hlv hb))
   obtain ⟨r, hrr⟩ : ∃ r, pnum p id = r := ⟨_, rfl⟩;rw [hrr] at HAT HGL;generalize p.first = f at *;generalize p.last = l at *;generalize p.vals.length = m at *;have e3 : decide (f > id) = false := decide_eq_false hf;have e4 : decide (id < f) = false := decide_eq_false hf;have HB20 := Bas.hid (Below.refl w2.heap.size w2);clear hfd hgl hlk2 hg' hp' hlv hpo hrr hhi hp;go_wp2_with (fail);refine' Pl.region_v0 42 [] [0, 1, 2, 3, 4, 5, 6, 7, 8, 9, 10, 11, 12, 13, 14, 15, 16, 17, 18] [] _ (by kernel_rfl) (by kernel_rfl) (by simp) (fun _ _ _ _ e h => ⟨e ▸ h.1, h.2⟩) ?_ ?_
   rotate_left
   ·intro I F hI hF;simp only [Pl.selN, List.nil_append, List.drop_succ_cons, List.drop_zero];have x0 := fun i => hF.cell lg2 g2 i
    have x1 := fun i => hF.cell lB c0 i
    have x2 := fun i => hF.cell l2 q2 i
    have x3 := fun i => hF.cell l3 q3 i
    repeat (go_big_quiet_step (fail))
    refine wpQuiet_nil ?_;rfl
   intro w5 hw5;simp only [Pl.selN];have HB5 := Bas.hid hw5
   replace g2 := (hw5.cell (p := ⟨g, 1, none⟩) lg2).trans g2
   replace q2 := (hw5.cell (p := ⟨w.heap.size, 0, none⟩) l2).trans q2
   replace q3 := (hw5.cell (p := ⟨w.heap.size + 1, 0, none⟩) l3).trans q3
   replace c0 := (hw5.cell (p := ⟨B, O + k * 3, none⟩) lB).trans c0
   replace c1 := (hw5.cell (p := ⟨B, O + k * 3 + 1, none⟩) lB).trans c1
   replace c2 := (hw5.cell (p := ⟨B, O + k * 3 + 2, none⟩) lB).trans c2
   replace lg2 : g < w5.heap.size := World.block_lt_of_cell? _ _ g2
   replace l2 := World.block_lt_of_cell? _ _ q2
   replace l3 := World.block_lt_of_cell? _ _ q3
   replace lB : B < w5.heap.size := World.block_lt_of_cell? _ _ c0
   clear hw5;go_wp2_with (fail);refine' Pl.region_v0 42 [] [0, 1, 2, 3, 4, 5, 6, 7, 8] [9, 10] _ (by kernel_rfl) (by kernel_rfl) (by simp) (fun _ _ _ _ e h => ⟨e ▸ h.1, h.2⟩) ?_ ?_
   rotate_left
   ·intro I F hI hF;simp only [Pl.selN, List.nil_append, List.drop_succ_cons, List.drop_zero];have x0 := fun i => hF.cell lg2 g2 i
    have x1 := fun i => hF.cell lB c0 i
    have x2 := fun i => hF.cell l2 q2 i
    have x3 := fun i => hF.cell l3 q3 i
    have x4 := fun i => hF.cell lB c1 i
    have x5 := fun i => hF.cell lB c2 i
    repeat (go_big_quiet_step ((go_at_call 118; with_reducible exact hF.call (HAT.out _ (hF.on HB5.out _)))))
    refine wpQuiet_nil ?_;rfl
   intro w6 hw6;simp only [Pl.selN, List.drop_succ_cons, List.drop_zero];have HB6 := Bas.hid (HBB.out.trans ((HB5.out.trans (hw6.mono HB5.out.size)).mono HBB.out.size));clear hw6 g2 q2 q3 c0 c1 c2;go_wp2_with (fail);refine bodyPost_ret (v := .tuple #[.int .i64 r, .bool true]) (by simp [results, Tryz.results90, go_sem]) rfl ⟨by rw [HGL.out]; rfl, HB6.out⟩
 ·have hkk : ps[k]? = none := List.getElem?_eq_none (by rw [HN.out]; omega)
  have hgl : getL ps id = none := by unfold getL; rw [hfd, hkk]
  have HGL := Bas.hid hgl;have e0 : ((k : Int) == (n : Int)) = true := by simp; omega
  clear hfd hgl hlk2 hkk hhi;go_wp2_with (fail)
  go_quiet (fail)
  go_wp2_with (fail);refine bodyPost_ret (v := .tuple #[.int .i64 0, .bool false]) (by simp [results, Tryz.results90, go_sem]) rfl ⟨by rw [HGL.out]; rfl, Bas.below_drewN HBB.out _⟩
end Lk
namespace Dr
open Ch Lk St Ln
abbrev ActF (σ : Type) := σ → List Gl → Int → EntD → σ × List Gl × Int × Int
structure Dv (σ : Type) where
 st : σ
 xs : List Gl
 state : Int
 place : Int
 steps : Nat
 rest : Nat
def classAt (M : MachD) (xs : List Gl) (p : Int) : Int × Bool := match glAt xs p with
 | none => (0, true)
 | some g => (classM M g.1, false)
def dstep {σ : Type} (M : MachD) (F : ActF σ) (d : Dv σ) : Dv σ × Bool :=
 let c := classAt M d.xs d.place
 let e := stepM M d.state c.1
 let r := F d.st d.xs d.place e
 if e.flags / 16384 % 2 = 1 then (⟨r.1, r.2.1, e.next, max r.2.2.1 0, d.steps + 1, d.rest + 1⟩, false)
 else (⟨r.1, r.2.1, e.next, max r.2.2.2 0, d.steps + 1, 0⟩, c.2)
def drun {σ : Type} (M : MachD) (F : ActF σ) : Nat → Dv σ → Dv σ × Int
 | 0, d => (d, 4)
 | f + 1, d =>
  let r := dstep M F d
  if r.2 = true then (r.1, 0) else if 64 < r.1.rest then (r.1, 4) else drun M F f r.1
def dall {σ : Type} (M : MachD) (F : ActF σ) (st : σ) (xs : List Gl) : Dv σ × Int := drun M F (2 * xs.length + 128) ⟨st, xs, 0, 0, 0, 0⟩
theorem classM_bd {M : MachD} (h : MachOk M) (id : Int) : 0 ≤ classM M id ∧ (classM M id).toNat < M.classes := by
 have h4 := h.lo;unfold classM;split
 ·omega
 ·split
  ·rename_i c hc
   split
   ·rename_i hlt
    unfold getL at hc;split at hc
    ·cases hc
    ·rename_i p hp
     split at hc
     ·cases hc
     ·cases hc;have hm := List.mem_of_find?_eq_some hp;have hv := (h.parts p hm).vals;have h0 : 0 ≤ pnum p id := by
       unfold pnum;rw [List.getD_eq_getElem?_getD];cases hg : p.vals[(min (id - p.first) ((p.vals.length : Int) - 1)).toNat]? with
       | none => simp
       | some x => simpa using (hv x (List.mem_of_getElem? hg)).1
      omega
   ·omega
  ·omega
theorem classAt_bd {M : MachD} (h : MachOk M) (xs : List Gl) (p : Int) : 0 ≤ (classAt M xs p).1 ∧ (classAt M xs p).1.toNat < M.classes := by
 unfold classAt;split
 ·have := h.lo; simp only; omega
 ·exact classM_bd h _
theorem stepM_in {M : MachD} (h : MachOk M) {s c : Int} (hs : 0 ≤ s ∧ s.toNat < M.rows.length) (hc : 0 ≤ c ∧ c.toNat < M.classes) : ∃ r x e, M.rows[s.toNat]? = some r ∧ r.length = M.classes ∧ r[c.toNat]? = some x ∧ 0 ≤ x ∧ M.ents[x.toNat]? = some e ∧ stepM M s c = e := by
 obtain ⟨r, hr⟩ : ∃ r, M.rows[s.toNat]? = some r := ⟨_, List.getElem?_eq_getElem hs.2⟩;obtain ⟨h1, h2⟩ := h.rows r (List.mem_of_getElem? hr);obtain ⟨x, hx⟩ : ∃ x, r[c.toNat]? = some x := ⟨_, List.getElem?_eq_getElem (by omega)⟩
 obtain ⟨h3, h4⟩ := h2 x (List.mem_of_getElem? hx);obtain ⟨e, he⟩ : ∃ e, M.ents[x.toNat]? = some e := ⟨_, List.getElem?_eq_getElem h4⟩;refine ⟨r, x, e, hr, h1, hx, h3, he, ?_⟩;unfold stepM;simp only [List.getD_eq_getElem?_getD, hr, Option.getD_some, hx, he]
theorem stepM_bd {M : MachD} (h : MachOk M) {s c : Int} (hs : 0 ≤ s ∧ s.toNat < M.rows.length) (hc : 0 ≤ c ∧ c.toNat < M.classes) :
  (0 ≤ (stepM M s c).next ∧ (stepM M s c).next.toNat < M.rows.length) ∧ (0 ≤ (stepM M s c).flags ∧ (stepM M s c).flags ≤ 65535) ∧ (0 ≤ (stepM M s c).a ∧ (stepM M s c).a ≤ 65535) ∧ (0 ≤ (stepM M s c).b ∧ (stepM M s c).b ≤ 65535) := by
 obtain ⟨r, x, e, _, _, _, _, he, h1⟩ := stepM_in h hs hc;rw [h1];exact h.ents e (List.mem_of_getElem? he)
end Dr
namespace St
open Vw Sk Ch Lk
theorem leads_at {w : World} {v : Value} {n : Nat} {xs : List Value} {i : Nat} {u : Value} (h : Row.Leads w v n xs) (hu : xs[i]? = some u) : ∃ b o cp, v = .slice (some ⟨b, o, none⟩) n cp ∧ w.cell? ⟨b, o + i, none⟩ = some u := by
 obtain ⟨b, o, cp, rfl, hc⟩ := Row.leads_elem (f := fun x => [x]) (m := 1) (fun _ => rfl) (by simpa using h) hu (by omega)
 exact ⟨b, o, cp, rfl, by simpa using hc 0 u rfl⟩
theorem parts_len {ps : List PartD} (ho : ∀ p ∈ ps, PartOk p) (hr : rises ps = true) : ∀ (i : Nat) (p : PartD), ps[i]? = some p → (i : Int) ≤ p.last
 | 0, p, hp => by have := ho p (List.mem_of_getElem? hp); have h1 := this.le; have h2 := this.first0; omega
 | i + 1, p, hp => by
  obtain ⟨h1, h2⟩ := List.getElem?_eq_some_iff.1 hp;obtain ⟨q, hq⟩ : ∃ q, ps[i]? = some q := ⟨_, List.getElem?_eq_getElem (by omega)⟩
  have ih := parts_len ho hr i q hq;have h3 := (rises_iff ps).1 hr i q p hq hp;have h4 := (ho p (List.mem_of_getElem? hp)).le;omega
theorem parts_few {ps : List PartD} (ho : ∀ p ∈ ps, PartOk p) (hr : rises ps = true) : ps.length ≤ 4294967296 := by
 refine Decidable.byContradiction fun h => ?_
 obtain ⟨p, hp⟩ : ∃ p, ps[4294967295]? = some p := ⟨_, List.getElem?_eq_getElem (by omega)⟩
 have h1 := parts_len ho hr _ p hp;have h2 := (ho p (List.mem_of_getElem? hp)).last1;omega
set_option maxRecDepth 100000 in
set_option maxHeartbeats 4000000 in
theorem class_any (v : Value) (M : MachD) (id : Int) (w : World) (h : MachAt w v M) (hok : MachOk M) :
  Calls Tryz.prog 146 #[v, .int .i64 id] w fun e w' => e = .returned (.int .i64 (classM M id)) ∧ Below w.heap.size w w' := by
 obtain ⟨g, vt, vr, ve, us, rfl, hg, hl, _, _, _, _⟩ := h;have HGET := Bas.hid (get_any vt M.parts id w hl hok.parts hok.rises (parts_few hok.parts hok.rises));obtain ⟨TB, _, _, _, rfl, _⟩ := hl;have hcl := hok.hi;have g0 := cell_of_heap (i := 0) (v := .int .i64 M.classes) hg rfl;have g1 := cell_of_heap (i := 1) (v := .pointer (some ⟨TB, 0, none⟩)) hg rfl;have lg := heap_lt hg;have HG := Bas.hid hg;by_cases he : id = 65535
 ·subst he;have HC : Hid (classM M 65535 = 2) := if_pos rfl;clear HGET;go_enter Tryz.func146, Tryz.ntmps146
  go_wp2_with (fail);go_ret;exact ⟨by rw [HC.out]; rfl, Below.refl _ _⟩
 ·have e1 : decide (id = 65535) = false := by simp; exact he
  have e2 : (id == 65535) = false := by simp; exact he
  have e4 : ¬ id = 65535 := he;go_enter Tryz.func146, Tryz.ntmps146
  go_wp2_with (fail);refine HGET.out.mono ?_;rintro e w2 ⟨rfl, hb⟩;have k2 := (hb.block _ lg).trans HG.out;have g0 := cell_of_heap (i := 0) (v := .int .i64 M.classes) k2 rfl;have HB := Bas.hid hb;cases hgl : getL M.parts id with
  | none =>
   have HC : Hid (classM M id = 1) := by unfold Hid classM; rw [if_neg e4, hgl]
   clear hgl;go_wp2_with (fail);go_ret;exact ⟨by rw [HC.out]; rfl, HB.out⟩
  | some c =>
   by_cases hc : c < M.classes
   ·have HC : Hid (classM M id = c) := by unfold Hid classM; rw [if_neg e4, hgl]; exact if_pos hc
    have e3 : decide (c < (M.classes : Int)) = true := by simpa using hc
    clear hgl;go_wp2_with (fail);go_ret;exact ⟨by rw [HC.out]; rfl, HB.out⟩
   ·have HC : Hid (classM M id = 1) := by unfold Hid classM; rw [if_neg e4, hgl]; exact if_neg hc
    have e3 : decide (c < (M.classes : Int)) = false := by simpa using hc
    clear hgl;go_wp2_with (fail);go_ret;exact ⟨by rw [HC.out]; rfl, HB.out⟩
set_option maxRecDepth 100000 in
set_option maxHeartbeats 4000000 in
theorem step_any (v : Value) (M : MachD) (st cl : Nat) (w : World) (h : MachAt w v M) (hok : MachOk M) (hs : st < M.rows.length) (hc : cl < M.classes) :
  Calls Tryz.prog 134 #[v, .int .i64 st, .int .i64 cl] w fun e w' =>
   e = .returned (.tuple #[.agg #[.int .i64 (stepM M st cl).next, .int .i64 (stepM M st cl).flags, .int .i64 (stepM M st cl).a, .int .i64 (stepM M st cl).b], .bool true]) ∧ Below w.heap.size w w' := by
 obtain ⟨r, x, en, hr, hrl, hx, hx0, hen, hst⟩ := Dr.stepM_in hok (s := st) (c := cl) ⟨by omega, by simpa using hs⟩ ⟨by omega, by simpa using hc⟩
 simp only [Int.toNat_natCast] at hr hx;obtain ⟨g, vt, vr, ve, us, rfl, hg, hl, hul, hL1, hL2, hL3⟩ := h;obtain ⟨u, hu⟩ : ∃ u, us[st]? = some u := ⟨_, List.getElem?_eq_getElem (by omega)⟩
 have hl2 := hL2 st r u hr hu;obtain ⟨xn, hxn⟩ := Int.eq_ofNat_of_zero_le hx0;subst hxn;simp only [Int.toNat_natCast] at hen;obtain ⟨b1, o1, p1, rfl, c1⟩ := leads_at hL1 hu;obtain ⟨b2, o2, p2, rfl, c2⟩ := leads_at (i := cl) (u := .int .i64 xn) hl2 (by rw [List.getElem?_map, hx]; rfl)
 obtain ⟨b3, o3, p3, rfl, hc3⟩ := Row.leads_elem enC_len hL3 hen (by omega)
 have d0 := hc3 0 _ rfl;have d1 := hc3 1 _ rfl;have d2 := hc3 2 _ rfl;have d3 := hc3 3 _ rfl;simp only [Nat.add_zero] at d0;have hxE : xn < M.ents.length := (List.getElem?_eq_some_iff.1 hen).1;have l1 := World.block_lt_of_cell? _ _ c1;have l2 := World.block_lt_of_cell? _ _ c2;have l3 := World.block_lt_of_cell? _ _ d0;have lg := heap_lt hg;have hR6 := hok.nrows;have hE6 := hok.nents;have hC6 := hok.hi;have g0 := cell_of_heap (i := 0) hg rfl;have g2 := cell_of_heap (i := 2) hg rfl;have g3 := cell_of_heap (i := 3) hg rfl;rw [hrl] at c1;rw [hst];obtain ⟨en0, en1, en2, en3⟩ := en;simp only at d0 d1 d2 d3 ⊢;generalize M.rows.length = R at *;generalize M.ents.length = E at *;generalize M.classes = C at *;clear hst hen hr hx hu hl2 hL1 hL2 hL3 hc3 hul hl hrl hg hok hx0;have f1 : decide ((st : Int) < 0) = false := by simp
 have f2 : decide ((R : Int) ≤ (st : Int)) = false := by simp; omega
 have f3 : decide ((cl : Int) < 0) = false := by simp
 have f4 : decide ((C : Int) ≤ (cl : Int)) = false := by simp; omega
 have f5 : decide ((st : Int) < (R : Int)) = true := by simp; omega
 have f6 : decide ((cl : Int) < (C : Int)) = true := by simp; omega
 have f7 : decide ((xn : Int) < (E : Int)) = true := by simp; omega
 go_enter Tryz.func134, Tryz.ntmps134
 go_wp2_with (fail);have kN := Bas.heap_new w (.cells #[.int .i64 0, .int .i64 0, .int .i64 0, .int .i64 0] 162);have hb1 := (Below.refl w.heap.size w).alloc (Nat.le_refl _) (.cells #[.int .i64 0, .int .i64 0, .int .i64 0, .int .i64 0] 162);have y0 := (hb1.cell (p := ⟨g, 0, none⟩) lg).trans g0;have y2 := (hb1.cell (p := ⟨g, 2, none⟩) lg).trans g2;have y3 := (hb1.cell (p := ⟨g, 3, none⟩) lg).trans g3;have x1 := (hb1.cell (p := ⟨b1, o1 + st, none⟩) l1).trans c1;have x2 := (hb1.cell (p := ⟨b2, o2 + cl, none⟩) l2).trans c2;have x3 := (hb1.cell (p := ⟨b3, o3 + xn * 4, none⟩) l3).trans d0;have x4 := (hb1.cell (p := ⟨b3, o3 + xn * 4 + 1, none⟩) l3).trans d1;have x5 := (hb1.cell (p := ⟨b3, o3 + xn * 4 + 2, none⟩) l3).trans d2;have x6 := (hb1.cell (p := ⟨b3, o3 + xn * 4 + 3, none⟩) l3).trans d3;have HB1 := Bas.hid hb1;clear g0 g2 g3 c1 c2 d0 d1 d2 d3 l1 l2 l3 lg hb1;generalize w.alloc (.cells #[.int .i64 0, .int .i64 0, .int .i64 0, .int .i64 0] 162) = W1 at *;have l1 := World.block_lt_of_cell? _ _ x1;have l2 := World.block_lt_of_cell? _ _ x2;have l3 := World.block_lt_of_cell? _ _ x3;have lg := World.block_lt_of_cell? _ _ y0;refine' Pl.region_v0 48 [] [0, 1, 2, 3, 4, 5, 6, 7, 8, 9, 10, 11, 12, 13, 14, 15] [16, 17] _ (by kernel_rfl) (by kernel_rfl) (by simp) (fun _ _ _ _ e h => ⟨e ▸ h.1, h.2⟩) ?_ ?_
 rotate_left
 ·intro I F hI hF;simp only [Pl.selN, List.nil_append, List.drop_succ_cons, List.drop_zero];have z0 := fun i => hF.cell lg y0 i
  have z2 := fun i => hF.cell lg y2 i
  have z3 := fun i => hF.cell lg y3 i
  have u1 := fun i => hF.cell l1 x1 i
  have u2 := fun i => hF.cell l2 x2 i
  have u3 := fun i => hF.cell l3 x3 i
  have u4 := fun i => hF.cell l3 x4 i
  have u5 := fun i => hF.cell l3 x5 i
  have u6 := fun i => hF.cell l3 x6 i
  repeat (go_big_quiet_step (fail))
  refine wpQuiet_nil ?_;rfl
 intro w7 hw7;simp only [Pl.selN, List.drop_succ_cons, List.drop_zero];have k7 := (hw7.block _ (heap_lt kN)).trans kN;have HB7 := Bas.hid (HB1.out.trans (hw7.mono HB1.out.size));clear hw7 y0 y2 y3 x1 x2 x3 x4 x5 x6 l1 l2 l3 lg kN;have c0 := cell_of_heap (i := 0) k7 rfl;have c1 := cell_of_heap (i := 1) k7 rfl;have c2 := cell_of_heap (i := 2) k7 rfl;have c3 := cell_of_heap (i := 3) k7 rfl;have r0 := free_of_heap (i := 0) k7;have r1 := free_of_heap (i := 1) k7;have r2 := free_of_heap (i := 2) k7;have r3 := free_of_heap (i := 3) k7;have lk := heap_lt k7;go_wp2_with (fail);obtain ⟨k8, _⟩ := set4 k7 (.int .i64 en0) (.int .i64 en1) (.int .i64 en2) (.int .i64 en3);have hwn : w.heap.size ≤ w.heap.size := Nat.le_refl _;have HB8 := Bas.hid ((((HB7.out.setCell (p := ⟨w.heap.size, 0, none⟩) hwn (.int .i64 en0)).setCell (p := ⟨w.heap.size, 1, none⟩) hwn (.int .i64 en1)).setCell (p := ⟨w.heap.size, 2, none⟩) hwn (.int .i64 en2)).setCell (p := ⟨w.heap.size, 3, none⟩) hwn (.int .i64 en3));clear c0 c1 c2 c3 r0 r1 r2 r3 lk k7;generalize ((((w7.setCell ⟨w.heap.size, 0, none⟩ (.int .i64 en0)).setCell ⟨w.heap.size, 1, none⟩ (.int .i64 en1)).setCell ⟨w.heap.size, 2, none⟩ (.int .i64 en2)).setCell ⟨w.heap.size, 3, none⟩ (.int .i64 en3)) = W8 at *;have c0 := cell_of_heap (i := 0) k8 rfl;have c1 := cell_of_heap (i := 1) k8 rfl;have c2 := cell_of_heap (i := 2) k8 rfl;have c3 := cell_of_heap (i := 3) k8 rfl;refine bodyPost_ret (v := .tuple #[.agg #[.int .i64 en0, .int .i64 en1, .int .i64 en2, .int .i64 en3], .bool true]) ?_ rfl ⟨rfl, HB8.out⟩;rw [results_cell_tmp rfl]
 go_simp
end St
namespace Ln
open Ch
def lnPre (ids : List Int) (i : Nat) : List Gl := (List.range i).map fun k => (ids.getD k 0, (k : Int))
def lnNew (ids : List Int) : List Gl := lnPre ids ids.length
theorem lnPre_len (ids : List Int) (i : Nat) : (lnPre ids i).length = i := by simp [lnPre]
theorem lnPre_succ (ids : List Int) (i : Nat) : lnPre ids (i + 1) = lnPre ids i ++ [(ids.getD i 0, (i : Int))] := by
 unfold lnPre; rw [List.range_succ, List.map_append]; rfl
theorem line_snoc {w w7 : World} {base g : Nat} {sv v' : Value} {xs : List Gl} {x : Gl} (h : LineAt w base g sv xs) (hg : w.grownBy w7 sv.ownBlock) (ho : w7.ownsRow base 47 2 v' (xs.length + 1) (xs.flatMap glC ++ glC x)) :
  LineAt (w7.setCell ⟨g, 0, none⟩ v') base g v' (xs ++ [x]) := by
 have h7 := (hg.block g h.lt (fun e => h.ne e.symm)).trans h.head
 have k8 := heap_set (i := 0) h7 v';refine ⟨k8, ?_, h.low⟩;rw [List.length_append, List.flatMap_append];exact Row.owned_keep (by simpa using ho) fun k hk => Below.heap_setCell _ _ _ _ (fun e => own_ty ho h7 (by decide) (by rw [hk, e]))
set_option maxRecDepth 100000 in
set_option maxHeartbeats 4000000 in
theorem new_any (va : Value) (ids : List Int) (n : Nat) (w : World) (hl : Row.Leads w va n (ids.map (Value.int .i64))) (hn : ids.length = n) (hn2 : n ≤ 4294967296) :
  Calls Tryz.prog 9 #[va] w fun e w' => e = .returned (.pointer (some ⟨w.heap.size, 0, none⟩)) ∧ Below w.heap.size w w' ∧ ∃ sv, LineAt w' w.heap.size w.heap.size sv (lnNew ids) := by
 obtain ⟨ad, cp, rfl⟩ : ∃ ad cp, va = .slice ad n cp := by
  rcases hl with ⟨rfl, rfl, _⟩ | ⟨ad, cp, rfl, _⟩
  ·exact ⟨none, 0, rfl⟩
  ·exact ⟨_, _, rfl⟩
 have HL := Bas.hid hl;have hb1 := (Below.refl w.heap.size w).alloc (Nat.le_refl _) (.cells #[.slice none 0 0] 76);have HA : Hid (LineAt (w.alloc (.cells #[.slice none 0 0] 76)) w.heap.size w.heap.size (.slice none 0 0) []) := ⟨Bas.heap_new _ _, Row.owned_nil _ _ _ _, Nat.le_refl _⟩;have HB := Bas.hid hb1;have HN := Bas.hid hn;clear hb1 hl hn;go_enter Tryz.func9, Tryz.ntmps9
 go_wp2_with (fail);generalize w.alloc (.cells #[.slice none 0 0] 76) = W1 at *;obtain ⟨G, hG⟩ : ∃ G, w.heap.size = G := ⟨_, rfl⟩;have HG := Bas.hid hG;rw [hG] at HA HB ⊢;clear hG;go_loopw [10] (fun vi wr => ∃ (i : Nat) (sv : Value), i ≤ n ∧ vi = .int .i64 i ∧ LineAt wr G G sv (lnPre ids i) ∧ Below G w wr) (fun vi _ => n - (intOf vi).toNat)
 case atStart => exact ⟨0, _, Nat.zero_le _, rfl, HA.out, HB.out⟩
 case round =>
  obtain ⟨i, sv, hi, rfl, hA, hB⟩ := hrel;have HA2 := Bas.hid hA;have HB2 := Bas.hid hB;by_cases hin : i < n
  ·have e1 : decide ((i : Int) < (n : Int)) = true := by simp; omega
   have e2 : decide (i < n) = true := by simp; omega
   obtain ⟨x, hx⟩ : ∃ x, ids[i]? = some x := ⟨_, List.getElem?_eq_getElem (by rw [HN.out]; exact hin)⟩
   have hlw : Row.Leads wr (.slice ad n cp) n (ids.map (Value.int .i64)) := Row.leads_below HL.out (by rw [HG.out]; exact hB)
   obtain ⟨bo, oo, c2, hv, hc⟩ := St.leads_at hlw (i := i) (u := .int .i64 x) (by rw [List.getElem?_map, hx]; rfl)
   cases hv;obtain ⟨a3, cs, rfl⟩ := own_slice hA.own;have hhead := hA.head;rw [lnPre_len] at hhead HA2;have g0 := cell_of_heap (i := 0) (v := .slice a3 i cs) hhead rfl;have lG := heap_lt hhead;have lb := World.block_lt_of_cell? _ _ hc;have HX : Hid (lnPre ids (i + 1) = lnPre ids i ++ [(x, (i : Int))]) := by unfold Hid; rw [lnPre_succ, List.getD_eq_getElem?_getD, hx]; rfl
   clear hA hB hlw hx hhead HA HB;go_wp2_with (at_builtin; refine Row.fence ?_);refine Row.unfence ?_;have q2 := Bas.heap_new wr (.cells #[.int .i64 x, .int .i64 i] 47);have hb2 := (Below.refl wr.heap.size wr).alloc (Nat.le_refl _) (.cells #[.int .i64 x, .int .i64 i] 47);have HA3 := Bas.hid (HA2.out.below hb2);have hGw : G ≤ wr.heap.size := Nat.le_of_lt lG;have HB3 := Bas.hid (HB2.out.trans (hb2.mono hGw));have hG3 : G ≤ (wr.alloc (.cells #[.int .i64 x, .int .i64 i] 47)).heap.size := Nat.le_trans hGw hb2.size;clear hb2 g0 hc lb;generalize wr.alloc (.cells #[.int .i64 x, .int .i64 i] 47) = W2 at *;have hO := HA3.out.own;rw [lnPre_len] at hO;have HO := Bas.hid hO;clear hO;refine Row.append_any rfl _ _ 39 47 rfl (.agg #[.int .i64 0, .int .i64 0]) 2 16 Tryz.underlying39 infoG rfl (by decide) G (.slice a3 i cs) i _ rfl HO.out (.slice (some ⟨wr.heap.size, 0, none⟩) 1 1) 1 [.int .i64 x, .int .i64 i] rfl (leads_heap q2) rfl (by simp; first | exact ⟨rfl, rfl⟩ | exact rfl) (by unfold maxLen; omega) (by omega) hG3 ?_
   intro v7 w7 ho7 hg7 _;obtain ⟨a7, c7, rfl⟩ := own_slice ho7;have HA8 := Bas.hid (line_snoc (x := (x, (i : Int))) HA3.out hg7 (by rw [lnPre_len]; exact ho7))
   have k7 := (hg7.block G HA3.out.lt (fun e => HA3.out.ne e.symm)).trans HA3.out.head
   have c0 := cell_of_heap (i := 0) k7 rfl;have f0 := free_of_heap (i := 0) k7;have HB7 := Bas.hid (HB3.out.grown hg7 hG3 (fun g' hg' => (Row.own_block HA3.out.own hg').1))
   have HB8 := Bas.hid (HB7.out.setCell (p := ⟨G, 0, none⟩) (Nat.le_refl _) (.slice a7 (i + 1) c7));clear hg7 ho7 q2;go_wp2_with (fail);go_roundw
   case rel => exact ⟨i + 1, _, by omega, by go_num, by rw [HX.out]; exact HA8.out, HB8.out⟩
   case measure => simp [intOf]; omega
  ·have hin2 : i = n := by omega
   have e1 : decide ((i : Int) < (n : Int)) = false := by simp; omega
   have e2 : decide (i < n) = false := by simp; omega
   have e3 : ¬ (i : Int) < (n : Int) := by omega
   have HF : Hid (LineAt wr G G sv (lnNew ids)) := by unfold Hid lnNew; rw [HN.out, ← hin2]; exact hA
   clear hin2 hA hB;go_wp2_with (fail);go_ret;rw [HG.out];exact ⟨rfl, HB2.out, sv, HF.out⟩
theorem own_zero {w : World} {base g : Nat} {e : TypeId} {size : Nat} (hg : w.heap[g]? = some (.cells #[] e (0, 0))) (hb : base ≤ g) : w.ownsRow base e size (.slice (some ⟨g, 0, none⟩) 0 0) 0 [] :=
 ⟨by simp, .inr ⟨g, 0, _, rfl, hb, hg, Nat.le_refl _, by unfold maxLen; omega, by simp, by simp⟩⟩
set_option maxRecDepth 100000 in
theorem clone_any (v : Value) (xs : List Gl) (n : Nat) (w : World) (hl : Row.Leads w v n (xs.flatMap glC)) (hn : xs.length = n) (hn2 : n ≤ 4294967296) :
  Calls Tryz.prog 31 #[v] w fun e w' => Below w.heap.size w w' ∧ ∃ v', e = .returned v' ∧ w'.ownsRow w.heap.size 47 2 v' n (xs.flatMap glC) := by
 have HL := Bas.hid hl;have hqe : ∀ (a : Option Addr) (n c : Nat) (w : World), (Go.binOp .eql 39 (.slice a n c) (.slice none 0 0)).run Tryz.prog w = Result.ok (.bool a.isNone) w := fun a n c w => by
  have h : (Op.equalIn Op.maxDepth 39 (.slice a n c) (.slice none 0 0)).run Tryz.prog w = Result.ok a.isNone w := run_equalIn_slice_nil w (Op.maxDepth - 1) _ _ a n c Tryz.underlying39;simp [go_sem, Go.binOp, Op.equal, h, Result.andThen]
 rcases hl with ⟨rfl, rfl, hx⟩ | ⟨ad, cp, rfl, _⟩
 ·rw [hx];have HO := Bas.hid (Row.owned_nil w w.heap.size 47 2);clear HL hx;go_enter Tryz.func31, Tryz.ntmps31
  go_wp2_with (fail);go_ret;exact ⟨Below.refl _ _, _, rfl, HO.out⟩
 ·have hb1 := (Below.refl w.heap.size w).alloc (Nat.le_refl _) (.cells #[] 47);have HO := Bas.hid (own_zero (size := 2) (Bas.heap_new w (.cells #[] 47)) (Nat.le_refl w.heap.size));have HL1 := Bas.hid (Row.leads_below HL.out hb1);have HB1 := Bas.hid hb1;have hsz := hb1.size;have HFL := Bas.hid (glC_flat xs);have hon := glC_one xs;clear HL hb1;go_enter Tryz.func31, Tryz.ntmps31
  go_wp2_with (at_builtin; refine Row.fence ?_);refine Row.unfence ?_;generalize w.alloc (.cells #[] 47) = W1 at *;refine Row.append_any rfl _ _ 39 47 rfl (.agg #[.int .i64 0, .int .i64 0]) 2 16 Tryz.underlying39 infoG rfl (by decide) w.heap.size (.slice (some ⟨w.heap.size, 0, none⟩) 0 0) 0 [] rfl HO.out (.slice (some ad) n cp) n (xs.flatMap glC) rfl HL1.out (by rw [HFL.out, hn]) hon (by unfold maxLen; omega) (by omega) hsz ?_
  intro v7 w7 ho7 hg7 _;have HO7 := Bas.hid ho7;have HB7 := Bas.hid (HB1.out.grown hg7 hsz (fun g' hg' => by cases hg'; exact Nat.le_refl _))
  clear ho7 hg7;go_wp2_with (fail);go_ret;refine ⟨HB7.out, v7, rfl, ?_⟩;have h := HO7.out;rw [Nat.zero_add, List.nil_append] at h;exact h
end Ln
end Go.Proofs.YtoncnjhhdlpliaaGreat
