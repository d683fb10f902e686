/- Parts of a proof: texts RearRun1, RearRun, CtxSwap, CtxRun, ChainOne, ChainOneB, ChainTake, CoverA, CoverB, MxD, MxWork, MxE, MxB, MxTake. -/
import Derived.Test.YtoncnjhhdlpliaaGreatMP06
namespace Go.Proofs.YtoncnjhhdlpliaaGreat
open Go.RowKit
namespace Rr
open Ch Lk St Ln Dr Vb
set_option maxRecDepth 100000 in
set_option maxHeartbeats 16000000 in
theorem rear1_any (base g bx F L B : Nat) (sv : Value) (s : Int × Int) (xs : List Gl) (u : World) (pl : Int) (e : EntD) (h : LineAt u base g sv xs) (hX : rearBox bx F L B g s u) (hI : RearInv s xs) (hne : bx ≠ F ∧ bx ≠ L ∧ F ≠ L ∧ F ≠ B ∧ L ≠ B)
  (hpl : 0 ≤ pl) (hpl2 : pl ≤ 4398046511104) (hf0 : 0 ≤ e.flags) (hf1 : e.flags ≤ 65535) :
  Calls Tryz.prog 80 (#[.int .i64 pl, .agg #[.int .i64 e.next, .int .i64 e.flags, .int .i64 e.a, .int .i64 e.b]] ++ #[.pointer (some ⟨bx, 0, none⟩), .pointer (some ⟨F, 0, none⟩), .pointer (some ⟨L, 0, none⟩)]) u
   (ActP rearF base g (rearBox bx F L B g) (rearBx bx F L B) RearInv s xs sv u pl e) := by
 have HINV := Bas.hid (rear_inv hI pl hpl e);obtain ⟨hA, hBd⟩ := rear_bd hI pl hpl e;have hXL := hI.2.2;obtain ⟨s0, s1⟩ := s;obtain ⟨e0, fl, e2, e3⟩ := e;obtain ⟨kb0, kF0, kL0, kB0⟩ := hX;obtain ⟨n1, n2, n3, n4, n5⟩ := hne;simp only at hf0 hf1 kF0 kL0;obtain ⟨A, hAA⟩ : ∃ A, rearA (s0, s1) xs.length pl ⟨e0, fl, e2, e3⟩ = A := ⟨_, rfl⟩;obtain ⟨Z, hZZ⟩ : ∃ Z, rearB (s0, s1) xs.length pl ⟨e0, fl, e2, e3⟩ = Z := ⟨_, rfl⟩;have HRF : Hid (rearF (s0, s1) xs pl ⟨e0, fl, e2, e3⟩ = ((A, Z), rearX xs (fl % 16).toNat A Z)) := by unfold Hid rearF; rw [hAA, hZZ]
 rw [hAA] at hA;rw [hZZ] at hBd;unfold rearA at hAA;unfold rearB at hZZ;simp only at hAA hZZ;have HB1 := Bas.hid ((Below.refl u.heap.size u).alloc (Nat.le_refl _) (.cells #[.int .i64 e0, .int .i64 fl, .int .i64 e2, .int .i64 e3] 162));have kE := Bas.heap_new u (.cells #[.int .i64 e0, .int .i64 fl, .int .i64 e2, .int .i64 e3] 162);have hL1 := h.below HB1.out;have kb := (HB1.out.block _ (heap_lt kb0)).trans kb0;have kF := (HB1.out.block _ (heap_lt kF0)).trans kF0;have kL := (HB1.out.block _ (heap_lt kL0)).trans kL0;have kB := (HB1.out.block _ (heap_lt kB0)).trans kB0;have lu := heap_lt kF0;have lu2 := heap_lt kL0;have hgF : g ≠ F := fun e => by rw [e] at h; have := h.head; rw [kF0] at this; cases this
 have hgL : g ≠ L := fun e => by rw [e] at h; have := h.head; rw [kL0] at this; cases this
 have hFl := own_ty h.own kF0 (by decide)
 have hLl := own_ty h.own kL0 (by decide)
 have hbl := own_ty h.own kb0 (by decide)
 have hBl := own_ty h.own kB0 (by decide)
 have hgb : g ≠ bx := fun e => by rw [e] at h; have := h.head; rw [kb0] at this; cases this
 have hgB : g ≠ B := fun e => by rw [e] at h; have := h.head; rw [kB0] at this; cases this
 have HNE := Bas.hid (show (g ≠ F ∧ g ≠ L ∧ g ≠ bx ∧ g ≠ B) ∧ (sv.ownBlock ≠ some F ∧ sv.ownBlock ≠ some L ∧ sv.ownBlock ≠ some bx ∧ sv.ownBlock ≠ some B) from ⟨⟨hgF, hgL, hgb, hgB⟩, hFl, hLl, hbl, hBl⟩)
 have HN := Bas.hid (show bx ≠ F ∧ bx ≠ L ∧ F ≠ L ∧ F ≠ B ∧ L ≠ B from ⟨n1, n2, n3, n4, n5⟩)
 have HE5 := Bas.hid (show F ≠ u.heap.size ∧ L ≠ u.heap.size from ⟨by omega, by omega⟩)
 have HM1 : Hid (Mod (fun k => blk g sv k ∨ rearBx bx F L B k) u (u.alloc (.cells #[.int .i64 e0, .int .i64 fl, .int .i64 e2, .int .i64 e3] 162))) := Mod.of_below HB1.out
 have HLO := Bas.hid h;have HV0 : 0 ≤ fl % 16 ∧ fl % 16 < 16 := by omega
 have hv16 : bits .and .i64 fl 15 = fl % 16 := i64_low fl 4 (by omega) hf0 hf1
 obtain ⟨vn, hvn⟩ := Int.eq_ofNat_of_zero_le HV0.1;rw [hvn] at hv16 HV0;have HVN := Bas.hid hvn;have q1 := flag_at fl 15 32768 rfl (by omega) hf0 hf1
 have q2 := flag_at fl 13 8192 rfl (by omega) hf0 hf1
 have HXL := Bas.hid hXL;have HA := Bas.hid hA;have HZ := Bas.hid hBd;have HLEN := fun w (hw : LineAt w base g sv xs) => Bas.hid (len_any base g sv xs w hw)
 obtain ⟨m, hm⟩ : ∃ m, xs.length = m := ⟨_, rfl⟩;have HMM := Bas.hid hm;rw [hm] at hAA hZZ hXL hA hBd;have n6 : F ≠ u.heap.size := HE5.out.1;have n7 : L ≠ u.heap.size := HE5.out.2;clear h hI kb0 kF0 kL0 kB0 hgF hgL hgb hgB hFl hLl hbl hBl lu lu2 hvn hm;by_cases z1 : fl / 32768 % 2 = 1
 ·by_cases z2 : fl / 8192 % 2 = 1
  ·rw [if_pos z1] at q1 hAA;rw [if_pos z2] at q2 hZZ;clear z1 z2;have cb := cell_of_heap (i := 0) kb rfl;have cF := cell_of_heap (i := 0) kF rfl;have cL := cell_of_heap (i := 0) kL rfl;have cE := cell_of_heap (i := 1) kE rfl;have fF := free_of_heap (i := 0) kF;have fL := free_of_heap (i := 0) kL;have lb := heap_lt kb;have lF := heap_lt kF;have lL := heap_lt kL;have lE := heap_lt kE;go_enter Tryz.func80, Tryz.ntmps80
   go_wp2_with (fail);generalize (u.alloc (.cells #[.int .i64 e0, .int .i64 fl, .int .i64 e2, .int .i64 e3] 162)) = W1 at *;have HL0 := Bas.hid (HLEN _ hL1);refine HL0.out.mono ?_;rintro e w2 ⟨rfl, rfl⟩;rw [HMM.out];go_wp2_with (fail);clear HL0;clear cb cF cL cE fF fL lb lF lL lE;have HM2 := Bas.hid (HM1.out.set (S := fun k => blk g sv k ∨ rearBx bx F L B k) (b := F) (o := 0) (.int .i64 A) (.inl (.inr (.inr (.inl rfl)))))
   have kb2 := (Below.heap_setCell W1 ⟨F, 0, none⟩ (.int .i64 A) bx (by exact HN.out.1)).trans kb
   have kB2 := (Below.heap_setCell W1 ⟨F, 0, none⟩ (.int .i64 A) B (by exact fun e => HN.out.2.2.2.1 e.symm)).trans kB
   have kE2 := (Below.heap_setCell W1 ⟨F, 0, none⟩ (.int .i64 A) u.heap.size (by exact fun e => HE5.out.1 e.symm)).trans kE
   have kF2 := heap_set (i := 0) kF (.int .i64 A);have kL2 := (Below.heap_setCell W1 ⟨F, 0, none⟩ (.int .i64 A) L (by exact fun e => HN.out.2.2.1 e.symm)).trans kL
   have hL2 : LineAt (W1.setCell ⟨F, 0, none⟩ (.int .i64 A)) base g sv xs := hL1.mod ((Mod.refl (fun k => k = F) W1).set (.int .i64 A) (.inl rfl)) (fun k hk e => by
    subst e;rcases hk with hk | hk
    ·exact HNE.out.1.1 hk.symm
    ·exact HNE.out.2.1 hk)
   clear HM1 hL1 kb kF kL kB kE;have HM1 := HM2;have hL1 := hL2;have kb := kb2;have kF := kF2;have kL := kL2;have kB := kB2;have kE := kE2;clear HM2 hL2 kb2 kF2 kL2 kB2 kE2;generalize (W1.setCell ⟨F, 0, none⟩ (.int .i64 A)) = W1 at *;have cb := cell_of_heap (i := 0) kb rfl;have cF := cell_of_heap (i := 0) kF rfl;have cL := cell_of_heap (i := 0) kL rfl;have cE := cell_of_heap (i := 1) kE rfl;have fF := free_of_heap (i := 0) kF;have fL := free_of_heap (i := 0) kL;have lb := heap_lt kb;have lF := heap_lt kF;have lL := heap_lt kL;have lE := heap_lt kE;have HL0 := Bas.hid (HLEN _ hL1);refine HL0.out.mono ?_;rintro e w2 ⟨rfl, rfl⟩;rw [HMM.out];go_wp2_with (fail);clear HL0;clear cb cF cL cE fF fL lb lF lL lE;have HM2 := Bas.hid (HM1.out.set (S := fun k => blk g sv k ∨ rearBx bx F L B k) (b := L) (o := 0) (.int .i64 Z) (.inl (.inr (.inr (.inr (.inl rfl))))))
   have kb2 := (Below.heap_setCell W1 ⟨L, 0, none⟩ (.int .i64 Z) bx (by exact HN.out.2.1)).trans kb
   have kB2 := (Below.heap_setCell W1 ⟨L, 0, none⟩ (.int .i64 Z) B (by exact fun e => HN.out.2.2.2.2 e.symm)).trans kB
   have kE2 := (Below.heap_setCell W1 ⟨L, 0, none⟩ (.int .i64 Z) u.heap.size (by exact fun e => HE5.out.2 e.symm)).trans kE
   have kL2 := heap_set (i := 0) kL (.int .i64 Z);have kF2 := (Below.heap_setCell W1 ⟨L, 0, none⟩ (.int .i64 Z) F (by exact HN.out.2.2.1)).trans kF
   have hL2 : LineAt (W1.setCell ⟨L, 0, none⟩ (.int .i64 Z)) base g sv xs := hL1.mod ((Mod.refl (fun k => k = L) W1).set (.int .i64 Z) (.inl rfl)) (fun k hk e => by
    subst e;rcases hk with hk | hk
    ·exact HNE.out.1.2.1 hk.symm
    ·exact HNE.out.2.2.1 hk)
   clear HM1 hL1 kb kF kL kB kE;have HM1 := HM2;have hL1 := hL2;have kb := kb2;have kF := kF2;have kL := kL2;have kB := kB2;have kE := kE2;clear HM2 hL2 kb2 kF2 kL2 kB2 kE2;generalize (W1.setCell ⟨L, 0, none⟩ (.int .i64 Z)) = W1 at *;have cb := cell_of_heap (i := 0) kb rfl;have cF := cell_of_heap (i := 0) kF rfl;have cL := cell_of_heap (i := 0) kL rfl;have cE := cell_of_heap (i := 1) kE rfl;have fF := free_of_heap (i := 0) kF;have fL := free_of_heap (i := 0) kL;have lb := heap_lt kb;have lF := heap_lt kF;have lL := heap_lt kL;have lE := heap_lt kE;have HL1 := Bas.hid hL1;have HKS := Bas.hid (And.intro (And.intro kb kF) (And.intro kL kB));clear hL1 kb kF kL kB kE;have HDN : Hid (∀ w', Below W1.heap.size W1 w' → rearX xs vn A Z = xs → ActP rearF base g (rearBox bx F L B g) (rearBx bx F L B) RearInv (s0, s1) xs sv u pl ⟨e0, fl, e2, e3⟩ (.returned (.tuple #[])) w') := fun w' hw hx => by
    refine ⟨rfl, sv, ?_, ?_, HINV.out, HM1.out.on hw, fun _ h => .inl h⟩
    ·rw [HRF.out, HVN.out, Int.toNat_natCast, hx]; exact HL1.out.below hw
    ·rw [HRF.out];exact ⟨(hw.block _ (heap_lt HKS.out.1.1)).trans HKS.out.1.1, (hw.block _ (heap_lt HKS.out.1.2)).trans HKS.out.1.2, (hw.block _ (heap_lt HKS.out.2.1)).trans HKS.out.2.1, (hw.block _ (heap_lt HKS.out.2.2)).trans HKS.out.2.2⟩
   by_cases hv0 : vn = 0
   ·have HO := Bas.hid (fun w => order_out (vn : Int) (Z - A) w (.inl (by omega)))
    have HNX := Bas.hid (show rearX xs vn A Z = xs by unfold rearX; rw [if_neg (by omega)])
    clear hv0
    with_reducible refine (HO.out _).mono ?_
    rintro e w5 ⟨rfl, hb5⟩;have HF5 := Bas.hid (HDN.out w5 hb5 HNX.out);clear cb cF cL cE fF fL lb lF lL lE;go_wp2_with (fail)
    go_end0
    exact HF5.out
   ·by_cases hs : Z - A < (((endsV vn).1 + (endsV vn).2.1 : Nat) : Int)
    ·have HO := Bas.hid (fun w => order_short vn (Z - A) w (by omega) (by omega) hs)
     have HNX := Bas.hid (show rearX xs vn A Z = xs by unfold rearX; rw [if_neg (by omega)])
     clear hv0 hs
     with_reducible refine (HO.out _).mono ?_
     rintro e w5 ⟨rfl, hb5⟩;have HF5 := Bas.hid (HDN.out w5 hb5 HNX.out);clear cb cF cL cE fF fL lb lF lL lE;go_wp2_with (fail)
     go_end0
     exact HF5.out
    ·have hA3 := HA.out;have hZ3 := HZ.out;have hX3 := HXL.out;obtain ⟨nn, hnn⟩ := Int.eq_ofNat_of_zero_le (show 0 ≤ Z - A by omega)
     obtain ⟨an, han⟩ := Int.eq_ofNat_of_zero_le hA3.1;have hpos : 1 ≤ (endsV vn).1 + (endsV vn).2.1 := ends_pos vn (by omega) (by omega)
     have HO := Bas.hid (fun w => order_yes vn nn w (by omega) (by omega) (by omega) (by omega))
     have HYX : Hid (rearX xs vn A Z = ordP xs an (orderL vn nn)) := by unfold Hid rearX; rw [if_pos (by omega), hnn, han, Int.toNat_natCast, Int.toNat_natCast]
     have HOK := Bas.hid (order_ok vn nn (by omega))
     have HOL := Bas.hid (order_len vn nn (by omega))
     have HFIT : Hid (an + nn ≤ xs.length ∧ 1 ≤ nn) := ⟨by omega, by omega⟩
     have HAN := Bas.hid han;clear hv0 hs hA3 hZ3 hX3 hpos;rw [hnn];clear hnn
     with_reducible refine (HO.out _).mono ?_
     rintro e w5 ⟨v5, rfl, ho5, hb5⟩;rw [HOL.out] at ho5;obtain ⟨a5, c5, rfl⟩ := own_slice ho5;have hL5 := HL1.out.below hb5;have kb5 := (hb5.block _ (heap_lt HKS.out.1.1)).trans HKS.out.1.1;have kF5 := (hb5.block _ (heap_lt HKS.out.1.2)).trans HKS.out.1.2;have cb5 := cell_of_heap (i := 0) kb5 rfl;have cF5 := cell_of_heap (i := 0) kF5 rfl;have lb5 := heap_lt kb5;have lF5 := heap_lt kF5;rw [HAN.out] at cF5;have HORD := Bas.hid (lineOrder_any base g sv _ xs an (orderL vn nn) nn w5 hL5 (fun w' hm' => hm'.leads (Row.leads_owned ho5) (fun ad len cap hv _ hk => by
      have h1 := (Row.own_block ho5 (g := ad.block) (by rw [hv]; rfl)).1
      have h2 := (HL1.out.blk_low _ hk).2;omega)) HOL.out HFIT.out.2 HFIT.out.1 HOK.out (by have := HXL.out; omega))
     have HB5 := Bas.hid hb5;clear ho5 hb5 hL5 kb5 kF5 HO;clear cb cF cL cE fF fL lb lF lL lE;go_wp2_with (fail);refine HORD.out.mono ?_;rintro e w6 ⟨rfl, sv6, hL6, hm6, ho6⟩;have hk6 : ∀ {b : Nat} {o : Obj}, W1.heap[b]? = some o → ¬ blk g sv b → w6.heap[b]? = some o := fun h hn => hm6.heap ((HB5.out.block _ (heap_lt h)).trans h) hn
     have HF6 : Hid (ActP rearF base g (rearBox bx F L B g) (rearBx bx F L B) RearInv (s0, s1) xs sv u pl ⟨e0, fl, e2, e3⟩ (.returned (.tuple #[])) w6) := by
      refine ⟨rfl, sv6, ?_, ?_, HINV.out, (HM1.out.on HB5.out).trans hm6 (fun k hk _ => .inl hk), fun k hk => (ho6 k hk).imp id (fun h => Nat.le_trans HM1.out.size (Nat.le_trans HB5.out.size h))⟩
      ·rw [HRF.out, HVN.out, Int.toNat_natCast, HYX.out]; exact hL6
      ·rw [HRF.out];exact ⟨hk6 HKS.out.1.1 (fun h => h.elim (fun e => HNE.out.1.2.2.1 e.symm) HNE.out.2.2.2.1), hk6 HKS.out.1.2 (fun h => h.elim (fun e => HNE.out.1.1 e.symm) HNE.out.2.1), hk6 HKS.out.2.1 (fun h => h.elim (fun e => HNE.out.1.2.1 e.symm) HNE.out.2.2.1), hk6 HKS.out.2.2 (fun h => h.elim (fun e => HNE.out.1.2.2.2 e.symm) HNE.out.2.2.2.2)⟩
     clear hL6 hm6 ho6 hk6 cb5 cF5 lb5 lF5 HORD;go_wp2_with (fail)
     go_end0
     exact HF6.out
  ·rw [if_pos z1] at q1 hAA;rw [if_neg z2] at q2 hZZ;rw [hZZ] at kL;clear hZZ;clear z1 z2;have cb := cell_of_heap (i := 0) kb rfl;have cF := cell_of_heap (i := 0) kF rfl;have cL := cell_of_heap (i := 0) kL rfl;have cE := cell_of_heap (i := 1) kE rfl;have fF := free_of_heap (i := 0) kF;have fL := free_of_heap (i := 0) kL;have lb := heap_lt kb;have lF := heap_lt kF;have lL := heap_lt kL;have lE := heap_lt kE;go_enter Tryz.func80, Tryz.ntmps80
   go_wp2_with (fail);generalize (u.alloc (.cells #[.int .i64 e0, .int .i64 fl, .int .i64 e2, .int .i64 e3] 162)) = W1 at *;have HL0 := Bas.hid (HLEN _ hL1);refine HL0.out.mono ?_;rintro e w2 ⟨rfl, rfl⟩;rw [HMM.out];go_wp2_with (fail);clear HL0;clear cb cF cL cE fF fL lb lF lL lE;have HM2 := Bas.hid (HM1.out.set (S := fun k => blk g sv k ∨ rearBx bx F L B k) (b := F) (o := 0) (.int .i64 A) (.inl (.inr (.inr (.inl rfl)))))
   have kb2 := (Below.heap_setCell W1 ⟨F, 0, none⟩ (.int .i64 A) bx (by exact HN.out.1)).trans kb
   have kB2 := (Below.heap_setCell W1 ⟨F, 0, none⟩ (.int .i64 A) B (by exact fun e => HN.out.2.2.2.1 e.symm)).trans kB
   have kE2 := (Below.heap_setCell W1 ⟨F, 0, none⟩ (.int .i64 A) u.heap.size (by exact fun e => HE5.out.1 e.symm)).trans kE
   have kF2 := heap_set (i := 0) kF (.int .i64 A);have kL2 := (Below.heap_setCell W1 ⟨F, 0, none⟩ (.int .i64 A) L (by exact fun e => HN.out.2.2.1 e.symm)).trans kL
   have hL2 : LineAt (W1.setCell ⟨F, 0, none⟩ (.int .i64 A)) base g sv xs := hL1.mod ((Mod.refl (fun k => k = F) W1).set (.int .i64 A) (.inl rfl)) (fun k hk e => by
    subst e;rcases hk with hk | hk
    ·exact HNE.out.1.1 hk.symm
    ·exact HNE.out.2.1 hk)
   clear HM1 hL1 kb kF kL kB kE;have HM1 := HM2;have hL1 := hL2;have kb := kb2;have kF := kF2;have kL := kL2;have kB := kB2;have kE := kE2;clear HM2 hL2 kb2 kF2 kL2 kB2 kE2;generalize (W1.setCell ⟨F, 0, none⟩ (.int .i64 A)) = W1 at *;have cb := cell_of_heap (i := 0) kb rfl;have cF := cell_of_heap (i := 0) kF rfl;have cL := cell_of_heap (i := 0) kL rfl;have cE := cell_of_heap (i := 1) kE rfl;have fF := free_of_heap (i := 0) kF;have fL := free_of_heap (i := 0) kL;have lb := heap_lt kb;have lF := heap_lt kF;have lL := heap_lt kL;have lE := heap_lt kE;have HL1 := Bas.hid hL1;have HKS := Bas.hid (And.intro (And.intro kb kF) (And.intro kL kB));clear hL1 kb kF kL kB kE;have HDN : Hid (∀ w', Below W1.heap.size W1 w' → rearX xs vn A Z = xs → ActP rearF base g (rearBox bx F L B g) (rearBx bx F L B) RearInv (s0, s1) xs sv u pl ⟨e0, fl, e2, e3⟩ (.returned (.tuple #[])) w') := fun w' hw hx => by
    refine ⟨rfl, sv, ?_, ?_, HINV.out, HM1.out.on hw, fun _ h => .inl h⟩
    ·rw [HRF.out, HVN.out, Int.toNat_natCast, hx]; exact HL1.out.below hw
    ·rw [HRF.out];exact ⟨(hw.block _ (heap_lt HKS.out.1.1)).trans HKS.out.1.1, (hw.block _ (heap_lt HKS.out.1.2)).trans HKS.out.1.2, (hw.block _ (heap_lt HKS.out.2.1)).trans HKS.out.2.1, (hw.block _ (heap_lt HKS.out.2.2)).trans HKS.out.2.2⟩
   by_cases hv0 : vn = 0
   ·have HO := Bas.hid (fun w => order_out (vn : Int) (Z - A) w (.inl (by omega)))
    have HNX := Bas.hid (show rearX xs vn A Z = xs by unfold rearX; rw [if_neg (by omega)])
    clear hv0
    with_reducible refine (HO.out _).mono ?_
    rintro e w5 ⟨rfl, hb5⟩;have HF5 := Bas.hid (HDN.out w5 hb5 HNX.out);clear cb cF cL cE fF fL lb lF lL lE;go_wp2_with (fail)
    go_end0
    exact HF5.out
   ·by_cases hs : Z - A < (((endsV vn).1 + (endsV vn).2.1 : Nat) : Int)
    ·have HO := Bas.hid (fun w => order_short vn (Z - A) w (by omega) (by omega) hs)
     have HNX := Bas.hid (show rearX xs vn A Z = xs by unfold rearX; rw [if_neg (by omega)])
     clear hv0 hs
     with_reducible refine (HO.out _).mono ?_
     rintro e w5 ⟨rfl, hb5⟩;have HF5 := Bas.hid (HDN.out w5 hb5 HNX.out);clear cb cF cL cE fF fL lb lF lL lE;go_wp2_with (fail)
     go_end0
     exact HF5.out
    ·have hA3 := HA.out;have hZ3 := HZ.out;have hX3 := HXL.out;obtain ⟨nn, hnn⟩ := Int.eq_ofNat_of_zero_le (show 0 ≤ Z - A by omega)
     obtain ⟨an, han⟩ := Int.eq_ofNat_of_zero_le hA3.1;have hpos : 1 ≤ (endsV vn).1 + (endsV vn).2.1 := ends_pos vn (by omega) (by omega)
     have HO := Bas.hid (fun w => order_yes vn nn w (by omega) (by omega) (by omega) (by omega))
     have HYX : Hid (rearX xs vn A Z = ordP xs an (orderL vn nn)) := by unfold Hid rearX; rw [if_pos (by omega), hnn, han, Int.toNat_natCast, Int.toNat_natCast]
     have HOK := Bas.hid (order_ok vn nn (by omega))
     have HOL := Bas.hid (order_len vn nn (by omega))
     have HFIT : Hid (an + nn ≤ xs.length ∧ 1 ≤ nn) := ⟨by omega, by omega⟩
     have HAN := Bas.hid han;clear hv0 hs hA3 hZ3 hX3 hpos;rw [hnn];clear hnn
     with_reducible refine (HO.out _).mono ?_
     rintro e w5 ⟨v5, rfl, ho5, hb5⟩;rw [HOL.out] at ho5;obtain ⟨a5, c5, rfl⟩ := own_slice ho5;have hL5 := HL1.out.below hb5;have kb5 := (hb5.block _ (heap_lt HKS.out.1.1)).trans HKS.out.1.1;have kF5 := (hb5.block _ (heap_lt HKS.out.1.2)).trans HKS.out.1.2;have cb5 := cell_of_heap (i := 0) kb5 rfl;have cF5 := cell_of_heap (i := 0) kF5 rfl;have lb5 := heap_lt kb5;have lF5 := heap_lt kF5;rw [HAN.out] at cF5;have HORD := Bas.hid (lineOrder_any base g sv _ xs an (orderL vn nn) nn w5 hL5 (fun w' hm' => hm'.leads (Row.leads_owned ho5) (fun ad len cap hv _ hk => by
      have h1 := (Row.own_block ho5 (g := ad.block) (by rw [hv]; rfl)).1
      have h2 := (HL1.out.blk_low _ hk).2;omega)) HOL.out HFIT.out.2 HFIT.out.1 HOK.out (by have := HXL.out; omega))
     have HB5 := Bas.hid hb5;clear ho5 hb5 hL5 kb5 kF5 HO;clear cb cF cL cE fF fL lb lF lL lE;go_wp2_with (fail);refine HORD.out.mono ?_;rintro e w6 ⟨rfl, sv6, hL6, hm6, ho6⟩;have hk6 : ∀ {b : Nat} {o : Obj}, W1.heap[b]? = some o → ¬ blk g sv b → w6.heap[b]? = some o := fun h hn => hm6.heap ((HB5.out.block _ (heap_lt h)).trans h) hn
     have HF6 : Hid (ActP rearF base g (rearBox bx F L B g) (rearBx bx F L B) RearInv (s0, s1) xs sv u pl ⟨e0, fl, e2, e3⟩ (.returned (.tuple #[])) w6) := by
      refine ⟨rfl, sv6, ?_, ?_, HINV.out, (HM1.out.on HB5.out).trans hm6 (fun k hk _ => .inl hk), fun k hk => (ho6 k hk).imp id (fun h => Nat.le_trans HM1.out.size (Nat.le_trans HB5.out.size h))⟩
      ·rw [HRF.out, HVN.out, Int.toNat_natCast, HYX.out]; exact hL6
      ·rw [HRF.out];exact ⟨hk6 HKS.out.1.1 (fun h => h.elim (fun e => HNE.out.1.2.2.1 e.symm) HNE.out.2.2.2.1), hk6 HKS.out.1.2 (fun h => h.elim (fun e => HNE.out.1.1 e.symm) HNE.out.2.1), hk6 HKS.out.2.1 (fun h => h.elim (fun e => HNE.out.1.2.1 e.symm) HNE.out.2.2.1), hk6 HKS.out.2.2 (fun h => h.elim (fun e => HNE.out.1.2.2.2 e.symm) HNE.out.2.2.2.2)⟩
     clear hL6 hm6 ho6 hk6 cb5 cF5 lb5 lF5 HORD;go_wp2_with (fail)
     go_end0
     exact HF6.out
 ·by_cases z2 : fl / 8192 % 2 = 1
  ·rw [if_neg z1] at q1 hAA;rw [hAA] at kF;clear hAA;rw [if_pos z2] at q2 hZZ;clear z1 z2;have cb := cell_of_heap (i := 0) kb rfl;have cF := cell_of_heap (i := 0) kF rfl;have cL := cell_of_heap (i := 0) kL rfl;have cE := cell_of_heap (i := 1) kE rfl;have fF := free_of_heap (i := 0) kF;have fL := free_of_heap (i := 0) kL;have lb := heap_lt kb;have lF := heap_lt kF;have lL := heap_lt kL;have lE := heap_lt kE;go_enter Tryz.func80, Tryz.ntmps80
   go_wp2_with (fail);generalize (u.alloc (.cells #[.int .i64 e0, .int .i64 fl, .int .i64 e2, .int .i64 e3] 162)) = W1 at *;have HL0 := Bas.hid (HLEN _ hL1);refine HL0.out.mono ?_;rintro e w2 ⟨rfl, rfl⟩;rw [HMM.out];go_wp2_with (fail);clear HL0;clear cb cF cL cE fF fL lb lF lL lE;have HM2 := Bas.hid (HM1.out.set (S := fun k => blk g sv k ∨ rearBx bx F L B k) (b := L) (o := 0) (.int .i64 Z) (.inl (.inr (.inr (.inr (.inl rfl))))))
   have kb2 := (Below.heap_setCell W1 ⟨L, 0, none⟩ (.int .i64 Z) bx (by exact HN.out.2.1)).trans kb
   have kB2 := (Below.heap_setCell W1 ⟨L, 0, none⟩ (.int .i64 Z) B (by exact fun e => HN.out.2.2.2.2 e.symm)).trans kB
   have kE2 := (Below.heap_setCell W1 ⟨L, 0, none⟩ (.int .i64 Z) u.heap.size (by exact fun e => HE5.out.2 e.symm)).trans kE
   have kL2 := heap_set (i := 0) kL (.int .i64 Z);have kF2 := (Below.heap_setCell W1 ⟨L, 0, none⟩ (.int .i64 Z) F (by exact HN.out.2.2.1)).trans kF
   have hL2 : LineAt (W1.setCell ⟨L, 0, none⟩ (.int .i64 Z)) base g sv xs := hL1.mod ((Mod.refl (fun k => k = L) W1).set (.int .i64 Z) (.inl rfl)) (fun k hk e => by
    subst e;rcases hk with hk | hk
    ·exact HNE.out.1.2.1 hk.symm
    ·exact HNE.out.2.2.1 hk)
   clear HM1 hL1 kb kF kL kB kE;have HM1 := HM2;have hL1 := hL2;have kb := kb2;have kF := kF2;have kL := kL2;have kB := kB2;have kE := kE2;clear HM2 hL2 kb2 kF2 kL2 kB2 kE2;generalize (W1.setCell ⟨L, 0, none⟩ (.int .i64 Z)) = W1 at *;have cb := cell_of_heap (i := 0) kb rfl;have cF := cell_of_heap (i := 0) kF rfl;have cL := cell_of_heap (i := 0) kL rfl;have cE := cell_of_heap (i := 1) kE rfl;have fF := free_of_heap (i := 0) kF;have fL := free_of_heap (i := 0) kL;have lb := heap_lt kb;have lF := heap_lt kF;have lL := heap_lt kL;have lE := heap_lt kE;have HL1 := Bas.hid hL1;have HKS := Bas.hid (And.intro (And.intro kb kF) (And.intro kL kB));clear hL1 kb kF kL kB kE;have HDN : Hid (∀ w', Below W1.heap.size W1 w' → rearX xs vn A Z = xs → ActP rearF base g (rearBox bx F L B g) (rearBx bx F L B) RearInv (s0, s1) xs sv u pl ⟨e0, fl, e2, e3⟩ (.returned (.tuple #[])) w') := fun w' hw hx => by
    refine ⟨rfl, sv, ?_, ?_, HINV.out, HM1.out.on hw, fun _ h => .inl h⟩
    ·rw [HRF.out, HVN.out, Int.toNat_natCast, hx]; exact HL1.out.below hw
    ·rw [HRF.out];exact ⟨(hw.block _ (heap_lt HKS.out.1.1)).trans HKS.out.1.1, (hw.block _ (heap_lt HKS.out.1.2)).trans HKS.out.1.2, (hw.block _ (heap_lt HKS.out.2.1)).trans HKS.out.2.1, (hw.block _ (heap_lt HKS.out.2.2)).trans HKS.out.2.2⟩
   by_cases hv0 : vn = 0
   ·have HO := Bas.hid (fun w => order_out (vn : Int) (Z - A) w (.inl (by omega)))
    have HNX := Bas.hid (show rearX xs vn A Z = xs by unfold rearX; rw [if_neg (by omega)])
    clear hv0
    with_reducible refine (HO.out _).mono ?_
    rintro e w5 ⟨rfl, hb5⟩;have HF5 := Bas.hid (HDN.out w5 hb5 HNX.out);clear cb cF cL cE fF fL lb lF lL lE;go_wp2_with (fail)
    go_end0
    exact HF5.out
   ·by_cases hs : Z - A < (((endsV vn).1 + (endsV vn).2.1 : Nat) : Int)
    ·have HO := Bas.hid (fun w => order_short vn (Z - A) w (by omega) (by omega) hs)
     have HNX := Bas.hid (show rearX xs vn A Z = xs by unfold rearX; rw [if_neg (by omega)])
     clear hv0 hs
     with_reducible refine (HO.out _).mono ?_
     rintro e w5 ⟨rfl, hb5⟩;have HF5 := Bas.hid (HDN.out w5 hb5 HNX.out);clear cb cF cL cE fF fL lb lF lL lE;go_wp2_with (fail)
     go_end0
     exact HF5.out
    ·have hA3 := HA.out;have hZ3 := HZ.out;have hX3 := HXL.out;obtain ⟨nn, hnn⟩ := Int.eq_ofNat_of_zero_le (show 0 ≤ Z - A by omega)
     obtain ⟨an, han⟩ := Int.eq_ofNat_of_zero_le hA3.1;have hpos : 1 ≤ (endsV vn).1 + (endsV vn).2.1 := ends_pos vn (by omega) (by omega)
     have HO := Bas.hid (fun w => order_yes vn nn w (by omega) (by omega) (by omega) (by omega))
     have HYX : Hid (rearX xs vn A Z = ordP xs an (orderL vn nn)) := by unfold Hid rearX; rw [if_pos (by omega), hnn, han, Int.toNat_natCast, Int.toNat_natCast]
     have HOK := Bas.hid (order_ok vn nn (by omega))
     have HOL := Bas.hid (order_len vn nn (by omega))
     have HFIT : Hid (an + nn ≤ xs.length ∧ 1 ≤ nn) := ⟨by omega, by omega⟩
     have HAN := Bas.hid han;clear hv0 hs hA3 hZ3 hX3 hpos;rw [hnn];clear hnn
     with_reducible refine (HO.out _).mono ?_
     rintro e w5 ⟨v5, rfl, ho5, hb5⟩;rw [HOL.out] at ho5;obtain ⟨a5, c5, rfl⟩ := own_slice ho5;have hL5 := HL1.out.below hb5;have kb5 := (hb5.block _ (heap_lt HKS.out.1.1)).trans HKS.out.1.1;have kF5 := (hb5.block _ (heap_lt HKS.out.1.2)).trans HKS.out.1.2;have cb5 := cell_of_heap (i := 0) kb5 rfl;have cF5 := cell_of_heap (i := 0) kF5 rfl;have lb5 := heap_lt kb5;have lF5 := heap_lt kF5;rw [HAN.out] at cF5;have HORD := Bas.hid (lineOrder_any base g sv _ xs an (orderL vn nn) nn w5 hL5 (fun w' hm' => hm'.leads (Row.leads_owned ho5) (fun ad len cap hv _ hk => by
      have h1 := (Row.own_block ho5 (g := ad.block) (by rw [hv]; rfl)).1
      have h2 := (HL1.out.blk_low _ hk).2;omega)) HOL.out HFIT.out.2 HFIT.out.1 HOK.out (by have := HXL.out; omega))
     have HB5 := Bas.hid hb5;clear ho5 hb5 hL5 kb5 kF5 HO;clear cb cF cL cE fF fL lb lF lL lE;go_wp2_with (fail);refine HORD.out.mono ?_;rintro e w6 ⟨rfl, sv6, hL6, hm6, ho6⟩;have hk6 : ∀ {b : Nat} {o : Obj}, W1.heap[b]? = some o → ¬ blk g sv b → w6.heap[b]? = some o := fun h hn => hm6.heap ((HB5.out.block _ (heap_lt h)).trans h) hn
     have HF6 : Hid (ActP rearF base g (rearBox bx F L B g) (rearBx bx F L B) RearInv (s0, s1) xs sv u pl ⟨e0, fl, e2, e3⟩ (.returned (.tuple #[])) w6) := by
      refine ⟨rfl, sv6, ?_, ?_, HINV.out, (HM1.out.on HB5.out).trans hm6 (fun k hk _ => .inl hk), fun k hk => (ho6 k hk).imp id (fun h => Nat.le_trans HM1.out.size (Nat.le_trans HB5.out.size h))⟩
      ·rw [HRF.out, HVN.out, Int.toNat_natCast, HYX.out]; exact hL6
      ·rw [HRF.out];exact ⟨hk6 HKS.out.1.1 (fun h => h.elim (fun e => HNE.out.1.2.2.1 e.symm) HNE.out.2.2.2.1), hk6 HKS.out.1.2 (fun h => h.elim (fun e => HNE.out.1.1 e.symm) HNE.out.2.1), hk6 HKS.out.2.1 (fun h => h.elim (fun e => HNE.out.1.2.1 e.symm) HNE.out.2.2.1), hk6 HKS.out.2.2 (fun h => h.elim (fun e => HNE.out.1.2.2.2 e.symm) HNE.out.2.2.2.2)⟩
     clear hL6 hm6 ho6 hk6 cb5 cF5 lb5 lF5 HORD;go_wp2_with (fail)
     go_end0
     exact HF6.out
  ·rw [if_neg z1] at q1 hAA;rw [hAA] at kF;clear hAA;rw [if_neg z2] at q2 hZZ;rw [hZZ] at kL;clear hZZ;clear z1 z2;have cb := cell_of_heap (i := 0) kb rfl;have cF := cell_of_heap (i := 0) kF rfl;have cL := cell_of_heap (i := 0) kL rfl;have cE := cell_of_heap (i := 1) kE rfl;have fF := free_of_heap (i := 0) kF;have fL := free_of_heap (i := 0) kL;have lb := heap_lt kb;have lF := heap_lt kF;have lL := heap_lt kL;have lE := heap_lt kE;go_enter Tryz.func80, Tryz.ntmps80
   go_wp2_with (fail);generalize (u.alloc (.cells #[.int .i64 e0, .int .i64 fl, .int .i64 e2, .int .i64 e3] 162)) = W1 at *;have HL1 := Bas.hid hL1;have HKS := Bas.hid (And.intro (And.intro kb kF) (And.intro kL kB));clear hL1 kb kF kL kB kE;have HDN : Hid (∀ w', Below W1.heap.size W1 w' → rearX xs vn A Z = xs → ActP rearF base g (rearBox bx F L B g) (rearBx bx F L B) RearInv (s0, s1) xs sv u pl ⟨e0, fl, e2, e3⟩ (.returned (.tuple #[])) w') := fun w' hw hx => by
    refine ⟨rfl, sv, ?_, ?_, HINV.out, HM1.out.on hw, fun _ h => .inl h⟩
    ·rw [HRF.out, HVN.out, Int.toNat_natCast, hx]; exact HL1.out.below hw
    ·rw [HRF.out];exact ⟨(hw.block _ (heap_lt HKS.out.1.1)).trans HKS.out.1.1, (hw.block _ (heap_lt HKS.out.1.2)).trans HKS.out.1.2, (hw.block _ (heap_lt HKS.out.2.1)).trans HKS.out.2.1, (hw.block _ (heap_lt HKS.out.2.2)).trans HKS.out.2.2⟩
   by_cases hv0 : vn = 0
   ·have HO := Bas.hid (fun w => order_out (vn : Int) (Z - A) w (.inl (by omega)))
    have HNX := Bas.hid (show rearX xs vn A Z = xs by unfold rearX; rw [if_neg (by omega)])
    clear hv0
    with_reducible refine (HO.out _).mono ?_
    rintro e w5 ⟨rfl, hb5⟩;have HF5 := Bas.hid (HDN.out w5 hb5 HNX.out);clear cb cF cL cE fF fL lb lF lL lE;go_wp2_with (fail)
    go_end0
    exact HF5.out
   ·by_cases hs : Z - A < (((endsV vn).1 + (endsV vn).2.1 : Nat) : Int)
    ·have HO := Bas.hid (fun w => order_short vn (Z - A) w (by omega) (by omega) hs)
     have HNX := Bas.hid (show rearX xs vn A Z = xs by unfold rearX; rw [if_neg (by omega)])
     clear hv0 hs
     with_reducible refine (HO.out _).mono ?_
     rintro e w5 ⟨rfl, hb5⟩;have HF5 := Bas.hid (HDN.out w5 hb5 HNX.out);clear cb cF cL cE fF fL lb lF lL lE;go_wp2_with (fail)
     go_end0
     exact HF5.out
    ·have hA3 := HA.out;have hZ3 := HZ.out;have hX3 := HXL.out;obtain ⟨nn, hnn⟩ := Int.eq_ofNat_of_zero_le (show 0 ≤ Z - A by omega)
     obtain ⟨an, han⟩ := Int.eq_ofNat_of_zero_le hA3.1;have hpos : 1 ≤ (endsV vn).1 + (endsV vn).2.1 := ends_pos vn (by omega) (by omega)
     have HO := Bas.hid (fun w => order_yes vn nn w (by omega) (by omega) (by omega) (by omega))
     have HYX : Hid (rearX xs vn A Z = ordP xs an (orderL vn nn)) := by unfold Hid rearX; rw [if_pos (by omega), hnn, han, Int.toNat_natCast, Int.toNat_natCast]
     have HOK := Bas.hid (order_ok vn nn (by omega))
     have HOL := Bas.hid (order_len vn nn (by omega))
     have HFIT : Hid (an + nn ≤ xs.length ∧ 1 ≤ nn) := ⟨by omega, by omega⟩
     have HAN := Bas.hid han;clear hv0 hs hA3 hZ3 hX3 hpos;rw [hnn];clear hnn
     with_reducible refine (HO.out _).mono ?_
     rintro e w5 ⟨v5, rfl, ho5, hb5⟩;rw [HOL.out] at ho5;obtain ⟨a5, c5, rfl⟩ := own_slice ho5;have hL5 := HL1.out.below hb5;have kb5 := (hb5.block _ (heap_lt HKS.out.1.1)).trans HKS.out.1.1;have kF5 := (hb5.block _ (heap_lt HKS.out.1.2)).trans HKS.out.1.2;have cb5 := cell_of_heap (i := 0) kb5 rfl;have cF5 := cell_of_heap (i := 0) kF5 rfl;have lb5 := heap_lt kb5;have lF5 := heap_lt kF5;rw [HAN.out] at cF5;have HORD := Bas.hid (lineOrder_any base g sv _ xs an (orderL vn nn) nn w5 hL5 (fun w' hm' => hm'.leads (Row.leads_owned ho5) (fun ad len cap hv _ hk => by
      have h1 := (Row.own_block ho5 (g := ad.block) (by rw [hv]; rfl)).1
      have h2 := (HL1.out.blk_low _ hk).2;omega)) HOL.out HFIT.out.2 HFIT.out.1 HOK.out (by have := HXL.out; omega))
     have HB5 := Bas.hid hb5;clear ho5 hb5 hL5 kb5 kF5 HO;clear cb cF cL cE fF fL lb lF lL lE;go_wp2_with (fail);refine HORD.out.mono ?_;rintro e w6 ⟨rfl, sv6, hL6, hm6, ho6⟩;have hk6 : ∀ {b : Nat} {o : Obj}, W1.heap[b]? = some o → ¬ blk g sv b → w6.heap[b]? = some o := fun h hn => hm6.heap ((HB5.out.block _ (heap_lt h)).trans h) hn
     have HF6 : Hid (ActP rearF base g (rearBox bx F L B g) (rearBx bx F L B) RearInv (s0, s1) xs sv u pl ⟨e0, fl, e2, e3⟩ (.returned (.tuple #[])) w6) := by
      refine ⟨rfl, sv6, ?_, ?_, HINV.out, (HM1.out.on HB5.out).trans hm6 (fun k hk _ => .inl hk), fun k hk => (ho6 k hk).imp id (fun h => Nat.le_trans HM1.out.size (Nat.le_trans HB5.out.size h))⟩
      ·rw [HRF.out, HVN.out, Int.toNat_natCast, HYX.out]; exact hL6
      ·rw [HRF.out];exact ⟨hk6 HKS.out.1.1 (fun h => h.elim (fun e => HNE.out.1.2.2.1 e.symm) HNE.out.2.2.2.1), hk6 HKS.out.1.2 (fun h => h.elim (fun e => HNE.out.1.1 e.symm) HNE.out.2.1), hk6 HKS.out.2.1 (fun h => h.elim (fun e => HNE.out.1.2.1 e.symm) HNE.out.2.2.1), hk6 HKS.out.2.2 (fun h => h.elim (fun e => HNE.out.1.2.2.2 e.symm) HNE.out.2.2.2.2)⟩
     clear hL6 hm6 ho6 hk6 cb5 cF5 lb5 lF5 HORD;go_wp2_with (fail)
     go_end0
     exact HF6.out
def rearRun (M : MachD) (xs : List Gl) : List Gl × Int := ((dall M (plF rearF) (0, 0) xs).1.xs, (dall M (plF rearF) (0, 0) xs).2)
set_option maxRecDepth 100000 in
set_option maxHeartbeats 8000000 in
theorem rearRun_any (base g : Nat) (sv v : Value) (xs : List Gl) (M : MachD) (W0 w : World) (hT : RearAt W0 v M) (hok : MachOk M) (hb0 : Below W0.heap.size W0 w) (hbase : W0.heap.size ≤ base) (hL : LineAt w base g sv xs) (hlen : xs.length ≤ 1000000) :
  Calls Tryz.prog 56 #[v, .pointer (some ⟨g, 0, none⟩)] w fun e w' => e = .returned (.int .i64 (rearRun M xs).2) ∧ LnTo w base g sv (rearRun M xs).1 w' := by
 have hmf : ∀ (fn : Fn) (first cap : Array Value) (w : World), (Instr.makeFunc fn first cap).run Tryz.prog w = .ok (.func fn first cap) w := fun _ _ _ _ => rfl
 obtain ⟨gt, gm, rfl, hgt, hm⟩ := hT;have kt := (hb0.block _ (heap_lt hgt)).trans hgt;have HGT0 := Bas.hid (heap_lt hgt);have HCT0 := Bas.hid (cell_of_heap (i := 0) kt rfl);have HL := Bas.hid hL;have HM := Bas.hid hm;have HB0 := Bas.hid hb0;have HBA := Bas.hid hbase;have hb3 := ((((Below.refl w.heap.size w).alloc (Nat.le_refl _) (.cells #[.pointer (some ⟨g, 0, none⟩)] 32)).alloc (by simp) (.cells #[.int .i64 0] 3)).alloc (by simp; omega) (.cells #[.int .i64 0] 3))
 have z1 := World.size_alloc w (.cells #[.pointer (some ⟨g, 0, none⟩)] 32);have z2 := World.size_alloc (w.alloc (.cells #[.pointer (some ⟨g, 0, none⟩)] 32)) (.cells #[.int .i64 0] 3);have kb := (Below.heap_alloc ((w.alloc (.cells #[.pointer (some ⟨g, 0, none⟩)] 32)).alloc (.cells #[.int .i64 0] 3)) (.cells #[.int .i64 0] 3) w.heap.size (by omega)).trans ((Below.heap_alloc (w.alloc (.cells #[.pointer (some ⟨g, 0, none⟩)] 32)) (.cells #[.int .i64 0] 3) w.heap.size (by omega)).trans (Bas.heap_new w (.cells #[.pointer (some ⟨g, 0, none⟩)] 32)))
 have kF := (Below.heap_alloc ((w.alloc (.cells #[.pointer (some ⟨g, 0, none⟩)] 32)).alloc (.cells #[.int .i64 0] 3)) (.cells #[.int .i64 0] 3) (w.heap.size + 1) (by omega)).trans (Bas.heap_new2 w (.cells #[.pointer (some ⟨g, 0, none⟩)] 32) (.cells #[.int .i64 0] 3))
 have kL := Bas.heap_new ((w.alloc (.cells #[.pointer (some ⟨g, 0, none⟩)] 32)).alloc (.cells #[.int .i64 0] 3)) (.cells #[.int .i64 0] 3);rw [z2, z1] at kL;have kt1 := (hb3.block _ (heap_lt kt)).trans kt;clear hL hm hb0 hbase;go_enter Tryz.func56, Tryz.ntmps56
 go_wp2_with (fail);generalize (((w.alloc (.cells #[.pointer (some ⟨g, 0, none⟩)] 32)).alloc (.cells #[.int .i64 0] 3)).alloc (.cells #[.int .i64 0] 3)) = W3 at *;clear z1 z2;have HB3 := Bas.hid hb3;have cb := cell_of_heap (i := 0) kb rfl;have lb := heap_lt kb;have ct := cell_of_heap (i := 0) kt1 rfl;have lt := heap_lt kt1;have HKB := Bas.hid kb;have HKF := Bas.hid kF;have HKL := Bas.hid kL;clear hb3 kb kF kL kt kt1 hgt;have hLT : LineAt W3 base g sv xs := HL.out.below HB3.out;obtain ⟨RI, RF, Ri, RF0, RFk, RFw⟩ := Pl.fam_of W3 (fun u => u.cell? ⟨gt, 0, none⟩ = some (.pointer (some ⟨gm, 0, none⟩)) ∧ u.cell? ⟨w.heap.size, 0, none⟩ = some (.pointer (some ⟨g, 0, none⟩))) ⟨ct, cb⟩
 have RFH := Bas.hid RF0;have RhI : Nonempty RI := ⟨Ri⟩;have RFW := Bas.hid RFw;have z0 := fun i => (RFk i).1
 have z1 := fun i => (RFk i).2
 have HCT := Bas.hid ct;have HCB := Bas.hid cb;clear RF0 RFw RFk ct cb lb lt;refine Pl.region_plan0 Ri [(true, 0), (true, 1), (true, 2), (true, 3), (true, 4), (true, 5), (false, 6), (false, 7), (true, 8), (true, 9), (true, 10), (true, 11), (true, 12)] [] (by kernel_rfl) (by kernel_rfl) (fun _ _ _ _ e h => ⟨e ▸ h.1, h.2⟩) RFH.out ?_
 refine Pl.head_sel0 [(true, 0), (true, 1), (true, 2), (true, 3), (true, 4), (true, 5)] (by kernel_rfl) (by kernel_rfl) ?_
 simp only [Pl.sel, List.drop_succ_cons, List.drop_zero];repeat (go_big_quiet_step (fail))
 refine wpQuiet_nil ?_;rw [← RFH.out];clear z0 z1;refine Pl.one_sel (by kernel_rfl) ?_
 intro Q' hQ' hP';simp only [Pl.sel, List.drop_succ_cons, List.drop_zero];go_wp2_with (fail);refine (plain_any 80 _ W3.drew).mono ?_;rintro e w4 ⟨rfl, hb4, kB⟩;have hb4' : Below W3.heap.size W3 w4 := (Bas.below_drewN (Below.refl W3.heap.size W3) 1).trans hb4;have HB4 := Bas.hid hb4';have HKB4 := Bas.hid kB;have hct4 : w4.cell? ⟨gt, 0, none⟩ = some (.pointer (some ⟨gm, 0, none⟩)) := (hb4'.cell (p := ⟨gt, 0, none⟩) (World.block_lt_of_cell? _ _ HCT.out)).trans HCT.out;have hcb4 : w4.cell? ⟨w.heap.size, 0, none⟩ = some (.pointer (some ⟨g, 0, none⟩)) := (hb4'.cell (p := ⟨w.heap.size, 0, none⟩) (World.block_lt_of_cell? _ _ HCB.out)).trans HCB.out;have HX4 : Hid (rearBox w.heap.size (w.heap.size + 1) (w.heap.size + 1 + 1) W3.heap.size g (0, 0) w4) := ⟨(hb4'.block _ (heap_lt HKB.out)).trans HKB.out, (hb4'.block _ (heap_lt HKF.out)).trans HKF.out, (hb4'.block _ (heap_lt HKL.out)).trans HKL.out, kB⟩;clear hb4 hb4' kB;go_wp2_with (fail);refine hQ' _ _ (fun _ _ => RFW.out _ ⟨hct4, hcb4⟩) ?_
 clear hct4 hcb4 hQ' hP' Q';refine Pl.one_sel (by kernel_rfl) ?_
 intro Q' hQ' hP';simp only [Pl.sel, List.drop_succ_cons, List.drop_zero];go_wp2_with (fail);have hz3 := HB3.out.size;have hlF := heap_lt HKL.out;have HWAY := Bas.hid (plain_way M rearF W0 w w4 base gm g sv xs 80 W3.heap.size #[.pointer (some ⟨w.heap.size, 0, none⟩), .pointer (some ⟨w.heap.size + 1, 0, none⟩), .pointer (some ⟨w.heap.size + 1 + 1, 0, none⟩)]
  (rearBox w.heap.size (w.heap.size + 1) (w.heap.size + 1 + 1) W3.heap.size g) (rearBx w.heap.size (w.heap.size + 1) (w.heap.size + 1 + 1) W3.heap.size) RearInv (0, 0) hok HM.out HB0.out HBA.out HL.out (by omega) (rear_boxes _ _ _ _ _)
  (fun k hk => by rcases hk with h | h | h | h <;> omega) (fun s u h => h.2.2.2) (fun args w => by simp [go_sem]) (HB3.out.trans (HB4.out.mono hz3)) HX4.out ⟨⟨by simp, by simp⟩, ⟨by simp, by simp⟩, hlen⟩
  (fun s xs sv' u pl e hL hb hx hi hp hp2 he hown => rear1_any base g _ _ _ _ sv' s xs u pl e hL hx hi ⟨by omega, by omega, by omega, by omega, by omega⟩ hp hp2 (hok.ents e he).2.1.1 (hok.ents e he).2.1.2))
 clear hz3 hlF;refine HWAY.out.mono ?_;rintro e w5 ⟨rfl, hto, s', hx⟩;have HTO := Bas.hid hto;have HX5 := Bas.hid hx;have hct5 : w5.cell? ⟨gt, 0, none⟩ = some (.pointer (some ⟨gm, 0, none⟩)) := by
  obtain ⟨sv', _, hm', _⟩ := hto;have hlt : gt < W0.heap.size := HGT0.out;have hcw := HCT0.out;refine hm'.cell hcw (fun hk => ?_)
  have h1 := (HL.out.blk_low _ hk).1;have h2 := HBA.out;omega
 have hcb5 : w5.cell? ⟨w.heap.size, 0, none⟩ = some (.pointer (some ⟨g, 0, none⟩)) := cell_of_heap hx.1 rfl;clear hto hx HWAY;go_wp2_with (fail);refine hQ' _ _ (fun _ _ => RFW.out _ ⟨hct5, hcb5⟩) ?_
 clear hct5 hcb5 hQ' hP' Q';refine Pl.head_sel0 (rest := []) [(true, 8), (true, 9), (true, 10), (true, 11), (true, 12)] (by kernel_rfl) (by kernel_rfl) ?_
 simp only [Pl.sel, List.drop_succ_cons, List.drop_zero];repeat (go_big_quiet_step (fail))
 refine wpQuiet_nil ?_;simp only [Pl.walkM];go_wp2_with (fail);go_ret;exact ⟨rfl, HTO.out⟩
end Rr
namespace Cx
open Vw Ch Lk St Ln Dr
set_option maxRecDepth 100000 in
set_option maxHeartbeats 8000000 in
theorem ctxSwap_any (base g : Nat) (sv v : Value) (xs : List Gl) (T : CtxD) (i which : Int) (u : World) (hT : CtxAt u v T) (hok : CtxOk T) (hL : LineAt u base g sv xs) (hw0 : 0 ≤ which) (hw : which = 65535 ∨ which < T.subs.length) :
  Calls Tryz.prog 86 #[v, .pointer (some ⟨g, 0, none⟩), .int .i64 i, .int .i64 which] u fun e w' => e = .returned (.tuple #[]) ∧ LnTo u base g sv (ctxSwap T.subs xs i which) w' := by
 have HAT := Bas.hid (at_any base g sv xs i u hL);have HL := Bas.hid hL;obtain ⟨gt, gm, vs, us, rfl, hgt, hm, hul, hle, hsub⟩ := hT;have HGT := Bas.hid hgt;have HLE := Bas.hid hle;have HSUB := Bas.hid hsub;clear hgt hm hle hsub hL;obtain ⟨o1, ho1⟩ : ∃ o1, glAt xs i = o1 := ⟨_, rfl⟩;have HO1 := Bas.hid ho1;rw [ho1] at HAT;clear ho1;obtain ⟨y0, y1, bk, hat⟩ : ∃ y0 y1 bk, atV o1 = .tuple #[.agg #[.int .i64 y0, .int .i64 y1], .bool bk] := by
  cases o1 with
  | none => exact ⟨0, 0, false, rfl⟩
  | some x => exact ⟨x.1, x.2, true, rfl⟩
 rw [hat] at HAT;have HATV := Bas.hid hat;clear hat;have HSAME := Bas.hid (fun (w' : World) (hb : Below u.heap.size u w') (h : ctxSwap T.subs xs i which = xs) => (show LnTo u base g sv (ctxSwap T.subs xs i which) w' by
  rw [h]; exact LnTo.behind hb (LnTo.refl (HL.out.below hb))))
 by_cases h1 : which = 65535
 ·have HS : Hid (ctxSwap T.subs xs i which = xs) := by unfold Hid ctxSwap; rw [if_pos h1]
  have e1 : (which == 65535) = true := by simpa using h1
  clear hw h1;go_enter Tryz.func86, Tryz.ntmps86
  go_wp2_with (fail);refine HAT.out.mono ?_;rintro e w1 ⟨rfl, hb1⟩;have HF := Bas.hid (HSAME.out _ (hb1.trans ((Below.refl w1.heap.size w1).alloc (Nat.le_refl _) (.cells #[.int .i64 y0, .int .i64 y1] 47) |>.mono hb1.size)) HS.out);clear hb1 HAT;go_wp2_with (fail);refine bodyPost_ret (results_none rfl _ _ _) rfl ?_;exact ⟨rfl, HF.out⟩
 ·have e1 : (which == 65535) = false := by simpa using h1
  have hwl : which < T.subs.length := hw.resolve_left h1;cases o1 with
  | none =>
   have HS : Hid (ctxSwap T.subs xs i which = xs) := by unfold Hid ctxSwap; rw [if_neg h1, HO1.out]
   have hv := HATV.out;simp only [atV] at hv;cases hv;clear hw h1;go_enter Tryz.func86, Tryz.ntmps86
   go_wp2_with (fail);refine HAT.out.mono ?_;rintro e w1 ⟨rfl, hb1⟩;have HF := Bas.hid (HSAME.out _ (hb1.trans ((Below.refl w1.heap.size w1).alloc (Nat.le_refl _) (.cells #[.int .i64 0, .int .i64 0] 47) |>.mono hb1.size)) HS.out);clear hb1 HAT;go_wp2_with (fail);refine bodyPost_ret (results_none rfl _ _ _) rfl ?_;exact ⟨rfl, HF.out⟩
  | some x =>
   obtain ⟨x0, x1⟩ := x;have hv := HATV.out;simp only [atV] at hv;cases hv;obtain ⟨k, rfl⟩ := Int.eq_ofNat_of_zero_le hw0;obtain ⟨ps, hps⟩ : ∃ ps, T.subs[k]? = some ps := ⟨_, List.getElem?_eq_getElem (by omega)⟩
   obtain ⟨uk, huk⟩ : ∃ uk, us[k]? = some uk := ⟨_, List.getElem?_eq_getElem (by omega)⟩
   have hlk := HSUB.out k ps uk hps huk;obtain ⟨lkg, hlkg⟩ : ∃ lkg, uk = .pointer (some ⟨lkg, 0, none⟩) := by
    obtain ⟨q, _, _, _, h, _⟩ := hlk;exact ⟨q, h⟩
   subst hlkg;obtain ⟨hp1, hp2⟩ := hok.subs ps (List.mem_of_getElem? hps);have hp3 := parts_few hp1 hp2;obtain ⟨B, O, cap, hvs, hcell⟩ := leads_at HLE.out huk;subst hvs;have HCS : Hid (ctxSwap T.subs xs i (k : Int) = match getL ps y0 with | some n => setId xs i n | none => xs) := by
    unfold Hid ctxSwap;rw [if_neg h1, HO1.out];simp only [Int.toNat_natCast, List.getD_eq_getElem?_getD, hps, Option.getD_some] <;> cases getL ps y0 <;> rfl
   have HLK := Bas.hid hlk;have HCELL := Bas.hid hcell;have HP1 := Bas.hid hp1;have HP2 := Bas.hid hp2;have hkl : k < T.subs.length := by omega
   generalize T.subs.length = m at *;have e2 : decide ((k : Int) < (m : Int)) = true := by simp; omega
   have e3 : decide (k < m) = true := by simp; omega
   clear hw h1 hps huk hlk hp1 hp2 hcell hwl hul;go_enter Tryz.func86, Tryz.ntmps86
   go_wp2_with (fail);refine HAT.out.mono ?_;rintro e w1 ⟨rfl, hb1⟩;have kT := Bas.heap_new w1 (.cells #[.int .i64 y0, .int .i64 y1] 47);have hb2 := hb1.trans ((Below.refl w1.heap.size w1).alloc (Nat.le_refl _) (.cells #[.int .i64 y0, .int .i64 y1] 47) |>.mono hb1.size);have d0 := cell_of_heap (i := 0) kT rfl;have kt := (hb2.block _ (heap_lt HGT.out)).trans HGT.out;have ct := cell_of_heap (i := 1) kt rfl;have cl := (hb2.cell (p := ⟨B, O + k, none⟩) (World.block_lt_of_cell? _ _ HCELL.out)).trans HCELL.out;have HKT := Bas.hid kT;have HKt := Bas.hid kt;have HCL := Bas.hid cl;have HB2 := Bas.hid hb2;clear hb1 hb2 kT kt HAT;go_wp2_with (fail);generalize (w1.alloc (.cells #[.int .i64 y0, .int .i64 y1] 47)) = W2 at *;obtain ⟨RI, RF, Ri, RF0, RFk, RFw⟩ := Pl.fam_of W2 (fun u => u.cell? ⟨gt, 1, none⟩ = some (.slice (some ⟨B, O, none⟩) m cap) ∧ u.cell? ⟨B, O + k, none⟩ = some (.pointer (some ⟨lkg, 0, none⟩)) ∧ u.cell? ⟨w1.heap.size, 0, none⟩ = some (.int .i64 y0)) ⟨ct, cl, d0⟩
   have RFH := Bas.hid RF0;have RhI : Nonempty RI := ⟨Ri⟩;have RFW := Bas.hid RFw;have z0 := fun i => (RFk i).1
   have z1 := fun i => (RFk i).2.1
   have z2 := fun i => (RFk i).2.2
   clear RF0 RFw RFk ct cl d0;refine Pl.region_plan0 Ri [(true, 0), (true, 1), (true, 2), (true, 3), (true, 4), (true, 5), (true, 6), (true, 7), (true, 8), (false, 9), (true, 10), (true, 11), (true, 12), (true, 13), (true, 14)] [] (by kernel_rfl) (by kernel_rfl) (fun _ _ _ _ e h => ⟨e ▸ h.1, h.2⟩) RFH.out ?_
   refine Pl.head_sel0 [(true, 0), (true, 1), (true, 2), (true, 3), (true, 4), (true, 5), (true, 6), (true, 7), (true, 8)] (by kernel_rfl) (by kernel_rfl) ?_
   simp only [Pl.sel, List.drop_succ_cons, List.drop_zero];repeat (go_big_quiet_step (fail))
   refine wpQuiet_nil ?_;rw [← RFH.out];clear z0 z1 z2;refine Pl.one_sel (by kernel_rfl) ?_
   intro Q' hQ' hP';simp only [Pl.sel, List.drop_succ_cons, List.drop_zero];go_wp2_with (fail);have hbd := Bas.below_drewN (Below.refl W2.heap.size W2) 1;refine (get_any _ ps y0 W2.drew (HLK.out.below (HB2.out.trans (hbd.mono HB2.out.size))) HP1.out HP2.out hp3).mono ?_;rintro e w4 ⟨rfl, hb4⟩;have hb4' : Below W2.heap.size W2 w4 := hbd.trans hb4;have HB4 := Bas.hid (HB2.out.trans (hb4'.mono HB2.out.size));have q0 : w4.cell? ⟨gt, 1, none⟩ = some (.slice (some ⟨B, O, none⟩) m cap) := cell_of_heap (i := 1) ((hb4'.block _ (heap_lt HKt.out)).trans HKt.out) rfl;have q1 : w4.cell? ⟨w1.heap.size, 0, none⟩ = some (.int .i64 y0) := cell_of_heap (i := 0) ((hb4'.block _ (heap_lt HKT.out)).trans HKT.out) rfl;have q2 : w4.cell? ⟨B, O + k, none⟩ = some (.pointer (some ⟨lkg, 0, none⟩)) := (hb4'.cell (p := ⟨B, O + k, none⟩) (World.block_lt_of_cell? _ _ HCL.out)).trans HCL.out;clear hb4 hb4' hbd;go_wp2_with (fail);refine hQ' _ _ (fun _ _ => RFW.out _ ⟨q0, q2, q1⟩) ?_
   clear q0 q1 q2 hQ' hP' Q' RFW RFH;refine Pl.head_sel0 (rest := []) [(true, 10), (true, 11), (true, 12), (true, 13), (true, 14)] (by kernel_rfl) (by kernel_rfl) ?_
   simp only [Pl.sel, List.drop_succ_cons, List.drop_zero];repeat (go_big_quiet_step (fail))
   refine wpQuiet_nil ?_;simp only [Pl.walkM];obtain ⟨o, ho⟩ : ∃ o, getL ps y0 = o := ⟨_, rfl⟩;rw [ho] at HCS ⊢;clear ho RhI Ri;cases o with
   | none =>
    have HF := Bas.hid (HSAME.out _ HB4.out HCS.out);simp only [Option.getD_none, Option.isSome_none];go_wp2_with (fail)
    go_end0
    exact ⟨rfl, HF.out⟩
   | some y =>
    have HSET := Bas.hid (set_any base g sv xs i y w4 (HL.out.below HB4.out));simp only [Option.getD_some, Option.isSome_some];go_wp2_with (fail);refine HSET.out.mono ?_;rintro e w6 ⟨rfl, hto⟩;have HF : Hid (LnTo u base g sv (ctxSwap T.subs xs i (k : Int)) w6) := by unfold Hid; rw [HCS.out]; exact LnTo.behind HB4.out hto
    clear hto HSET;go_wp2_with (fail)
    go_end0
    exact ⟨rfl, HF.out⟩
def ctxBox (bt bx K B gt g : Nat) (s : Int) (u : World) : Prop :=
 u.heap[bt]? = some (.cells #[.pointer (some ⟨gt, 0, none⟩)] 128 (0, 0)) ∧ u.heap[bx]? = some (.cells #[.pointer (some ⟨g, 0, none⟩)] 32 (0, 0)) ∧ u.heap[K]? = some (.cells #[.int .i64 s] 3 (0, 0)) ∧
 u.heap[B]? = some (.cells #[.func (.func 85) #[] #[.pointer (some ⟨bt, 0, none⟩), .pointer (some ⟨bx, 0, none⟩), .pointer (some ⟨K, 0, none⟩)]] 166 (0, 0))
def ctxBx (bt bx K B : Nat) (k : Nat) : Prop := k = bt ∨ k = bx ∨ k = K ∨ k = B
theorem ctx_boxes (bt bx K B gt g : Nat) : Boxes (ctxBox bt bx K B gt g) (ctxBx bt bx K B) := by
 refine ⟨fun s u h k hk => ?_, fun s u u' T h hm hT => ?_⟩
 ·obtain ⟨h1, h2, h3, h4⟩ := h;rcases hk with rfl | rfl | rfl | rfl
  ·exact heap_lt h1
  ·exact heap_lt h2
  ·exact heap_lt h3
  ·exact heap_lt h4
 ·obtain ⟨h1, h2, h3, h4⟩ := h;exact ⟨hm.heap h1 (fun h => hT _ h (.inl rfl)), hm.heap h2 (fun h => hT _ h (.inr (.inl rfl))), hm.heap h3 (fun h => hT _ h (.inr (.inr (.inl rfl)))), hm.heap h4 (fun h => hT _ h (.inr (.inr (.inr rfl))))⟩
def CtxInv (_ : Int) (xs : List Gl) : Prop := xs.length ≤ 1000000
set_option maxRecDepth 100000 in
set_option maxHeartbeats 8000000 in
theorem ctx1_any (base g bt bx K B gt : Nat) (sv : Value) (s : Int) (xs : List Gl) (T : CtxD) (W0 u : World) (pl : Int) (e : EntD) (hT : CtxAt W0 (.pointer (some ⟨gt, 0, none⟩)) T) (hok : CtxOk T) (hb0 : Below W0.heap.size W0 u) (hbase : W0.heap.size ≤ base) (h : LineAt u base g sv xs) (hX : ctxBox bt bx K B gt g s u) (hI : CtxInv s xs)
  (hne : bt ≠ K ∧ bx ≠ K ∧ K ≠ B) (hown : ∀ k, sv.ownBlock = some k → ¬ ctxBx bt bx K B k) (_hpl : 0 ≤ pl) (he : e ∈ T.m.ents) :
  Calls Tryz.prog 85 (#[.int .i64 pl, .agg #[.int .i64 e.next, .int .i64 e.flags, .int .i64 e.a, .int .i64 e.b]] ++ #[.pointer (some ⟨bt, 0, none⟩), .pointer (some ⟨bx, 0, none⟩), .pointer (some ⟨K, 0, none⟩)]) u
   (ActP (ctxF T) base g (ctxBox bt bx K B gt g) (ctxBx bt bx K B) CtxInv s xs sv u pl e) := by
 obtain ⟨hn1, hn2⟩ := hok.need e he;obtain ⟨_, ⟨hf0, hf1⟩, ⟨ha0, _⟩, ⟨hb0', _⟩⟩ := hok.m.ents e he;obtain ⟨e0, fl, e2, e3⟩ := e;obtain ⟨kb0, kx0, kK0, kB0⟩ := hX;simp only at hf0 hf1 ha0 hb0' hn1 hn2;have HB1 := Bas.hid ((Below.refl u.heap.size u).alloc (Nat.le_refl _) (.cells #[.int .i64 e0, .int .i64 fl, .int .i64 e2, .int .i64 e3] 162));have kE := Bas.heap_new u (.cells #[.int .i64 e0, .int .i64 fl, .int .i64 e2, .int .i64 e3] 162);have hL1 := h.below HB1.out;have kb := (HB1.out.block _ (heap_lt kb0)).trans kb0;have kx := (HB1.out.block _ (heap_lt kx0)).trans kx0;have kK := (HB1.out.block _ (heap_lt kK0)).trans kK0;have kB := (HB1.out.block _ (heap_lt kB0)).trans kB0;have hxl := heap_lt kb0;have hxl2 := heap_lt kx0;have hxl3 := heap_lt kK0;have hxl4 := heap_lt kB0;have HXL := Bas.hid (show bt < u.heap.size ∧ bx < u.heap.size ∧ K < u.heap.size ∧ B < u.heap.size from ⟨hxl, hxl2, hxl3, hxl4⟩)
 have HG : Hid (g ≠ bt ∧ g ≠ bx ∧ g ≠ K ∧ g ≠ B) := by
  have hh := h.head;refine ⟨fun e => ?_, fun e => ?_, fun e => ?_, fun e => ?_⟩ <;> subst e
  ·rw [kb0] at hh; cases hh
  ·rw [kx0] at hh; cases hh
  ·rw [kK0] at hh; cases hh
  ·rw [kB0] at hh; cases hh
 have HOWN := Bas.hid hown;have HL := Bas.hid h;have HTB := Bas.hid (fun (w' : World) (hm : Mod (fun k => blk g sv k ∨ ctxBx bt bx K B k) u w') => hT)
 have HBW := Bas.hid hb0;have HBS := Bas.hid hbase;have HT := Bas.hid hT;have HI := Bas.hid hI;have HLOW := Bas.hid (show ∀ k, blk g sv k → W0.heap.size ≤ k from fun k hk => Nat.le_trans hbase (h.blk_low k hk).1)
 have n1 := hne.1;have n2 := hne.2.1;have n3 := hne.2.2;have hgE : u.heap.size ≠ K := by omega
 clear h kb0 kx0 kK0 kB0 hL1 hT hb0 hbase hown hI hxl hxl2 hxl3 hxl4 hne;obtain ⟨xs1, hx1⟩ : ∃ xs1, ctxSwap T.subs xs s e2 = xs1 := ⟨_, rfl⟩;have HX1 := Bas.hid hx1;obtain ⟨xs2, hx2⟩ : ∃ xs2, ctxSwap T.subs xs1 pl e3 = xs2 := ⟨_, rfl⟩;have HX2 := Bas.hid hx2;have HLEN : Hid (xs2.length = xs.length) := by unfold Hid; rw [← hx2, ctxSwap_len, ← hx1, ctxSwap_len]
 have HS1 := Bas.hid (ctxSwap_any base g sv (.pointer (some ⟨gt, 0, none⟩)) xs T s e2 (u.alloc (.cells #[.int .i64 e0, .int .i64 fl, .int .i64 e2, .int .i64 e3] 162)) (HT.out.below (HBW.out.trans (HB1.out.mono HBW.out.size))) hok (HL.out.below HB1.out) ha0 hn1);rw [hx1] at HS1;have q1 := flag_at fl 15 32768 rfl (by omega) hf0 hf1
 have HN2 := Bas.hid (And.intro hb0' hn2);have cb := cell_of_heap (i := 0) kb rfl;have cx := cell_of_heap (i := 0) kx rfl;have cK := cell_of_heap (i := 0) kK rfl;have c2 := cell_of_heap (i := 2) kE rfl;have lb := heap_lt kb;have lx := heap_lt kx;have lK := heap_lt kK;have lE := heap_lt kE;clear hx1 hx2 hn1 hn2 ha0 hb0';go_enter Tryz.func85, Tryz.ntmps85
 go_wp2_with (fail);generalize hW : (u.alloc (.cells #[.int .i64 e0, .int .i64 fl, .int .i64 e2, .int .i64 e3] 162)) = W1 at *;have HSZ : Hid (W1.heap.size = u.heap.size + 1) := by unfold Hid; rw [← hW]; exact World.size_alloc _ _
 clear hW;refine HS1.out.mono ?_;rintro e w2 ⟨rfl, sv2, hL2, hm2, ho2⟩;have hnb : ∀ k, ctxBx bt bx K B k → ¬ blk g sv k := fun k hk hb => by
  rcases hb with rfl | hb
  ·have hg := HG.out;rcases hk with h | h | h | h
   ·exact hg.1 h
   ·exact hg.2.1 h
   ·exact hg.2.2.1 h
   ·exact hg.2.2.2 h
  ·exact HOWN.out k hb hk
 have kb2 := hm2.heap kb (hnb _ (.inl rfl));have kx2 := hm2.heap kx (hnb _ (.inr (.inl rfl)));have kK2 := hm2.heap kK (hnb _ (.inr (.inr (.inl rfl))));have kB2 := hm2.heap kB (hnb _ (.inr (.inr (.inr rfl))));have kE2 := hm2.heap kE (fun hk => by have := (HL.out.blk_low _ hk).2; omega)
 have hbw2 : Below W0.heap.size W0 w2 := hm2.below (HBW.out.trans (HB1.out.mono HBW.out.size)) (fun k hk => HLOW.out k hk) (HBW.out.trans (HB1.out.mono HBW.out.size)).size
 have HS2 := Bas.hid (ctxSwap_any base g sv2 (.pointer (some ⟨gt, 0, none⟩)) xs1 T pl e3 w2 (HT.out.below hbw2) hok hL2 HN2.out.1 HN2.out.2);rw [HX2.out] at HS2;have HO2 : Hid (∀ k, sv2.ownBlock = some k → sv.ownBlock = some k ∨ u.heap.size < k) := fun k hk => (ho2 k hk).imp id (fun h => by have := HSZ.out; omega)
 have HM2 : Hid (Mod (fun k => blk g sv k ∨ ctxBx bt bx K B k) u w2) := (Mod.of_below HB1.out).trans hm2 (fun k hk _ => .inl hk)
 have HL2 := Bas.hid hL2;clear cb cx cK c2 lb lx lK lE kb kx kK kB kE HS1 hL2 hm2 ho2 hnb hbw2;have cb := cell_of_heap (i := 0) kb2 rfl;have cx := cell_of_heap (i := 0) kx2 rfl;have cK := cell_of_heap (i := 0) kK2 rfl;have c2 := cell_of_heap (i := 3) kE2 rfl;have lb := heap_lt kb2;have lx := heap_lt kx2;have lK := heap_lt kK2;have lE := heap_lt kE2;go_wp2_with (fail);refine HS2.out.mono ?_;rintro e w3 ⟨rfl, sv3, hL3, hm3, ho3⟩;have hnb : ∀ k, k < u.heap.size → ctxBx bt bx K B k → ¬ blk g sv2 k := fun k hlt hk hb => by
  rcases hb with rfl | hb
  ·have hg := HG.out;rcases hk with h | h | h | h
   ·exact hg.1 h
   ·exact hg.2.1 h
   ·exact hg.2.2.1 h
   ·exact hg.2.2.2 h
  ·rcases HO2.out k hb with h | h
   ·exact HOWN.out k h hk
   ·omega
 have kb3 := hm3.heap kb2 (hnb _ HXL.out.1 (.inl rfl));have kx3 := hm3.heap kx2 (hnb _ HXL.out.2.1 (.inr (.inl rfl)));have kK3 := hm3.heap kK2 (hnb _ HXL.out.2.2.1 (.inr (.inr (.inl rfl))));have kB3 := hm3.heap kB2 (hnb _ HXL.out.2.2.2 (.inr (.inr (.inr rfl))));have kE3 := hm3.heap kE2 (fun hk => by
  rcases hk with rfl | hk
  ·have := HL.out.lt; omega
  ·rcases HO2.out _ hk with h | h
   ·have := (Row.own_block HL.out.own h).2; omega
   ·omega)
 have HM3 : Hid (Mod (fun k => blk g sv k ∨ ctxBx bt bx K B k) u w3) := HM2.out.trans hm3 (fun k hk hlt => by
  rcases hk with rfl | hk
  ·exact .inl (.inl rfl)
  ·rcases HO2.out k hk with h | h
   ·exact .inl (.inr h)
   ·omega)
 have HO3 : Hid (∀ k, sv3.ownBlock = some k → sv.ownBlock = some k ∨ u.heap.size ≤ k) := fun k hk => (ho3 k hk).elim (fun h => (HO2.out k h).imp id Nat.le_of_lt) (fun h => .inr (Nat.le_trans HM2.out.size h))
 have HL3 := Bas.hid hL3;have HDIS : Hid (∀ k, blk g sv3 k → k ≠ K) := fun k hk e => by
  subst e;rcases hk with h | h
  ·exact HG.out.2.2.1 h.symm
  ·rcases HO3.out k h with h | h
   ·exact HOWN.out k h (.inr (.inr (.inl rfl)))
   ·have := HXL.out.2.2.1; omega
 have HLEN3 := Bas.hid (len_any base g sv3 xs2 w3 hL3);clear cb cx cK c2 lb lx lK lE kb2 kx2 kK2 kB2 kE2 HS2 hL3 hm3 ho3 hnb;have cb := cell_of_heap (i := 0) kb3 rfl;have cx := cell_of_heap (i := 0) kx3 rfl;have fK := free_of_heap (i := 0) kK3;have cK := cell_of_heap (i := 0) kK3 rfl;have c2 := cell_of_heap (i := 1) kE3 rfl;have lx := heap_lt kx3;have lK := heap_lt kK3;have lE := heap_lt kE3;have HRF := Bas.hid (show ctxF T s xs pl ⟨e0, fl, e2, e3⟩ = (if fl / 32768 % 2 = 1 ∧ pl < xs.length then pl else s, xs2) by
  unfold ctxF; simp only; rw [HX1.out, HX2.out])
 have HDONE : Hid (∀ (v : Int) (w' : World), w' = w3.setCell ⟨K, 0, none⟩ (.int .i64 v) ∨ (w' = w3 ∧ v = s) → v = (if fl / 32768 % 2 = 1 ∧ pl < xs.length then pl else s) → ActP (ctxF T) base g (ctxBox bt bx K B gt g) (ctxBx bt bx K B) CtxInv s xs sv u pl ⟨e0, fl, e2, e3⟩ (.returned (.tuple #[])) w') := by
  intro v w' hw' hv;unfold ActP;rw [HRF.out, ← hv];have hin : CtxInv v xs2 := by unfold CtxInv; rw [HLEN.out]; exact HI.out
  rcases hw' with rfl | ⟨rfl, rfl⟩
  ·refine ⟨rfl, sv3, HL3.out.mod ((Mod.refl (fun k => k = K) w3).set (.int .i64 v) (.inl rfl)) HDIS.out, ?_, hin, HM3.out.set (.int .i64 v) (.inl (.inr (.inr (.inr (.inl rfl))))), HO3.out⟩
   exact ⟨(Below.heap_setCell _ _ _ _ (by exact n1)).trans kb3, (Below.heap_setCell _ _ _ _ (by exact n2)).trans kx3, heap_set (i := 0) kK3 _, (Below.heap_setCell _ _ _ _ (by exact fun e => n3 e.symm)).trans kB3⟩
  ·exact ⟨rfl, sv3, HL3.out, ⟨kb3, kx3, kK3, kB3⟩, hin, HM3.out, HO3.out⟩
 obtain ⟨n, hn⟩ : ∃ n, xs.length = n := ⟨_, rfl⟩;rw [HLEN.out, hn] at HLEN3;rw [hn] at HDONE;clear kb3 kx3 kK3 kB3 kE3 hn;by_cases z1 : fl / 32768 % 2 = 1
 ·rw [if_pos z1] at q1;by_cases z2 : pl < (n : Int)
  ·have e9 : decide (pl < (n : Int)) = true := by simpa using z2
   have HF := Bas.hid (HDONE.out pl (w3.setCell ⟨K, 0, none⟩ (.int .i64 pl)) (.inl rfl) (by rw [if_pos ⟨z1, z2⟩]))
   clear z1 HDONE;go_wp2_with (fail);refine HLEN3.out.mono ?_;rintro e w4 ⟨rfl, rfl⟩;go_wp2_with (fail)
   go_end0
   exact HF.out
  ·have e9 : decide (pl < (n : Int)) = false := by simpa using z2
   have HF := Bas.hid (HDONE.out s w3 (.inr ⟨rfl, rfl⟩) (by rw [if_neg (fun h => z2 h.2)]))
   clear z1 HDONE;go_wp2_with (fail);refine HLEN3.out.mono ?_;rintro e w4 ⟨rfl, rfl⟩;go_wp2_with (fail)
   go_end0
   exact HF.out
 ·rw [if_neg z1] at q1;have HF := Bas.hid (HDONE.out s w3 (.inr ⟨rfl, rfl⟩) (by rw [if_neg (fun h => z1 h.1)]))
  clear z1 HDONE;go_wp2_with (fail)
  go_end0
  exact HF.out
set_option maxRecDepth 100000 in
set_option maxHeartbeats 8000000 in
theorem ctxRun_any (base g : Nat) (sv v : Value) (xs : List Gl) (T : CtxD) (W0 w : World) (hT : CtxAt W0 v T) (hok : CtxOk T) (hb0 : Below W0.heap.size W0 w) (hbase : W0.heap.size ≤ base) (hL : LineAt w base g sv xs) (hlen : xs.length ≤ 1000000) :
  Calls Tryz.prog 58 #[v, .pointer (some ⟨g, 0, none⟩)] w fun e w' => e = .returned (.int .i64 (ctxRun T xs).2) ∧ LnTo w base g sv (ctxRun T xs).1 w' := by
 have hmf : ∀ (fn : Fn) (first cap : Array Value) (w : World), (Instr.makeFunc fn first cap).run Tryz.prog w = .ok (.func fn first cap) w := fun _ _ _ _ => rfl
 have HT := Bas.hid hT;obtain ⟨gt, gm, vs, us, rfl, hgt, hm, _, _, _⟩ := hT;have kt := (hb0.block _ (heap_lt hgt)).trans hgt;have HGT0 := Bas.hid (heap_lt hgt);have HCT0 := Bas.hid (cell_of_heap (i := 0) kt rfl);have HL := Bas.hid hL;have HM := Bas.hid hm;have HB0 := Bas.hid hb0;have HBA := Bas.hid hbase;have hb3 := ((((Below.refl w.heap.size w).alloc (Nat.le_refl _) (.cells #[.pointer (some ⟨gt, 0, none⟩)] 128)).alloc (by simp) (.cells #[.pointer (some ⟨g, 0, none⟩)] 32)).alloc (by simp; omega) (.cells #[.int .i64 (-1)] 3))
 have z1 := World.size_alloc w (.cells #[.pointer (some ⟨gt, 0, none⟩)] 128);have z2 := World.size_alloc (w.alloc (.cells #[.pointer (some ⟨gt, 0, none⟩)] 128)) (.cells #[.pointer (some ⟨g, 0, none⟩)] 32);have kb := (Below.heap_alloc ((w.alloc (.cells #[.pointer (some ⟨gt, 0, none⟩)] 128)).alloc (.cells #[.pointer (some ⟨g, 0, none⟩)] 32)) (.cells #[.int .i64 (-1)] 3) w.heap.size (by omega)).trans ((Below.heap_alloc (w.alloc (.cells #[.pointer (some ⟨gt, 0, none⟩)] 128)) (.cells #[.pointer (some ⟨g, 0, none⟩)] 32) w.heap.size (by omega)).trans (Bas.heap_new w (.cells #[.pointer (some ⟨gt, 0, none⟩)] 128)))
 have kF := (Below.heap_alloc ((w.alloc (.cells #[.pointer (some ⟨gt, 0, none⟩)] 128)).alloc (.cells #[.pointer (some ⟨g, 0, none⟩)] 32)) (.cells #[.int .i64 (-1)] 3) (w.heap.size + 1) (by omega)).trans (Bas.heap_new2 w (.cells #[.pointer (some ⟨gt, 0, none⟩)] 128) (.cells #[.pointer (some ⟨g, 0, none⟩)] 32))
 have kL := Bas.heap_new ((w.alloc (.cells #[.pointer (some ⟨gt, 0, none⟩)] 128)).alloc (.cells #[.pointer (some ⟨g, 0, none⟩)] 32)) (.cells #[.int .i64 (-1)] 3);rw [z2, z1] at kL;have kt1 := (hb3.block _ (heap_lt kt)).trans kt;clear hL hm hb0 hbase;go_enter Tryz.func58, Tryz.ntmps58
 go_wp2_with (fail);generalize (((w.alloc (.cells #[.pointer (some ⟨gt, 0, none⟩)] 128)).alloc (.cells #[.pointer (some ⟨g, 0, none⟩)] 32)).alloc (.cells #[.int .i64 (-1)] 3)) = W3 at *;clear z1 z2;have HB3 := Bas.hid hb3;have cb := cell_of_heap (i := 0) kb rfl;have lb := heap_lt kb;have cx := cell_of_heap (i := 0) kF rfl;have lx := heap_lt kF;have ct := cell_of_heap (i := 0) kt1 rfl;have lt := heap_lt kt1;have HKB := Bas.hid kb;have HKF := Bas.hid kF;have HKL := Bas.hid kL;clear hb3 kb kF kL kt kt1 hgt;have hLT : LineAt W3 base g sv xs := HL.out.below HB3.out;obtain ⟨RI, RF, Ri, RF0, RFk, RFw⟩ := Pl.fam_of W3 (fun u => u.cell? ⟨gt, 0, none⟩ = some (.pointer (some ⟨gm, 0, none⟩)) ∧ u.cell? ⟨w.heap.size, 0, none⟩ = some (.pointer (some ⟨gt, 0, none⟩)) ∧ u.cell? ⟨w.heap.size + 1, 0, none⟩ = some (.pointer (some ⟨g, 0, none⟩))) ⟨ct, cb, cx⟩
 have RFH := Bas.hid RF0;have RhI : Nonempty RI := ⟨Ri⟩;have RFW := Bas.hid RFw;have z0 := fun i => (RFk i).1
 have z1 := fun i => (RFk i).2.1
 have z2 := fun i => (RFk i).2.2
 have HCT := Bas.hid ct;have HCB := Bas.hid cb;have HCX := Bas.hid cx;clear RF0 RFw RFk ct cb cx lb lt lx;refine Pl.region_plan0 Ri [(true, 0), (true, 1), (true, 2), (true, 3), (true, 4), (true, 5), (false, 6), (false, 7), (true, 8), (true, 9), (true, 10), (true, 11), (true, 12)] [] (by kernel_rfl) (by kernel_rfl) (fun _ _ _ _ e h => ⟨e ▸ h.1, h.2⟩) RFH.out ?_
 refine Pl.head_sel0 [(true, 0), (true, 1), (true, 2), (true, 3), (true, 4), (true, 5)] (by kernel_rfl) (by kernel_rfl) ?_
 simp only [Pl.sel, List.drop_succ_cons, List.drop_zero];repeat (go_big_quiet_step (fail))
 refine wpQuiet_nil ?_;rw [← RFH.out];clear z0 z1 z2;refine Pl.one_sel (by kernel_rfl) ?_
 intro Q' hQ' hP';simp only [Pl.sel, List.drop_succ_cons, List.drop_zero];go_wp2_with (fail);refine (plain_any 85 _ W3.drew).mono ?_;rintro e w4 ⟨rfl, hb4, kB⟩;have hb4' : Below W3.heap.size W3 w4 := (Bas.below_drewN (Below.refl W3.heap.size W3) 1).trans hb4;have HB4 := Bas.hid hb4';have HKB4 := Bas.hid kB;have hct4 : w4.cell? ⟨gt, 0, none⟩ = some (.pointer (some ⟨gm, 0, none⟩)) := (hb4'.cell (p := ⟨gt, 0, none⟩) (World.block_lt_of_cell? _ _ HCT.out)).trans HCT.out;have hcb4 : w4.cell? ⟨w.heap.size, 0, none⟩ = some (.pointer (some ⟨gt, 0, none⟩)) := (hb4'.cell (p := ⟨w.heap.size, 0, none⟩) (World.block_lt_of_cell? _ _ HCB.out)).trans HCB.out;have hcx4 : w4.cell? ⟨w.heap.size + 1, 0, none⟩ = some (.pointer (some ⟨g, 0, none⟩)) := (hb4'.cell (p := ⟨w.heap.size + 1, 0, none⟩) (World.block_lt_of_cell? _ _ HCX.out)).trans HCX.out;have HX4 : Hid (ctxBox w.heap.size (w.heap.size + 1) (w.heap.size + 1 + 1) W3.heap.size gt g (-1) w4) := ⟨(hb4'.block _ (heap_lt HKB.out)).trans HKB.out, (hb4'.block _ (heap_lt HKF.out)).trans HKF.out, (hb4'.block _ (heap_lt HKL.out)).trans HKL.out, kB⟩;clear hb4 hb4' kB;go_wp2_with (fail);refine hQ' _ _ (fun _ _ => RFW.out _ ⟨hct4, hcb4, hcx4⟩) ?_
 clear hct4 hcb4 hcx4 hQ' hP' Q';refine Pl.one_sel (by kernel_rfl) ?_
 intro Q' hQ' hP';simp only [Pl.sel, List.drop_succ_cons, List.drop_zero];go_wp2_with (fail);have hz3 := HB3.out.size;have hlF := heap_lt HKL.out;have HWAY := Bas.hid (plain_way T.m (ctxF T) W0 w w4 base gm g sv xs 85 W3.heap.size #[.pointer (some ⟨w.heap.size, 0, none⟩), .pointer (some ⟨w.heap.size + 1, 0, none⟩), .pointer (some ⟨w.heap.size + 1 + 1, 0, none⟩)]
  (ctxBox w.heap.size (w.heap.size + 1) (w.heap.size + 1 + 1) W3.heap.size gt g) (ctxBx w.heap.size (w.heap.size + 1) (w.heap.size + 1 + 1) W3.heap.size) CtxInv (-1) hok.m HM.out HB0.out HBA.out HL.out (by omega) (ctx_boxes _ _ _ _ _ _)
  (fun k hk => by rcases hk with h | h | h | h <;> omega) (fun s u h => h.2.2.2) (fun args w => by simp [go_sem]) (HB3.out.trans (HB4.out.mono hz3)) HX4.out hlen
  (fun s xs sv' u pl e hL hb hx hi hp hp2 he hown => ctx1_any base g _ _ _ _ gt sv' s xs T W0 u pl e HT.out hok hb HBA.out hL hx hi ⟨by omega, by omega, by omega⟩ hown hp he))
 clear hz3 hlF;refine HWAY.out.mono ?_;rintro e w5 ⟨rfl, hto, s', hx⟩;have HTO := Bas.hid hto;have HX5 := Bas.hid hx;have hct5 : w5.cell? ⟨gt, 0, none⟩ = some (.pointer (some ⟨gm, 0, none⟩)) := by
  obtain ⟨sv', _, hm', _⟩ := hto;have hlt : gt < W0.heap.size := HGT0.out;have hcw := HCT0.out;refine hm'.cell hcw (fun hk => ?_)
  have h1 := (HL.out.blk_low _ hk).1;have h2 := HBA.out;omega
 have hcb5 : w5.cell? ⟨w.heap.size, 0, none⟩ = some (.pointer (some ⟨gt, 0, none⟩)) := cell_of_heap hx.1 rfl;have hcx5 : w5.cell? ⟨w.heap.size + 1, 0, none⟩ = some (.pointer (some ⟨g, 0, none⟩)) := cell_of_heap hx.2.1 rfl;clear hto hx HWAY;go_wp2_with (fail);refine hQ' _ _ (fun _ _ => RFW.out _ ⟨hct5, hcb5, hcx5⟩) ?_
 clear hct5 hcb5 hcx5 hQ' hP' Q';refine Pl.head_sel0 (rest := []) [(true, 8), (true, 9), (true, 10), (true, 11), (true, 12)] (by kernel_rfl) (by kernel_rfl) ?_
 simp only [Pl.sel, List.drop_succ_cons, List.drop_zero];repeat (go_big_quiet_step (fail))
 refine wpQuiet_nil ?_;simp only [Pl.walkM];go_wp2_with (fail);go_ret;exact ⟨rfl, HTO.out⟩
end Cx
namespace Ch
open Vw
theorem infoR : (Tryz.prog.info? 147).map (fun i => (i.zero, i.size, i.bytes)) = some (some (.agg #[.int .i64 0, .int .i64 0, .int .u32 0, .int .u32 0]), 4, 24) := by kernel_rfl
theorem infoSub : (Tryz.prog.info? 104).map (fun i => (i.zero, i.size, i.bytes)) = some (some (.agg #[.int .u32 0, .int .u32 0, .slice none 0 0]), 3, 32) := by kernel_rfl
set_option maxRecDepth 100000 in
set_option maxHeartbeats 8000000 in
theorem one_main (a : Option Addr) (len cap : Nat) (bs : List Int) (rules nsubs : Nat) (w : World) (hl : len ≤ cap) (hc : cap ≤ maxLen) (hv : VB w a bs) (hbl : bs.length = len) (hsmall : len ≤ 1000000000)
  (h16 : 16 ≤ len) (hr : be bs 8 4 = rules) (hn : be bs 12 4 = nsubs) (hrow : 16 + 12 * rules ≤ len) :
  Calls Tryz.prog 52 #[.agg #[.slice a len cap]] w (OnePost w a bs) := by
 have hb0 := be4_bd bs hv.byte 0 (by omega)
 have hrB : rowsB len 16 rules 12 := ⟨by omega, by omega, .inr (by omega), by omega, by omega⟩
 have hcm : len ≤ 9223372036854775807 := by omega
 have hn32 : nsubs ≤ 4294967295 := by have := be4_bd bs hv.byte 12 (by omega); omega
 have U1 := fun (w' : World) (hb : Below w.heap.size w w') => u32_ok a len cap bs 0 w' hl hc (hv.below hb) hbl (by omega) (by omega)
 have U2 := fun (w' : World) (hb : Below w.heap.size w w') => u32_ok a len cap bs 8 w' hl hc (hv.below hb) hbl (by omega) (by omega)
 have U3 := fun (w' : World) (hb : Below w.heap.size w w') => u32_ok a len cap bs 12 w' hl hc (hv.below hb) hbl (by omega) (by omega)
 simp only [show Int.toNat 0 = 0 from rfl, show Int.toNat 8 = 8 from rfl, show Int.toNat 12 = 12 from rfl] at U1 U2 U3
 rw [hr] at U2;rw [hn] at U3;have HPO : Hid (parseOne bs = (subsAt bs nsubs (16 + 12 * rules)).map fun l => ⟨be bs 0 4, rulesAt bs rules, l⟩) := by
  unfold Hid parseOne;rw [hr, hn];simp only [Int.toNat_natCast];rw [if_pos ⟨by omega, by omega⟩]
 have HU1 := Bas.hid U1;have HU2 := Bas.hid U2;have HU3 := Bas.hid U3;have HV := Bas.hid hv;generalize be bs 0 4 = first at *;obtain ⟨hf0, hf1⟩ := hb0;clear U1 U2 U3 hr hn hv;go_enter Tryz.func52, Tryz.ntmps52
 go_wp2_with (fail);refine (HU1.out _ (((Below.refl w.heap.size w).alloc (Nat.le_refl _) _).alloc (by simp) _)).mono ?_
 rintro e w1 ⟨rfl, hb1⟩;have hs1 := hb1.size;simp only [World.size_alloc] at hs1;have HB1 := Bas.hid (Bas.on (((Below.refl w.heap.size w).alloc (Nat.le_refl _) _).alloc (by simp) _) hb1)
 have k1 : w1.heap[w.heap.size]? = some (.cells #[.slice a len cap] 52 (0, 0)) := by
  rw [hb1.block _ (by simp; omega)]
  rw [Below.heap_alloc _ _ _ (by simp)]
  exact Bas.heap_new _ _
 have k2 : w1.heap[w.heap.size + 1]? = some (.cells #[.int .u32 0, .slice none 0 0, .slice none 0 0] 102 (0, 0)) := by
  rw [hb1.block _ (by simp)]
  exact Bas.heap_new2 _ _ _
 clear hb1;go_wp2_with (fail);have k1' := (Below.heap_alloc w1 (.cells #[.int .u32 first, .slice none 0 0, .slice none 0 0] 102) _ (heap_lt k1)).trans k1;have k2' := (Below.heap_alloc w1 (.cells #[.int .u32 first, .slice none 0 0, .slice none 0 0] 102) _ (heap_lt k2)).trans k2;have k3 := Bas.heap_new w1 (.cells #[.int .u32 first, .slice none 0 0, .slice none 0 0] 102);have HB2 := Bas.hid (HB1.out.alloc HB1.out.size (.cells #[.int .u32 first, .slice none 0 0, .slice none 0 0] 102));generalize w1.alloc (.cells #[.int .u32 first, .slice none 0 0, .slice none 0 0] 102) = W2 at *;clear k1 k2 HB1;refine' Pl.region_v0 83 [] [0, 1, 2, 3, 4, 5] [] _ (by kernel_rfl) (by kernel_rfl) (by simp) (fun _ _ _ _ e h => ⟨e ▸ h.1, h.2⟩) ?_ ?_
 rotate_left
 ·intro I F hI hF;simp only [Pl.selN, List.nil_append, List.drop_succ_cons, List.drop_zero];have x1 := fun i => hF.cell (heap_lt k1') (cell_of_heap (i := 0) k1' rfl) i
  repeat (go_big_quiet_step ((first | (go_at_call 50; with_reducible exact hF.call (HU2.out _ (hF.on HB2.out _))) | (go_at_call 50; with_reducible exact hF.call (HU3.out _ (hF.on HB2.out _))))))
  refine wpQuiet_nil ?_;rfl
 intro u hu;simp only [Pl.selN];have k4 := (hu.block _ (heap_lt k1')).trans k1';have k5 := (hu.block _ (heap_lt k2')).trans k2';have k6 := (hu.block _ (heap_lt k3)).trans k3;have HB3 := Bas.hid (HB2.out.trans (hu.mono HB2.out.size));have c1 := cell_of_heap (i := 0) k4 rfl;have R := fun w' => rows_ok a len cap 16 rules 12 w' hl hc hrB
 have e12 : ((rules : Int) * 12).toNat = rules * 12 := by omega
 simp only [show Int.toNat 16 = 16 from rfl, e12] at R
 have HR := Bas.hid R;clear hu k1' k2' k3 HB2 R e12;go_wp2_with (fail);refine (HR.out _).mono ?_;rintro e w3 ⟨rfl, hb3⟩;have k7 := (hb3.block _ (heap_lt k4)).trans k4;have k8 := (hb3.block _ (heap_lt k5)).trans k5;have k9 := (hb3.block _ (heap_lt k6)).trans k6;have HB4 := Bas.hid (HB3.out.trans (hb3.mono HB3.out.size));have hs3 : w1.heap.size < w3.heap.size := Nat.lt_of_lt_of_le (heap_lt k6) hb3.size;generalize hA : sub a 16 (rules * 12) = A;have HA := Bas.hid hA;clear hb3 c1 k4 k5 k6 HB3 HR hA;go_wp2_with (fail);have m7 := (Below.heap_alloc w3 (.cells #[.slice A (rules * 12) (rules * 12)] 52) _ (heap_lt k7)).trans k7;have m8 := (Below.heap_alloc w3 (.cells #[.slice A (rules * 12) (rules * 12)] 52) _ (heap_lt k8)).trans k8;have m9 := (Below.heap_alloc w3 (.cells #[.slice A (rules * 12) (rules * 12)] 52) _ (heap_lt k9)).trans k9;have m10 := Bas.heap_new w3 (.cells #[.slice A (rules * 12) (rules * 12)] 52);have HB5 := Bas.hid (HB4.out.alloc HB4.out.size (.cells #[.slice A (rules * 12) (rules * 12)] 52));generalize w3.alloc (.cells #[.slice A (rules * 12) (rules * 12)] 52) = W5 at *;clear k7 k8 k9 HB4;go_loopw [24] (fun c wr => ∃ (i : Nat) (vr : Value), i ≤ rules ∧ c = .int .i64 i ∧ wr.ownsRow w.heap.size 147 4 vr i (rulesC (rulesAt bs i)) ∧ Below w.heap.size w wr ∧ wr.heap[w.heap.size]? = some (.cells #[.slice a len cap] 52 (0, 0)) ∧
  wr.heap[w1.heap.size]? = some (.cells #[.int .u32 first, vr, .slice none 0 0] 102 (0, 0)) ∧ wr.heap[w3.heap.size]? = some (.cells #[.slice A (rules * 12) (rules * 12)] 52 (0, 0)) ∧ wr.heap[w.heap.size + 1]? = some (.cells #[.int .u32 0, .slice none 0 0, .slice none 0 0] 102 (0, 0))) (fun c _ => rules - (intOf c).toNat)
 case atStart => exact ⟨0, _, Nat.zero_le _, rfl, Row.owned_nil _ _ _ _, HB5.out, m7, m9, m10, m8⟩
 case round =>
  obtain ⟨i, vr, hi, rfl, hown, hb, n1, n2, n3, n4⟩ := hrel;by_cases hir : i < rules
  ·have c6 := cell_of_heap (i := 0) n3 rfl;have e12 : (12 : Int) * (i : Int) = ((12 * i : Nat) : Int) := by omega
   have C := cut_nat A (rules * 12) (rules * 12) (12 * i) 12 wr (Nat.le_refl _) (by unfold maxLen; omega) (by omega)
   rw [← e12] at C;have HC := Bas.hid C;have HO := Bas.hid hown;have HBB := Bas.hid hb;clear C e12 hown hb m7 m8 m9 m10;go_wp2_with (fail);refine HC.out.mono ?_;rintro e w6 ⟨rfl, hb6⟩;have p1 := (hb6.block _ (heap_lt n1)).trans n1;have p2 := (hb6.block _ (heap_lt n2)).trans n2;have p3 := (hb6.block _ (heap_lt n3)).trans n3;have p4 := (hb6.block _ (heap_lt n4)).trans n4;have HO6 := Bas.hid (Row.owned_below HO.out hb6);have HB6 := Bas.hid (HBB.out.trans (hb6.mono HBB.out.size));have hs6 : w3.heap.size < w6.heap.size := heap_lt p3;generalize hS : sub A (12 * i) 12 = S;have HVS := Bas.hid (vb_sub_sub (HV.out.below HB6.out) 16 (rules * 12) (12 * i) 12 (by omega) (by omega))
   rw [HA.out, hS] at HVS;clear hb6 n1 n2 n3 n4 c6 HC hS;go_wp2_with (fail);have q1 := (Below.heap_alloc w6 (.cells #[.slice S 12 12] 52) _ (heap_lt p1)).trans p1;have q2 := (Below.heap_alloc w6 (.cells #[.slice S 12 12] 52) _ (heap_lt p2)).trans p2;have q3 := (Below.heap_alloc w6 (.cells #[.slice S 12 12] 52) _ (heap_lt p3)).trans p3;have q5 := (Below.heap_alloc w6 (.cells #[.slice S 12 12] 52) _ (heap_lt p4)).trans p4;have q4 := Bas.heap_new w6 (.cells #[.slice S 12 12] 52);have hbW := (Below.refl w6.heap.size w6).alloc (Nat.le_refl _) (.cells #[.slice S 12 12] 52);have HO7 := Bas.hid (Row.owned_below HO6.out hbW);have HB7 := Bas.hid (HB6.out.trans (hbW.mono HB6.out.size));have HVS7 := Bas.hid (HVS.out.below hbW);generalize w6.alloc (.cells #[.slice S 12 12] 52) = W7 at *;clear p1 p2 p3 p4 HO6 HB6 HVS hbW;have hbl12 : ((bs.drop (16 + 12 * i)).take 12).length = 12 := by rw [List.length_take, List.length_drop]; omega
   have hm12 : 12 ≤ maxLen := by simp [maxLen]
   have V1 := fun (w' : World) (hb : Below W7.heap.size W7 w') => u16_ok S 12 12 _ 0 w' (Nat.le_refl _) hm12 (HVS7.out.below hb) hbl12 (by omega) (by omega)
   have V2 := fun (w' : World) (hb : Below W7.heap.size W7 w') => u16_ok S 12 12 _ 2 w' (Nat.le_refl _) hm12 (HVS7.out.below hb) hbl12 (by omega) (by omega)
   have V3 := fun (w' : World) (hb : Below W7.heap.size W7 w') => u32_ok S 12 12 _ 4 w' (Nat.le_refl _) hm12 (HVS7.out.below hb) hbl12 (by omega) (by omega)
   have V4 := fun (w' : World) (hb : Below W7.heap.size W7 w') => u32_ok S 12 12 _ 8 w' (Nat.le_refl _) hm12 (HVS7.out.below hb) hbl12 (by omega) (by omega)
   rw [show Int.toNat 0 = 0 from rfl, be_sub bs _ 12 0 2 (by omega)] at V1
   rw [show Int.toNat 2 = 2 from rfl, be_sub bs _ 12 2 2 (by omega)] at V2
   rw [show Int.toNat 4 = 4 from rfl, be_sub bs _ 12 4 4 (by omega)] at V3
   rw [show Int.toNat 8 = 8 from rfl, be_sub bs _ 12 8 4 (by omega)] at V4
   have g3 := be4_bd bs HV.out.byte (16 + 12 * i + 4) (by omega)
   have g4 := be4_bd bs HV.out.byte (16 + 12 * i + 8) (by omega)
   have HRA : Hid (ruleAt bs i = ⟨be bs (16 + 12 * i + 0) 2, be bs (16 + 12 * i + 2) 2, be bs (16 + 12 * i + 4) 4, be bs (16 + 12 * i + 8) 4⟩) := rfl;generalize be bs (16 + 12 * i + 0) 2 = r1 at *;generalize be bs (16 + 12 * i + 2) 2 = r2 at *;generalize be bs (16 + 12 * i + 4) 4 = r3 at *;generalize be bs (16 + 12 * i + 8) 4 = r4 at *;obtain ⟨g31, g32⟩ := g3;obtain ⟨g41, g42⟩ := g4;have HV1 := Bas.hid V1;have HV2 := Bas.hid V2;have HV3 := Bas.hid V3;have HV4 := Bas.hid V4;clear V1 V2 V3 V4 hbl12 hm12;refine' Pl.region_v1 83 [] [0, 1, 2, 3, 4, 5, 6, 7, 8, 9, 10, 11, 12] 13 44 [14, 15, 16] _ (fun v u => ∃ g, v = .slice (some ⟨g, 0, none⟩) 1 1 ∧ W7.heap.size ≤ g ∧ u.heap[g]? = some (.cells #[.int .i64 r1, .int .i64 r2, .int .u32 r3, .int .u32 r4] 147 (0, 0))) (by kernel_rfl) (by kernel_rfl) (by simp) (fun _ _ _ _ e h => ⟨e ▸ h.1, h.2⟩) ?_ ?_ ?_ ?_
   rotate_left
   ·intro I F hI hF;simp only [Pl.selN, List.nil_append, List.drop_succ_cons, List.drop_zero];have x1 := fun i => hF.cell (heap_lt q2) (cell_of_heap (i := 1) q2 rfl) i
    have x2 := fun i => hF.cell (heap_lt q4) (cell_of_heap (i := 0) q4 rfl) i
    repeat (go_big_quiet_step ((first | (go_at_call 49; first | with_reducible exact hF.call (HV1.out _ (hF.bel _)) | with_reducible exact hF.call (HV2.out _ (hF.bel _))) | (go_at_call 50; first | with_reducible exact hF.call (HV3.out _ (hF.bel _)) | with_reducible exact hF.call (HV4.out _ (hF.bel _))))))
    refine wpQuiet_nil ?_;rfl
   ·rintro v u u' ⟨g, h1, h2, h3⟩ hu hu';exact ⟨g, h1, h2, (hu'.block g (heap_lt h3)).trans h3⟩
   ·simp only [Pl.selN, List.drop_succ_cons, List.drop_zero, List.mem_singleton, forall_eq];intro u hu
    go_simp
    simp only [Pl.valsAt];exact ⟨(Below.refl _ _).alloc (Nat.le_refl _) _, _, rfl, hu.size, Bas.heap_new _ _⟩
   ·intro v u hu hv;obtain ⟨g, rfl, hg, hgc⟩ := hv;simp only [Pl.selN, List.drop_succ_cons, List.drop_zero, Act.put, List.setIfInBounds_toArray, List.set_cons_zero, List.set_cons_succ];have u1 := (hu.block _ (heap_lt q1)).trans q1;have u2 := (hu.block _ (heap_lt q2)).trans q2;have u3 := (hu.block _ (heap_lt q3)).trans q3;have u4 := (hu.block _ (heap_lt q5)).trans q5;have HOu := Bas.hid (Row.owned_below HO7.out hu);have HBu := Bas.hid (HB7.out.trans (hu.mono HB7.out.size));have hvr1 := own_ty HOu.out u1 (by decide)
    have hvr2 := own_ty HOu.out u2 (by decide)
    have hvr3 := own_ty HOu.out u3 (by decide)
    have hvr4 := own_ty HOu.out u4 (by decide)
    have cb1 := cell_of_heap (i := 1) u2 rfl;have hus := hu.size;clear q1 q2 q3 q4 q5 hu HO7 HB7;refine (Row.append_any rfl _ _ 80 147 rfl (.agg #[.int .i64 0, .int .i64 0, .int .u32 0, .int .u32 0]) 4 24 Tryz.underlying80 infoR rfl (by decide) w.heap.size vr i (rulesC (rulesAt bs i)) rfl HOu.out (.slice (some ⟨g, 0, none⟩) 1 1) 1 [.int .i64 r1, .int .i64 r2, .int .u32 r3, .int .u32 r4] rfl (leads_heap hgc) rfl (by simp; exact ⟨rfl, rfl, rfl, rfl⟩) (by unfold maxLen; omega) (by omega) HBu.out.size ?_)
    intro v' w8 hown8 hg8 _;obtain ⟨ad8, cp8, rfl⟩ := own_slice hown8;have z1 := (hg8.block _ (heap_lt u1) (fun e => hvr1 e.symm)).trans u1
    have z2 := (hg8.block _ (heap_lt u2) (fun e => hvr2 e.symm)).trans u2
    have z3 := (hg8.block _ (heap_lt u3) (fun e => hvr3 e.symm)).trans u3
    have z4 := (hg8.block _ (heap_lt u4) (fun e => hvr4 e.symm)).trans u4
    have hnew : Hid (rulesC (rulesAt bs (i + 1)) = rulesC (rulesAt bs i) ++ [.int .i64 r1, .int .i64 r2, .int .u32 r3, .int .u32 r4]) := by
     unfold Hid; rw [rulesAt_succ, rulesC_snoc, HRA.out]; rfl
    have HO8 := Bas.hid hown8;have HB8 := Bas.hid (HBu.out.grown hg8 HBu.out.size (fun g' hg' => (Row.own_block HOu.out hg').1))
    have zc := cell_of_heap (i := 1) z2 rfl;have zf := free_of_heap (i := 1) z2;clear hown8 hg8 u1 u2 u3 u4 hgc cb1 HOu HBu;go_wp2_with (fail);have y1 := (Below.heap_setCell w8 ⟨w1.heap.size, 1, none⟩ (.slice ad8 (i + 1) cp8) w.heap.size (by show w.heap.size ≠ w1.heap.size; omega)).trans z1
    have y2 := heap_set (i := 1) z2 (.slice ad8 (i + 1) cp8);have y3 := (Below.heap_setCell w8 ⟨w1.heap.size, 1, none⟩ (.slice ad8 (i + 1) cp8) w3.heap.size (by show w3.heap.size ≠ w1.heap.size; omega)).trans z3
    have y4 := (Below.heap_setCell w8 ⟨w1.heap.size, 1, none⟩ (.slice ad8 (i + 1) cp8) (w.heap.size + 1) (by show w.heap.size + 1 ≠ w1.heap.size; omega)).trans z4
    have HO9 := Bas.hid (Row.owned_keep HO8.out (w' := w8.setCell ⟨w1.heap.size, 1, none⟩ (.slice ad8 (i + 1) cp8)) fun g' hg' => Below.heap_setCell _ _ _ _ (fun e => own_ty HO8.out z2 (by decide) (by rw [hg', e])))
    have HB9 := Bas.hid (HB8.out.setCell (p := ⟨w1.heap.size, 1, none⟩) (by show w.heap.size ≤ w1.heap.size; omega) (.slice ad8 (i + 1) cp8))
    generalize w8.setCell ⟨w1.heap.size, 1, none⟩ (.slice ad8 (i + 1) cp8) = W9 at *;go_wp2_with (fail);go_roundw
    case rel => exact ⟨i + 1, _, by omega, by go_num, by rw [hnew.out]; exact HO9.out, HB9.out, y1, y2, y3, y4⟩
    case measure => simp [intOf]; omega
  ·have hir2 : i = rules := by omega
   subst hir2;obtain ⟨adr, cpr, rfl⟩ := own_slice hown;have HO := Bas.hid hown;have HBB := Bas.hid hb;clear hown hb m7 m8 m9 m10 n3;go_wp2_with (fail);obtain ⟨wo, hwo⟩ : ∃ wo : World, wo = wr := ⟨_, rfl⟩;rw [← hwo] at HO HBB n1 n2 n4;rw [← hwo];clear hwo;go_loopw [9, 52] (fun av c wl => ∃ (k p : Nat) (vs : Value) (dn : List SubD), k ≤ nsubs ∧ c = .int .i64 k ∧ av = .int .i64 p ∧ p ≤ len ∧ dn.length = k ∧ subsAt bs nsubs (16 + 12 * i) = (subsAt bs (nsubs - k) p).map (fun l => dn ++ l) ∧
    wl.ownsRow w.heap.size 147 4 (.slice adr i cpr) i (rulesC (rulesAt bs i)) ∧ wl.ownsRow w.heap.size 104 3 vs k (subsC a dn) ∧ Below w.heap.size w wl ∧ wl.heap[w.heap.size]? = some (.cells #[.slice a len cap] 52 (0, 0)) ∧
    wl.heap[w1.heap.size]? = some (.cells #[.int .u32 first, .slice adr i cpr, vs] 102 (0, 0)) ∧ wl.heap[w.heap.size + 1]? = some (.cells #[.int .u32 0, .slice none 0 0, .slice none 0 0] 102 (0, 0))) (fun _ c _ => nsubs - (intOf c).toNat)
   case atStart => exact ⟨0, 16 + 12 * i, _, [], Nat.zero_le _, rfl, by go_num, hrow, rfl, by simp, HO.out, Row.owned_nil _ _ _ _, HBB.out, n1, n2, n4⟩
   case round =>
    obtain ⟨k, p, vs, dn, hk, rfl, rfl, hp, hdl, hsub, hown, hows, hb, n5, n6, n7⟩ := hrel;have HSUB := Bas.hid hsub;have HDL := Bas.hid hdl;have HOR := Bas.hid hown;have HOS := Bas.hid hows;have HBL := Bas.hid hb;have c5 := cell_of_heap (i := 0) n5 rfl;clear hsub hdl hown hows hb n1 n2 n4;by_cases hkn : k < nsubs
    ·have hfail : ¬ (p + 4 ≤ bs.length ∧ 12 ≤ (be bs p 4).toNat ∧ p + (be bs p 4).toNat ≤ bs.length) → parseOne bs = none := fun hn => by
      rw [HPO.out, HSUB.out, show nsubs - k = (nsubs - k - 1) + 1 by omega, subsAt, if_neg hn]
      rfl
     have HFAIL := Bas.hid hfail;clear hfail;by_cases f1 : p + 4 ≤ len
     ·have gb := be4_bd bs HV.out.byte p (by omega)
      have UP := fun (w' : World) (hb : Below w.heap.size w w') => u32_ok a len cap bs (p : Int) w' hl hc (HV.out.below hb) hbl (by omega) (by omega)
      simp only [Int.toNat_natCast] at UP;obtain ⟨n, hn⟩ : ∃ n : Nat, be bs p 4 = n := ⟨(be bs p 4).toNat, by omega⟩
      rw [hn] at UP gb;rw [hn, Int.toNat_natCast] at HFAIL;have HUP := Bas.hid UP;have HN := Bas.hid hn;clear UP hn;have hn32 : n ≤ 4294967295 := by omega
      go_wp2_with (fail);refine (HUP.out _ HBL.out).mono ?_;rintro e w6 ⟨rfl, hb6⟩;have p5 := (hb6.block _ (heap_lt n5)).trans n5;have p6 := (hb6.block _ (heap_lt n6)).trans n6;have p7 := (hb6.block _ (heap_lt n7)).trans n7;have c5 := cell_of_heap (i := 0) p5 rfl;have HB6 := Bas.hid (HBL.out.trans (hb6.mono HBL.out.size));have HR6 := Bas.hid (Row.owned_below HOR.out hb6);have HS6 := Bas.hid (Row.owned_below HOS.out hb6);clear hb6 n5 n6 n7 HUP HOR HOS HBL;by_cases f2 : 12 ≤ n
      ·have d2 : decide ((12 : Int) ≤ (n : Int)) = true := by simp; omega
       go_wp2_with (go_at_call 51; refine (need_yesb _ _ (by first | rfl | (simp; done) | (simp; omega))).mono ?_; rintro e w' ⟨rfl, rfl⟩)
       by_cases f3 : p + n ≤ len
       ·refine (cut_nat a len cap p n _ hl hc f3).mono ?_;rintro e w7 ⟨rfl, hb7⟩;have o5 := (hb7.block _ (heap_lt p5)).trans p5;have o6 := (hb7.block _ (heap_lt p6)).trans p6;have o7 := (hb7.block _ (heap_lt p7)).trans p7;have HB7 := Bas.hid (HB6.out.trans (hb7.mono HB6.out.size));have HR7 := Bas.hid (Row.owned_below HR6.out hb7);have HS7 := Bas.hid (Row.owned_below HS6.out hb7);generalize hS : sub a p n = S;have HVS := Bas.hid ((HV.out.below HB7.out).sub p n (by omega))
        rw [hS] at HVS;have HSS := Bas.hid hS;have hs7 : w1.heap.size < w7.heap.size := heap_lt o6;clear hb7 p5 p6 p7 c5 HB6 HR6 HS6 hS HFAIL;go_wp2_with (fail);have q5 := (Below.heap_alloc w7 (.cells #[.slice S n n] 52) _ (heap_lt o5)).trans o5;have q6 := (Below.heap_alloc w7 (.cells #[.slice S n n] 52) _ (heap_lt o6)).trans o6;have q7 := (Below.heap_alloc w7 (.cells #[.slice S n n] 52) _ (heap_lt o7)).trans o7;have q4 := Bas.heap_new w7 (.cells #[.slice S n n] 52);have hbW := (Below.refl w7.heap.size w7).alloc (Nat.le_refl _) (.cells #[.slice S n n] 52);have HR8 := Bas.hid (Row.owned_below HR7.out hbW);have HS8 := Bas.hid (Row.owned_below HS7.out hbW);have HB8 := Bas.hid (HB7.out.trans (hbW.mono HB7.out.size));have HVS8 := Bas.hid (HVS.out.below hbW);generalize w7.alloc (.cells #[.slice S n n] 52) = W8 at *;clear o5 o6 o7 HR7 HS7 HB7 HVS hbW;have hbln : ((bs.drop p).take n).length = n := by rw [List.length_take, List.length_drop]; omega
        have hmn : n ≤ maxLen := by unfold maxLen; omega
        have V1 := fun (w' : World) (hb : Below W8.heap.size W8 w') => u32_ok S n n _ 4 w' (Nat.le_refl _) hmn (HVS8.out.below hb) hbln (by omega) (by omega)
        have V2 := fun (w' : World) (hb : Below W8.heap.size W8 w') => u32_ok S n n _ 8 w' (Nat.le_refl _) hmn (HVS8.out.below hb) hbln (by omega) (by omega)
        have V3 := fun (w' : World) => rest_ok S n n 12 w' (Nat.le_refl _) hmn (by omega) (by omega)
        rw [show Int.toNat 4 = 4 from rfl, be_sub bs _ n 4 4 (by omega)] at V1
        rw [show Int.toNat 8 = 8 from rfl, be_sub bs _ n 8 4 (by omega)] at V2
        simp only [show Int.toNat 12 = 12 from rfl] at V3
        have g1 := be4_bd bs HV.out.byte (p + 4) (by omega)
        have g2 := be4_bd bs HV.out.byte (p + 8) (by omega)
        have HSUB2 : Hid (subsAt bs (nsubs - k) p = (subsAt bs (nsubs - (k + 1)) (p + n)).map fun l => ⟨be bs (p + 4) 4, be bs (p + 8) 4, p, n⟩ :: l) := by
         unfold Hid;rw [show nsubs - k = (nsubs - (k + 1)) + 1 by omega, subsAt, HN.out, Int.toNat_natCast, if_pos ⟨by omega, f2, by omega⟩]
        generalize be bs (p + 4) 4 = r1 at *;generalize be bs (p + 8) 4 = r2 at *;obtain ⟨g11, g12⟩ := g1;obtain ⟨g21, g22⟩ := g2;have HV1 := Bas.hid V1;have HV2 := Bas.hid V2;have HV3 := Bas.hid V3;clear V1 V2 V3 hbln;refine' Pl.region_v1 83 [] [0, 1, 2, 3, 4, 5, 6, 7, 8, 9, 10] 11 75 [12, 13, 14] _ (fun v u => ∃ g, v = .slice (some ⟨g, 0, none⟩) 1 1 ∧ W8.heap.size ≤ g ∧ u.heap[g]? = some (.cells #[.int .u32 r1, .int .u32 r2, .slice (sub S 12 (n - 12)) (n - 12) (n - 12)] 104 (0, 0))) (by kernel_rfl) (by kernel_rfl) (by simp) (fun _ _ _ _ e h => ⟨e ▸ h.1, h.2⟩) ?_ ?_ ?_ ?_
        rotate_left
        ·intro I F hI hF;simp only [Pl.selN, List.nil_append, List.drop_succ_cons, List.drop_zero];have x1 := fun i => hF.cell (heap_lt q6) (cell_of_heap (i := 2) q6 rfl) i
         have x2 := fun i => hF.cell (heap_lt q4) (cell_of_heap (i := 0) q4 rfl) i
         repeat (go_big_quiet_step ((first | (go_at_call 50; first | with_reducible exact hF.call (HV1.out _ (hF.bel _)) | with_reducible exact hF.call (HV2.out _ (hF.bel _))) | (go_at_call 75; with_reducible exact hF.call (HV3.out _)))))
         refine wpQuiet_nil ?_;rfl
        ·rintro v u u' ⟨g, h1, h2, h3⟩ hu hu';exact ⟨g, h1, h2, (hu'.block g (heap_lt h3)).trans h3⟩
        ·simp only [Pl.selN, List.drop_succ_cons, List.drop_zero, List.mem_singleton, forall_eq];intro u hu
         go_simp
         simp only [Pl.valsAt];exact ⟨(Below.refl _ _).alloc (Nat.le_refl _) _, _, rfl, hu.size, Bas.heap_new _ _⟩
        ·intro v u hu hv;obtain ⟨g, rfl, hg, hgc⟩ := hv;simp only [Pl.selN, List.drop_succ_cons, List.drop_zero, Act.put, List.setIfInBounds_toArray, List.set_cons_zero, List.set_cons_succ];have u5 := (hu.block _ (heap_lt q5)).trans q5;have u6 := (hu.block _ (heap_lt q6)).trans q6;have u7 := (hu.block _ (heap_lt q7)).trans q7;have HRu := Bas.hid (Row.owned_below HR8.out hu);have HSu := Bas.hid (Row.owned_below HS8.out hu);have HBu := Bas.hid (HB8.out.trans (hu.mono HB8.out.size));have hv5 := own_ty HSu.out u5 (by decide)
         have hv6 := own_ty HSu.out u6 (by decide)
         have hv7 := own_ty HSu.out u7 (by decide)
         have hus := hu.size;have hkb : k ≤ 4294967295 := by omega
         clear q4 q5 q6 q7 hu HR8 HS8 HB8;refine (Row.append_any rfl _ _ 100 104 rfl (.agg #[.int .u32 0, .int .u32 0, .slice none 0 0]) 3 32 Tryz.underlying100 infoSub rfl (by decide) w.heap.size vs k (subsC a dn) rfl HSu.out (.slice (some ⟨g, 0, none⟩) 1 1) 1 [.int .u32 r1, .int .u32 r2, .slice (sub S 12 (n - 12)) (n - 12) (n - 12)] rfl (leads_heap hgc) rfl (by simp; exact ⟨rfl, rfl, rfl⟩) (by unfold maxLen; omega) (by omega) HBu.out.size ?_)
         intro v' w9 hown9 hg9 _;obtain ⟨ad9, cp9, rfl⟩ := own_slice hown9;have z5 := (hg9.block _ (heap_lt u5) (fun e => hv5 e.symm)).trans u5
         have z6 := (hg9.block _ (heap_lt u6) (fun e => hv6 e.symm)).trans u6
         have z7 := (hg9.block _ (heap_lt u7) (fun e => hv7 e.symm)).trans u7
         have HR9 := Bas.hid (Row.owned_keep HRu.out fun g' hg' => hg9.block g' (Row.own_block HRu.out hg').2 (fun e => own_rows_ne HRu.out HSu.out (by decide) hg' e.symm))
         have hnew : Hid (subsC a (dn ++ [⟨r1, r2, p, n⟩]) = subsC a dn ++ [.int .u32 r1, .int .u32 r2, .slice (sub S 12 (n - 12)) (n - 12) (n - 12)]) := by
          unfold Hid; rw [subsC_snoc]; unfold subC; rw [HSS.out]
         have HS9 := Bas.hid hown9;have HB9 := Bas.hid (HBu.out.grown hg9 HBu.out.size (fun g' hg' => (Row.own_block HSu.out hg').1))
         have zc := cell_of_heap (i := 2) z6 rfl;have zf := free_of_heap (i := 2) z6;clear hown9 hg9 u5 u6 u7 hgc HRu HSu HBu;go_wp2_with (fail);have y5 := (Below.heap_setCell w9 ⟨w1.heap.size, 2, none⟩ (.slice ad9 (k + 1) cp9) w.heap.size (by show w.heap.size ≠ w1.heap.size; omega)).trans z5
         have y6 := heap_set (i := 2) z6 (.slice ad9 (k + 1) cp9);have y7 := (Below.heap_setCell w9 ⟨w1.heap.size, 2, none⟩ (.slice ad9 (k + 1) cp9) (w.heap.size + 1) (by show w.heap.size + 1 ≠ w1.heap.size; omega)).trans z7
         have HR10 := Bas.hid (Row.owned_keep HR9.out (w' := w9.setCell ⟨w1.heap.size, 2, none⟩ (.slice ad9 (k + 1) cp9)) fun g' hg' => Below.heap_setCell _ _ _ _ (fun e => own_ty HR9.out z6 (by decide) (by rw [hg', e])))
         have HS10 := Bas.hid (Row.owned_keep HS9.out (w' := w9.setCell ⟨w1.heap.size, 2, none⟩ (.slice ad9 (k + 1) cp9)) fun g' hg' => Below.heap_setCell _ _ _ _ (fun e => own_ty HS9.out z6 (by decide) (by rw [hg', e])))
         have HB10 := Bas.hid (HB9.out.setCell (p := ⟨w1.heap.size, 2, none⟩) (by show w.heap.size ≤ w1.heap.size; omega) (.slice ad9 (k + 1) cp9))
         generalize w9.setCell ⟨w1.heap.size, 2, none⟩ (.slice ad9 (k + 1) cp9) = W10 at *;go_wp2_with (fail);go_roundw
         case rel => exact ⟨k + 1, p + n, _, dn ++ [⟨r1, r2, p, n⟩], by omega, by go_num, by go_num, f3, by rw [List.length_append, HDL.out]; rfl, by rw [HSUB.out, HSUB2.out]; simp [Option.map_map, Function.comp_def], HR10.out, by rw [hnew.out]; exact HS10.out, HB10.out, y5, y6, y7⟩
         case measure => simp [intOf]; omega
       ·refine (cut_no a len cap _ _ _ hl hc (by omega)).mono ?_
        rintro e w7 ⟨rfl, hb7⟩;go_wp2_with (fail);exact ⟨rfl, HB6.out.trans (hb7.mono HB6.out.size), by rw [HFAIL.out (by omega)]⟩
      ·go_wp2_with (go_at_call 51; refine (need_nob _ _ (by first | (simp; done) | (simp; omega))).mono ?_; rintro e w' ⟨rfl, rfl⟩)
       exact ⟨rfl, HB6.out, by rw [HFAIL.out (by omega)]⟩
     ·go_wp2_with (fail);refine (u32_no a len cap _ _ hl hc (by omega)).mono ?_
      rintro e w6 ⟨rfl, hb6⟩;go_wp2_with (fail);exact ⟨rfl, HBL.out.trans (hb6.mono HBL.out.size), by rw [HFAIL.out (by omega)]⟩
    ·have hkn2 : k = nsubs := by omega
     have hdone : parseOne bs = some ⟨first, rulesAt bs i, dn⟩ := by
      rw [HPO.out, HSUB.out, hkn2, Nat.sub_self, subsAt]; simp
     have HD := Bas.hid hdone;obtain ⟨ads, cps, rfl⟩ := own_slice HOS.out;have x0 := cell_of_heap (i := 0) n6 rfl;have x1 := cell_of_heap (i := 1) n6 rfl;have x2 := cell_of_heap (i := 2) n6 rfl;have y0 := cell_of_heap (i := 0) n7 rfl;have y1 := cell_of_heap (i := 1) n7 rfl;have y2 := cell_of_heap (i := 2) n7 rfl;have f0 := free_of_heap (i := 0) n7;have f1 := free_of_heap (i := 1) n7;have f2 := free_of_heap (i := 2) n7;clear hdone hkn2;go_wp2_with (fail);refine bodyPost_ret (v := .agg #[.int .u32 first, .slice adr i cpr, .slice ads k cps]) (by simp [results, Tryz.results52, go_sem, y0, y1, y2]) rfl ?_
     have hkeep : ∀ g', g' ≠ w.heap.size + 1 → (((wr.setCell ⟨w.heap.size + 1, 0, none⟩ (.int .u32 first)).setCell ⟨w.heap.size + 1, 1, none⟩ (.slice adr i cpr)).setCell ⟨w.heap.size + 1, 2, none⟩ (.slice ads k cps)).heap[g']? = wr.heap[g']? := fun g' hg' =>
      (Below.heap_setCell _ _ _ _ hg').trans ((Below.heap_setCell _ _ _ _ hg').trans (Below.heap_setCell _ _ _ _ hg'))
     refine ⟨((HBL.out.setCell (p := ⟨w.heap.size + 1, 0, none⟩) (Nat.le_succ _) _).setCell (p := ⟨w.heap.size + 1, 1, none⟩) (Nat.le_succ _) _).setCell (p := ⟨w.heap.size + 1, 2, none⟩) (Nat.le_succ _) _, ?_⟩;rw [HD.out];refine ⟨_, _, rfl, ?_, ?_⟩
     ·rw [rulesAt_len];exact Row.owned_keep HOR.out fun g' hg' => hkeep g' (fun e => own_ty HOR.out n7 (by decide) (by rw [hg', e]))
     ·rw [show dn.length = k from HDL.out]
      exact Row.owned_keep HOS.out fun g' hg' => hkeep g' (fun e => own_ty HOS.out n7 (by decide) (by rw [hg', e]))
set_option maxRecDepth 100000 in
set_option maxHeartbeats 4000000 in
theorem one_short (a : Option Addr) (len cap : Nat) (bs : List Int) (w : World) (hl : len ≤ cap) (hc : cap ≤ maxLen) (hv : VB w a bs) (hbl : bs.length = len) (hsmall : len ≤ 1000000000) (h16 : len < 16) :
  Calls Tryz.prog 52 #[.agg #[.slice a len cap]] w (OnePost w a bs) := by
 have hnone : parseOne bs = none := by unfold parseOne; rw [if_neg (by omega)]
 have POST : Hid (∀ w', Below w.heap.size w w' → OnePost w a bs (.panicked short) w') := fun w' hb => ⟨hb, by rw [hnone]⟩
 have HV := Bas.hid hv;clear hnone hv;have hal := ((Below.refl w.heap.size w).alloc (Nat.le_refl _) (.cells #[.slice a len cap] 52)).alloc (by simp) (.cells #[.int .u32 0, .slice none 0 0, .slice none 0 0] 102)
 have HAL := Bas.hid hal;clear hal;by_cases h4 : 4 ≤ len
 ·have hb0 := be4_bd bs HV.out.byte 0 (by omega)
  have U1 := fun (w' : World) (hb : Below w.heap.size w w') => u32_ok a len cap bs 0 w' hl hc (HV.out.below hb) hbl (by omega) (by omega)
  simp only [show Int.toNat 0 = 0 from rfl] at U1
  have HU1 := Bas.hid U1;generalize be bs 0 4 = first at *;obtain ⟨hf0, hf1⟩ := hb0;clear U1;go_enter Tryz.func52, Tryz.ntmps52
  go_wp2_with (fail);refine (HU1.out _ HAL.out).mono ?_;rintro e w1 ⟨rfl, hb1⟩;have HB1 := Bas.hid (Bas.on HAL.out hb1);have k1 : w1.heap[w.heap.size]? = some (.cells #[.slice a len cap] 52 (0, 0)) := by
   rw [hb1.block _ (by simp; omega)]
   rw [Below.heap_alloc _ _ _ (by simp)]
   exact Bas.heap_new _ _
  clear hb1;go_wp2_with (fail);have k1' := (Below.heap_alloc w1 (.cells #[.int .u32 first, .slice none 0 0, .slice none 0 0] 102) _ (heap_lt k1)).trans k1;have HB2 := Bas.hid (HB1.out.alloc HB1.out.size (.cells #[.int .u32 first, .slice none 0 0, .slice none 0 0] 102));generalize w1.alloc (.cells #[.int .u32 first, .slice none 0 0, .slice none 0 0] 102) = W2 at *;clear k1 HB1 HU1;by_cases h12 : 12 ≤ len
  ·have U2 := fun (w' : World) (hb : Below w.heap.size w w') => u32_ok a len cap bs 8 w' hl hc (HV.out.below hb) hbl (by omega) (by omega)
   have HU2 := Bas.hid U2;clear U2;refine' Pl.region_vh 83 [] [0, 1, 2] [] 3 19 [4, 5] _ (fun ch w' => ch = short ∧ Below w.heap.size w w') (by kernel_rfl) (by kernel_rfl) (by kernel_rfl) (by simp) (fun _ _ _ _ e h => ⟨e ▸ h.1, h.2⟩) ?_ ?_ ?_ ?_
   rotate_left
   ·intro I F hI hF;simp only [Pl.selN, List.nil_append, List.drop_succ_cons, List.drop_zero];have x1 := fun i => hF.cell (heap_lt k1') (cell_of_heap (i := 0) k1' rfl) i
    repeat (go_big_quiet_step ((go_at_call 50; with_reducible exact hF.call (HU2.out _ (hF.on HB2.out _)))))
    refine wpQuiet_nil ?_;rfl
   ·simp only [Pl.selN, List.drop_succ_cons, List.drop_zero, List.mem_singleton, forall_eq];intro u hu
    go_simp
    simp only [Pl.valsAt];refine (u32_no a len cap _ u hl hc (by omega)).mono ?_
    rintro e w'' ⟨he, hb⟩;exact .inr ⟨short, he, rfl, HB2.out.trans ((hu.trans (hb.mono hu.size)).mono HB2.out.size)⟩
   ·intro x hx; cases hx
   ·rintro c a' u hd ⟨rfl, hb⟩;exact ⟨hd, POST.out _ hb⟩
  ·refine' Pl.region_vh 83 [] [0, 2] [] 1 17 [3, 4, 5] _ (fun ch w' => ch = short ∧ Below w.heap.size w w') (by kernel_rfl) (by kernel_rfl) (by kernel_rfl) (by simp) (fun _ _ _ _ e h => ⟨e ▸ h.1, h.2⟩) ?_ ?_ ?_ ?_
   rotate_left
   ·intro I F hI hF;simp only [Pl.selN, List.nil_append, List.drop_succ_cons, List.drop_zero];have x1 := fun i => hF.cell (heap_lt k1') (cell_of_heap (i := 0) k1' rfl) i
    repeat (go_big_quiet_step (fail))
    refine wpQuiet_nil ?_;rfl
   ·simp only [Pl.selN, List.drop_succ_cons, List.drop_zero, List.mem_singleton, forall_eq];intro u hu
    go_simp
    simp only [Pl.valsAt];refine (u32_no a len cap _ u hl hc (by omega)).mono ?_
    rintro e w'' ⟨he, hb⟩;exact .inr ⟨short, he, rfl, HB2.out.trans ((hu.trans (hb.mono hu.size)).mono HB2.out.size)⟩
   ·intro x hx; cases hx
   ·rintro c a' u hd ⟨rfl, hb⟩;exact ⟨hd, POST.out _ hb⟩
 ·go_enter Tryz.func52, Tryz.ntmps52
  go_wp2_with (fail);refine (u32_no a len cap _ _ hl hc (by omega)).mono ?_
  rintro e w1 ⟨rfl, hb1⟩;go_wp2_with (fail);exact ⟨rfl, POST.out _ (Bas.on HAL.out hb1)⟩
set_option maxRecDepth 100000 in
set_option maxHeartbeats 8000000 in
theorem one_rows (a : Option Addr) (len cap : Nat) (bs : List Int) (rules nsubs : Nat) (w : World) (hl : len ≤ cap) (hc : cap ≤ maxLen) (hv : VB w a bs) (hbl : bs.length = len) (hsmall : len ≤ 1000000000)
  (h16 : 16 ≤ len) (hr : be bs 8 4 = rules) (hn : be bs 12 4 = nsubs) (hrow : ¬ 16 + 12 * rules ≤ len) :
  Calls Tryz.prog 52 #[.agg #[.slice a len cap]] w (OnePost w a bs) := by
 have hb0 := be4_bd bs hv.byte 0 (by omega)
 have hrB : ¬ rowsB len 16 rules 12 := fun h => by have := h.2.2.2.2; omega
 have hcm : len ≤ 9223372036854775807 := by omega
 have hr32 : rules ≤ 4294967295 := by have := be4_bd bs hv.byte 8 (by omega); omega
 have U1 := fun (w' : World) (hb : Below w.heap.size w w') => u32_ok a len cap bs 0 w' hl hc (hv.below hb) hbl (by omega) (by omega)
 have U2 := fun (w' : World) (hb : Below w.heap.size w w') => u32_ok a len cap bs 8 w' hl hc (hv.below hb) hbl (by omega) (by omega)
 have U3 := fun (w' : World) (hb : Below w.heap.size w w') => u32_ok a len cap bs 12 w' hl hc (hv.below hb) hbl (by omega) (by omega)
 simp only [show Int.toNat 0 = 0 from rfl, show Int.toNat 8 = 8 from rfl, show Int.toNat 12 = 12 from rfl] at U1 U2 U3
 rw [hr] at U2;rw [hn] at U3;have hnone : parseOne bs = none := by
  unfold parseOne;rw [hr];simp only [Int.toNat_natCast];rw [if_neg (by omega)]
 have POST : Hid (∀ w', Below w.heap.size w w' → OnePost w a bs (.panicked short) w') := fun w' hb => ⟨hb, by rw [hnone]⟩
 clear hnone;have HU1 := Bas.hid U1;have HU2 := Bas.hid U2;have HU3 := Bas.hid U3;have HV := Bas.hid hv;generalize be bs 0 4 = first at *;obtain ⟨hf0, hf1⟩ := hb0;clear U1 U2 U3 hr hn hv;go_enter Tryz.func52, Tryz.ntmps52
 go_wp2_with (fail);refine (HU1.out _ (((Below.refl w.heap.size w).alloc (Nat.le_refl _) _).alloc (by simp) _)).mono ?_
 rintro e w1 ⟨rfl, hb1⟩;have hs1 := hb1.size;simp only [World.size_alloc] at hs1;have HB1 := Bas.hid (Bas.on (((Below.refl w.heap.size w).alloc (Nat.le_refl _) _).alloc (by simp) _) hb1)
 have k1 : w1.heap[w.heap.size]? = some (.cells #[.slice a len cap] 52 (0, 0)) := by
  rw [hb1.block _ (by simp; omega)]
  rw [Below.heap_alloc _ _ _ (by simp)]
  exact Bas.heap_new _ _
 have k2 : w1.heap[w.heap.size + 1]? = some (.cells #[.int .u32 0, .slice none 0 0, .slice none 0 0] 102 (0, 0)) := by
  rw [hb1.block _ (by simp)]
  exact Bas.heap_new2 _ _ _
 clear hb1;go_wp2_with (fail);have k1' := (Below.heap_alloc w1 (.cells #[.int .u32 first, .slice none 0 0, .slice none 0 0] 102) _ (heap_lt k1)).trans k1;have k2' := (Below.heap_alloc w1 (.cells #[.int .u32 first, .slice none 0 0, .slice none 0 0] 102) _ (heap_lt k2)).trans k2;have k3 := Bas.heap_new w1 (.cells #[.int .u32 first, .slice none 0 0, .slice none 0 0] 102);have HB2 := Bas.hid (HB1.out.alloc HB1.out.size (.cells #[.int .u32 first, .slice none 0 0, .slice none 0 0] 102));generalize w1.alloc (.cells #[.int .u32 first, .slice none 0 0, .slice none 0 0] 102) = W2 at *;clear k1 k2 HB1;refine' Pl.region_v0 83 [] [0, 1, 2, 3, 4, 5] [] _ (by kernel_rfl) (by kernel_rfl) (by simp) (fun _ _ _ _ e h => ⟨e ▸ h.1, h.2⟩) ?_ ?_
 rotate_left
 ·intro I F hI hF;simp only [Pl.selN, List.nil_append, List.drop_succ_cons, List.drop_zero];have x1 := fun i => hF.cell (heap_lt k1') (cell_of_heap (i := 0) k1' rfl) i
  repeat (go_big_quiet_step ((first | (go_at_call 50; with_reducible exact hF.call (HU2.out _ (hF.on HB2.out _))) | (go_at_call 50; with_reducible exact hF.call (HU3.out _ (hF.on HB2.out _))))))
  refine wpQuiet_nil ?_;rfl
 intro u hu;simp only [Pl.selN];have k4 := (hu.block _ (heap_lt k1')).trans k1';have k5 := (hu.block _ (heap_lt k2')).trans k2';have k6 := (hu.block _ (heap_lt k3)).trans k3;have HB3 := Bas.hid (HB2.out.trans (hu.mono HB2.out.size));have c1 := cell_of_heap (i := 0) k4 rfl;clear hu k1' k2' k3 HB2;go_wp2_with (fail);refine (rows_no a len cap _ _ _ _ hl hc hrB).mono ?_;rintro e w3 ⟨rfl, hb3⟩;go_wp2_with (fail);exact ⟨rfl, POST.out _ (HB3.out.trans (hb3.mono HB3.out.size))⟩
theorem one_any (a : Option Addr) (len cap : Nat) (bs : List Int) (w : World) (hl : len ≤ cap) (hc : cap ≤ maxLen) (hv : VB w a bs) (hbl : bs.length = len) (hsmall : len ≤ 1000000000) :
  Calls Tryz.prog 52 #[.agg #[.slice a len cap]] w (OnePost w a bs) := by
 by_cases h16 : 16 ≤ len
 ·have h1 := be4_bd bs hv.byte 8 (by omega)
  have h2 := be4_bd bs hv.byte 12 (by omega)
  by_cases h3 : 16 + 12 * (be bs 8 4).toNat ≤ len
  ·exact one_main a len cap bs (be bs 8 4).toNat (be bs 12 4).toNat w hl hc hv hbl hsmall h16 (by omega) (by omega) h3
  ·exact one_rows a len cap bs (be bs 8 4).toNat (be bs 12 4).toNat w hl hc hv hbl hsmall h16 (by omega) (by omega) h3
 ·exact one_short a len cap bs w hl hc hv hbl hsmall (by omega)
structure PlaceD where
 c : ChainD
 p : Nat
 size : Nat
def chainsAt (bs : List Int) : Nat → Nat → Option (List PlaceD)
 | 0, _ => some []
 | k + 1, p => if p + 8 ≤ bs.length ∧ 16 ≤ (be bs (p + 4) 4).toNat ∧ p + (be bs (p + 4) 4).toNat ≤ bs.length then
   (parseOne ((bs.drop p).take (be bs (p + 4) 4).toNat)).bind fun c => (chainsAt bs k (p + (be bs (p + 4) 4).toNat)).map fun l => ⟨c, p, (be bs (p + 4) 4).toNat⟩ :: l
  else none
def parseAll (bs : List Int) : Option (List PlaceD) :=
 if 8 ≤ bs.length ∧ (be bs 0 2 = 2 ∨ be bs 0 2 = 3) then chainsAt bs (be bs 4 4).toNat 8 else none
def chainC (x : PlaceD × (Value × Value)) : List Value := [.int .u32 x.1.c.first, x.2.1, x.2.2]
structure ChRow (w : World) (base : Nat) (a : Option Addr) (v : Value) (cs : List PlaceD) (rs : List (Value × Value)) : Prop where
 len : rs.length = cs.length
 own : w.ownsRow base 102 3 v cs.length ((cs.zip rs).flatMap chainC)
 rules : ∀ (i : Nat) (c : PlaceD) (r : Value × Value), cs[i]? = some c → rs[i]? = some r → w.ownsRow base 147 4 r.1 c.c.rules.length (rulesC c.c.rules)
 subs : ∀ (i : Nat) (c : PlaceD) (r : Value × Value), cs[i]? = some c → rs[i]? = some r → w.ownsRow base 104 3 r.2 c.c.subs.length (subsC (sub a c.p c.size) c.c.subs)
theorem chRow_nil (w : World) (base : Nat) (a : Option Addr) : ChRow w base a (.slice none 0 0) [] [] := ⟨rfl, Row.owned_nil _ _ _ _, fun i c r h => by simp at h, fun i c r h => by simp at h⟩
theorem chRow_snoc {w w' : World} {base : Nat} {a : Option Addr} {v v' : Value} {cs : List PlaceD} {rs : List (Value × Value)} {c : PlaceD} {vr vs : Value} (h : ChRow w base a v cs rs)
  (hown : w'.ownsRow base 102 3 v' (cs.length + 1) ((cs.zip rs).flatMap chainC ++ [.int .u32 c.c.first, vr, vs]))
  (hk : ∀ (e : TypeId) (size n : Nat) (u : Value) (xs : List Value), e ≠ 102 → w.ownsRow base e size u n xs → w'.ownsRow base e size u n xs)
  (h1 : w'.ownsRow base 147 4 vr c.c.rules.length (rulesC c.c.rules)) (h2 : w'.ownsRow base 104 3 vs c.c.subs.length (subsC (sub a c.p c.size) c.c.subs)) : ChRow w' base a v' (cs ++ [c]) (rs ++ [(vr, vs)]) := by
 refine ⟨by simp [h.len], ?_, fun i c' r' hc hr => ?_, fun i c' r' hc hr => ?_⟩
 ·rw [List.length_append, List.zip_append h.len.symm, List.flatMap_append];simpa [chainC] using hown
 ·by_cases hi : i < cs.length
  ·rw [List.getElem?_append_left hi] at hc;rw [List.getElem?_append_left (by rw [h.len]; exact hi)] at hr
   exact hk _ _ _ _ _ (by decide) (h.rules i c' r' hc hr)
  ·have hi2 : i = cs.length := by
    have := (List.getElem?_eq_some_iff.1 hc).1;simp at this; omega
   subst hi2;rw [List.getElem?_append_right (by omega)] at hc
   rw [List.getElem?_append_right (by have := h.len; omega)] at hr
   simp [h.len] at hc hr;subst hc hr;exact h1
 ·by_cases hi : i < cs.length
  ·rw [List.getElem?_append_left hi] at hc;rw [List.getElem?_append_left (by rw [h.len]; exact hi)] at hr
   exact hk _ _ _ _ _ (by decide) (h.subs i c' r' hc hr)
  ·have hi2 : i = cs.length := by
    have := (List.getElem?_eq_some_iff.1 hc).1;simp at this; omega
   subst hi2;rw [List.getElem?_append_right (by omega)] at hc
   rw [List.getElem?_append_right (by have := h.len; omega)] at hr
   simp [h.len] at hc hr;subst hc hr;exact h2
theorem chRow_below {w w' : World} {base : Nat} {a : Option Addr} {v : Value} {cs : List PlaceD} {rs : List (Value × Value)} (h : ChRow w base a v cs rs) (hb : Below w.heap.size w w') : ChRow w' base a v cs rs :=
 ⟨h.len, Row.owned_below h.own hb, fun i c r hc hr => Row.owned_below (h.rules i c r hc hr) hb, fun i c r hc hr => Row.owned_below (h.subs i c r hc hr) hb⟩
def TakeP (w : World) (a : Option Addr) (bs : List Int) (e : Ending) (w' : World) : Prop :=
 Below w.heap.size w w' ∧ match parseAll bs with
  | none => e = .panicked short
  | some cs => ∃ v rs, e = .returned v ∧ ChRow w' w.heap.size a v cs rs
theorem infoC : (Tryz.prog.info? 102).map (fun i => (i.zero, i.size, i.bytes)) = some (some (.agg #[.int .u32 0, .slice none 0 0, .slice none 0 0]), 3, 56) := by kernel_rfl
set_option maxRecDepth 100000 in
set_option maxHeartbeats 8000000 in
theorem take_main (a : Option Addr) (len cap : Nat) (bs : List Int) (n : Nat) (w : World) (hl : len ≤ cap) (hc : cap ≤ maxLen) (hv : VB w a bs) (hbl : bs.length = len) (hsmall : len ≤ 1000000000)
  (h8 : 8 ≤ len) (hn : be bs 4 4 = n) :
  Calls Tryz.prog 34 #[.agg #[.slice a len cap]] w (TakeP w a bs) := by
 have hn32 : n ≤ 4294967295 := by have := be4_bd bs hv.byte 4 (by omega); omega
 have U1 := fun (w' : World) (hb : Below w.heap.size w w') => u16_ok a len cap bs 0 w' hl hc (hv.below hb) hbl (by omega) (by omega)
 have U2 := fun (w' : World) (hb : Below w.heap.size w w') => u32_ok a len cap bs 4 w' hl hc (hv.below hb) hbl (by omega) (by omega)
 simp only [show Int.toNat 0 = 0 from rfl, show Int.toNat 4 = 4 from rfl] at U1 U2
 rw [hn] at U2;have HPA : Hid (parseAll bs = if be bs 0 2 = 2 ∨ be bs 0 2 = 3 then chainsAt bs n 8 else none) := by
  unfold Hid parseAll;rw [hn, Int.toNat_natCast];by_cases hk : be bs 0 2 = 2 ∨ be bs 0 2 = 3
  ·rw [if_pos ⟨by omega, hk⟩, if_pos hk]
  ·rw [if_neg (fun h => hk h.2), if_neg hk]
 have HU1 := Bas.hid U1;have HU2 := Bas.hid U2;have HV := Bas.hid hv;generalize be bs 0 2 = kind at *;clear U1 U2 hn hv;go_enter Tryz.func34, Tryz.ntmps34
 go_wp2_with (fail);have k1 := Bas.heap_new w (.cells #[.slice a len cap] 52);have HB1 := Bas.hid ((Below.refl w.heap.size w).alloc (Nat.le_refl _) (.cells #[.slice a len cap] 52));generalize w.alloc (.cells #[.slice a len cap] 52) = W1 at *;refine' Pl.region_v0 42 [] [0, 1, 2, 3, 4, 5] [] _ (by kernel_rfl) (by kernel_rfl) (by simp) (fun _ _ _ _ e h => ⟨e ▸ h.1, h.2⟩) ?_ ?_
 rotate_left
 ·intro I F hI hF;simp only [Pl.selN, List.nil_append, List.drop_succ_cons, List.drop_zero];have x1 := fun i => hF.cell (heap_lt k1) (cell_of_heap (i := 0) k1 rfl) i
  repeat (go_big_quiet_step ((first | (go_at_call 49; with_reducible exact hF.call (HU1.out _ (hF.on HB1.out _))) | (go_at_call 50; with_reducible exact hF.call (HU2.out _ (hF.on HB1.out _))))))
  refine wpQuiet_nil ?_;rfl
 intro u hu;simp only [Pl.selN];have k2 := (hu.block _ (heap_lt k1)).trans k1;have HB2 := Bas.hid (HB1.out.trans (hu.mono HB1.out.size));clear hu k1 HB1 HU1 HU2;have HU := Bas.hid fun (q : Nat) (w' : World) (hq : q + 4 ≤ len) (hb : Below w.heap.size w w') => (by
  have h := u32_ok a len cap bs (q : Int) w' hl hc (HV.out.below hb) hbl (by omega) (by omega)
  rwa [Int.toNat_natCast] at h : Calls Tryz.prog 50 #[.agg #[.slice a len cap], .int .i64 (q : Int)] w' fun e w'' => e = .returned (.int .i64 (be bs q 4)) ∧ Below w'.heap.size w' w'')
 by_cases hkind : kind = 2 ∨ kind = 3
 ·have q1 : (if kind = 2 ∨ kind = 3 then chainsAt bs n 8 else none) = chainsAt bs n 8 := if_pos hkind
  rw [q1] at HPA;clear q1;rcases hkind with rfl | rfl
  all_goals
   go_wp2_with (go_at_call 51; refine (need_yesb _ _ (by first | rfl | (simp; done) | (simp; omega))).mono ?_; rintro e w' ⟨rfl, rfl⟩)
   go_loopw [5, 6, 20] (fun xo va vc wr => ∃ (k p : Nat) (vo : Value) (cs : List PlaceD) (rs : List (Value × Value)), k ≤ n ∧ vc = .int .i64 k ∧ va = .int .i64 p ∧ vo = xo ∧ p ≤ len ∧ cs.length = k ∧ chainsAt bs n 8 = (chainsAt bs (n - k) p).map (fun l => cs ++ l) ∧
    ChRow wr w.heap.size a vo cs rs ∧ Below w.heap.size w wr ∧ wr.heap[w.heap.size]? = some (.cells #[.slice a len cap] 52 (0, 0))) (fun _ _ vc _ => n - (intOf vc).toNat)
   case atStart => exact ⟨0, 8, _, [], [], Nat.zero_le _, rfl, rfl, rfl, h8, rfl, by simp, chRow_nil _ _ _, HB2.out, k2⟩
   case round =>
    obtain ⟨k, p, vo, cs, rs, hk, rfl, rfl, hvo0, hp, hdl, hsub, hrow, hb, n1⟩ := hrel;rw [← hvo0];clear hvo0;have HSUB := Bas.hid hsub;have HDL := Bas.hid hdl;have HCR := Bas.hid hrow;have HBL := Bas.hid hb;have c1 := cell_of_heap (i := 0) n1 rfl;clear hsub hdl hrow hb k2;by_cases hkn : k < n
    ·have hfail : ¬ (p + 8 ≤ bs.length ∧ 16 ≤ (be bs (p + 4) 4).toNat ∧ p + (be bs (p + 4) 4).toNat ≤ bs.length) → parseAll bs = none := fun hn => by
      rw [HPA.out, HSUB.out, show n - k = (n - k - 1) + 1 by omega, chainsAt, if_neg hn]
      rfl
     have HFAIL := Bas.hid hfail;clear hfail;by_cases f1 : p + 8 ≤ len
     ·have gb := be4_bd bs HV.out.byte (p + 4) (by omega)
      have UP := fun w' hb => HU.out (p + 4) w' (by omega) hb
      obtain ⟨m, hm⟩ : ∃ m : Nat, be bs (p + 4) 4 = m := ⟨(be bs (p + 4) 4).toNat, by omega⟩
      rw [hm] at UP gb;rw [hm, Int.toNat_natCast] at HFAIL;rw [show ((p + 4 : Nat) : Int) = (p : Int) + 4 by omega] at UP
      have HUP := Bas.hid UP;have HM := Bas.hid hm;clear UP hm;have hm32 : m ≤ 4294967295 := by omega
      go_wp2_with (fail);refine (HUP.out _ HBL.out).mono ?_;rintro e w6 ⟨rfl, hb6⟩;have p1 := (hb6.block _ (heap_lt n1)).trans n1;have c1 := cell_of_heap (i := 0) p1 rfl;have HB6 := Bas.hid (HBL.out.trans (hb6.mono HBL.out.size));have HC6 := Bas.hid (chRow_below HCR.out hb6);clear hb6 n1 HUP HCR HBL;by_cases f2 : 16 ≤ m
      ·have d2 : decide ((16 : Int) ≤ (m : Int)) = true := by simp; omega
       go_wp2_with (go_at_call 51; refine (need_yesb _ _ (by first | rfl | (simp; done) | (simp; omega))).mono ?_; rintro e w' ⟨rfl, rfl⟩)
       by_cases f3 : p + m ≤ len
       ·refine (cut_nat a len cap p m _ hl hc f3).mono ?_;rintro e w7 ⟨rfl, hb7⟩;have o1 := (hb7.block _ (heap_lt p1)).trans p1;have HB7 := Bas.hid (HB6.out.trans (hb7.mono HB6.out.size));have HC7 := Bas.hid (chRow_below HC6.out hb7);generalize hS : sub a p m = S;have HVS := Bas.hid ((HV.out.below HB7.out).sub p m (by omega))
        rw [hS] at HVS;have HSS := Bas.hid hS;have hs7 : w.heap.size < w7.heap.size := heap_lt o1;have hbm : ((bs.drop p).take m).length = m := by rw [List.length_take, List.length_drop]; omega
        have hmm : m ≤ maxLen := by unfold maxLen; omega
        have HO := Bas.hid (one_any S m m _ w7 (Nat.le_refl _) hmm HVS.out hbm (by omega))
        clear hb7 p1 c1 HB6 HC6 hS;go_wp2_with (fail);refine HO.out.mono ?_;rintro e w8 ⟨hb8, he⟩;have o8 := (hb8.block _ (heap_lt o1)).trans o1;have HB8 := Bas.hid (HB7.out.trans (hb8.mono HB7.out.size));have HC8 := Bas.hid (chRow_below HC7.out hb8);have hs8 := hb8.size;cases hpo : parseOne ((bs.drop p).take m) with
        | none =>
         rw [hpo] at he;subst he;have HP := Bas.hid hpo;clear hb8 o1 HB7 HC7 HO hpo;go_wp2_with (fail);refine ⟨rfl, HB8.out, ?_⟩;rw [HPA.out, HSUB.out, show n - k = (n - k - 1) + 1 by omega, chainsAt, HM.out, Int.toNat_natCast, if_pos ⟨by omega, f2, by omega⟩, HP.out]
         rfl
        | some c =>
         rw [hpo] at he;obtain ⟨vr, vs, rfl, hr1, hr2⟩ := he;have HP := Bas.hid hpo;have HR1 := Bas.hid (Row.owned_base hr1 (Nat.le_of_lt hs7));have HR2 := Bas.hid (Row.owned_base hr2 (Nat.le_of_lt hs7));obtain ⟨adr, cpr, rfl⟩ := own_slice hr1;obtain ⟨ads, cps, rfl⟩ := own_slice hr2;clear hb8 o1 HB7 HC7 HO hpo hr1 hr2;go_wp2_with (at_builtin; refine Row.fence ?_);refine Row.unfence ?_;have o9 := (Below.heap_alloc w8 (.cells #[.int .u32 c.first, .slice adr c.rules.length cpr, .slice ads c.subs.length cps] 102) _ (heap_lt o8)).trans o8;have k9 := Bas.heap_new w8 (.cells #[.int .u32 c.first, .slice adr c.rules.length cpr, .slice ads c.subs.length cps] 102);have hb9 := (Below.refl w8.heap.size w8).alloc (Nat.le_refl _) (.cells #[.int .u32 c.first, .slice adr c.rules.length cpr, .slice ads c.subs.length cps] 102);have HB9 := Bas.hid (HB8.out.trans (hb9.mono HB8.out.size));have HC9 := Bas.hid (chRow_below HC8.out hb9);have HR1' := Bas.hid (Row.owned_below HR1.out hb9);have HR2' := Bas.hid (Row.owned_below HR2.out hb9);generalize w8.alloc (.cells #[.int .u32 c.first, .slice adr c.rules.length cpr, .slice ads c.subs.length cps] 102) = W9 at *;clear hb9 o8 HB8 HC8 HR1 HR2;have hvo := own_ty HC9.out.own o9 (by decide)
         have hkb : cs.length ≤ 4294967295 := by rw [HDL.out]; omega
         refine (Row.append_any rfl _ _ 98 102 rfl (.agg #[.int .u32 0, .slice none 0 0, .slice none 0 0]) 3 56 Tryz.underlying98 infoC rfl (by decide) w.heap.size vo cs.length _ rfl HC9.out.own (.slice (some ⟨w8.heap.size, 0, none⟩) 1 1) 1 [.int .u32 c.first, .slice adr c.rules.length cpr, .slice ads c.subs.length cps] rfl (leads_heap k9) rfl (by simp; exact ⟨rfl, rfl, rfl⟩) (by unfold maxLen; omega) (by omega) HB9.out.size ?_)
         intro v' w10 hown10 hg10 _;obtain ⟨ad10, cp10, rfl⟩ := own_slice hown10;have z1 := (hg10.block _ (heap_lt o9) (fun e => hvo e.symm)).trans o9
         have HK := Bas.hid fun (e : TypeId) (size n : Nat) (u : Value) (xs : List Value) (he : e ≠ 102) (ho : W9.ownsRow w.heap.size e size u n xs) => Row.owned_keep ho fun g' hg' => hg10.block g' (Row.own_block ho hg').2 (fun e' => own_rows_ne HC9.out.own ho (fun h => he h.symm) e'.symm hg')
         have HCN := Bas.hid (chRow_snoc (c := ⟨c, p, m⟩) HC9.out hown10 HK.out (HK.out _ _ _ _ _ (by decide) HR1'.out) (by rw [HSS.out]; exact HK.out _ _ _ _ _ (by decide) HR2'.out))
         have HB10 := Bas.hid (HB9.out.grown hg10 HB9.out.size (fun g' hg' => (Row.own_block HC9.out.own hg').1))
         clear hown10 hg10 o9 k9 hvo HB9 HC9 HR1' HR2' HK;go_wp2_with (fail);go_roundw
         case rel => exact ⟨k + 1, p + m, _, cs ++ [⟨c, p, m⟩], rs ++ [(.slice adr c.rules.length cpr, .slice ads c.subs.length cps)], by omega, by go_num, by go_num, rfl, f3, by rw [List.length_append, HDL.out]; rfl, by
          rw [HSUB.out, show n - k = (n - (k + 1)) + 1 by omega, chainsAt, HM.out, Int.toNat_natCast, if_pos ⟨by omega, f2, by omega⟩, HP.out]; simp [Option.map_map, Function.comp_def], HCN.out, HB10.out, z1⟩
         case measure => simp [intOf]; omega
       ·refine (cut_no a len cap _ _ _ hl hc (by omega)).mono ?_
        rintro e w7 ⟨rfl, hb7⟩;go_wp2_with (fail);exact ⟨rfl, HB6.out.trans (hb7.mono HB6.out.size), by rw [HFAIL.out (by omega)]⟩
      ·go_wp2_with (go_at_call 51; refine (need_nob _ _ (by first | (simp; done) | (simp; omega))).mono ?_; rintro e w' ⟨rfl, rfl⟩)
       exact ⟨rfl, HB6.out, by rw [HFAIL.out (by omega)]⟩
     ·go_wp2_with (fail);refine (u32_no a len cap _ _ hl hc (by omega)).mono ?_
      rintro e w6 ⟨rfl, hb6⟩;go_wp2_with (fail);exact ⟨rfl, HBL.out.trans (hb6.mono HBL.out.size), by rw [HFAIL.out (by omega)]⟩
    ·have hdone : parseAll bs = some cs := by
      rw [HPA.out, HSUB.out, show n - k = 0 by omega, chainsAt]; simp
     have HD := Bas.hid hdone;obtain ⟨ads, cps, rfl⟩ := own_slice HCR.out.own;clear hdone;go_wp2_with (fail);refine bodyPost_ret (v := .slice ads cs.length cps) (by simp [results, Tryz.results34, go_sem]) rfl ?_
     refine ⟨HBL.out, ?_⟩;rw [HD.out];exact ⟨_, _, rfl, HCR.out⟩
 ·have q1 : (if kind = 2 ∨ kind = 3 then chainsAt bs n 8 else none) = none := if_neg hkind
  rw [q1] at HPA;have e1 : (kind == 2) = false := by simpa using fun h => hkind (.inl h)
  have e2 : (kind == 3) = false := by simpa using fun h => hkind (.inr h)
  go_wp2_with (go_at_call 51; refine (need_nob _ _ (by first | (simp; done) | (simp; omega))).mono ?_; rintro e w' ⟨rfl, rfl⟩)
  exact ⟨rfl, HB2.out, by rw [HPA.out]⟩
set_option maxRecDepth 100000 in
set_option maxHeartbeats 8000000 in
theorem take_short (a : Option Addr) (len cap : Nat) (bs : List Int) (w : World) (hl : len ≤ cap) (hc : cap ≤ maxLen) (hv : VB w a bs) (hbl : bs.length = len) (hsmall : len ≤ 1000000000)
  (h8 : len < 8) :
  Calls Tryz.prog 34 #[.agg #[.slice a len cap]] w (TakeP w a bs) := by
 have HNO : Hid (parseAll bs = none) := by unfold Hid parseAll; rw [if_neg (by omega)]
 have HV := Bas.hid hv;clear hv;go_enter Tryz.func34, Tryz.ntmps34
 go_wp2_with (fail);have k1 := Bas.heap_new w (.cells #[.slice a len cap] 52);have HB1 := Bas.hid ((Below.refl w.heap.size w).alloc (Nat.le_refl _) (.cells #[.slice a len cap] 52));generalize w.alloc (.cells #[.slice a len cap] 52) = W1 at *;by_cases h2 : 2 ≤ len
 ·have U1 := fun (w' : World) (hb : Below w.heap.size w w') => u16_ok a len cap bs 0 w' hl hc (HV.out.below hb) hbl (by omega) (by omega)
  simp only [show Int.toNat 0 = 0 from rfl] at U1
  have HU1 := Bas.hid U1;clear U1;refine' Pl.region_vh 42 [] [0, 1, 2] [] 3 11 [4, 5] _ (fun ch w' => ch = short ∧ Below w.heap.size w w') (by kernel_rfl) (by kernel_rfl) (by kernel_rfl) (by simp) (fun _ _ _ _ e h => ⟨e ▸ h.1, h.2⟩) ?_ ?_ ?_ ?_
  rotate_left
  ·intro I F hI hF;simp only [Pl.selN, List.nil_append, List.drop_succ_cons, List.drop_zero];have x1 := fun i => hF.cell (heap_lt k1) (cell_of_heap (i := 0) k1 rfl) i
   repeat (go_big_quiet_step ((go_at_call 49; with_reducible exact hF.call (HU1.out _ (hF.on HB1.out _)))))
   refine wpQuiet_nil ?_;rfl
  ·simp only [Pl.selN, List.drop_succ_cons, List.drop_zero, List.mem_singleton, forall_eq];intro u hu
   go_simp
   simp only [Pl.valsAt];refine (u32_no a len cap _ u hl hc (by omega)).mono ?_
   rintro e w'' ⟨he, hb⟩;exact .inr ⟨short, he, rfl, HB1.out.trans ((hu.trans (hb.mono hu.size)).mono HB1.out.size)⟩
  ·intro x hx; cases hx
  ·rintro c a' u hd ⟨rfl, hb⟩;exact ⟨hd, hb, by rw [HNO.out]⟩
 ·refine' Pl.region_vh 42 [] [0, 2] [] 1 9 [3, 4, 5] _ (fun ch w' => ch = short ∧ Below w.heap.size w w') (by kernel_rfl) (by kernel_rfl) (by kernel_rfl) (by simp) (fun _ _ _ _ e h => ⟨e ▸ h.1, h.2⟩) ?_ ?_ ?_ ?_
  rotate_left
  ·intro I F hI hF;simp only [Pl.selN, List.nil_append, List.drop_succ_cons, List.drop_zero];have x1 := fun i => hF.cell (heap_lt k1) (cell_of_heap (i := 0) k1 rfl) i
   repeat (go_big_quiet_step (fail))
   refine wpQuiet_nil ?_;rfl
  ·simp only [Pl.selN, List.drop_succ_cons, List.drop_zero, List.mem_singleton, forall_eq];intro u hu
   go_simp
   simp only [Pl.valsAt];refine (u16_no a len cap _ u hl hc (by omega)).mono ?_
   rintro e w'' ⟨he, hb⟩;exact .inr ⟨short, he, rfl, HB1.out.trans ((hu.trans (hb.mono hu.size)).mono HB1.out.size)⟩
  ·intro x hx; cases hx
  ·rintro c a' u hd ⟨rfl, hb⟩;exact ⟨hd, hb, by rw [HNO.out]⟩
theorem take_any (a : Option Addr) (len cap : Nat) (bs : List Int) (w : World) (hl : len ≤ cap) (hc : cap ≤ maxLen) (hv : VB w a bs) (hbl : bs.length = len) (hsmall : len ≤ 1000000000) :
  Calls Tryz.prog 34 #[.agg #[.slice a len cap]] w (TakeP w a bs) := by
 by_cases h8 : 8 ≤ len
 ·have h1 := be4_bd bs hv.byte 4 (by omega)
  exact take_main a len cap bs (be bs 4 4).toNat w hl hc hv hbl hsmall h8 (by omega)
 ·exact take_short a len cap bs w hl hc hv hbl hsmall (by omega)
end Ch
namespace Cov
def bitB (w : Int) (n : Nat) : Bool := w / 2 ^ n % 2 == 1
theorem div_pow (w : Int) (k : Nat) : w / 2 ^ k / 2 = w / 2 ^ (k + 1) := by
 rw [Int.pow_succ, Int.ediv_ediv_of_nonneg (Int.le_of_lt (Int.pow_pos (by omega)))]
set_option maxHeartbeats 400000 in
theorem bit_any (x : Int) (n : Nat) (w : World) (h0 : 0 ≤ x) (h1 : x ≤ 4294967295) (hn : n ≤ 40) :
  Calls Tryz.prog 43 #[.int .u32 x, .int .i64 n] w fun e w' => e = .returned (.bool (bitB x n)) ∧ w = w' := by
 go_enter Tryz.func43, Tryz.ntmps43
 go_wp2;go_loop [0, 5] (fun v i => ∃ k : Nat, k ≤ n ∧ i = .int .i64 k ∧ v = .int .u32 (x / 2 ^ k)) (fun _ i => n - (intOf i).toNat)
 case atStart => exact ⟨0, Nat.zero_le _, rfl, by simp⟩
 case round =>
  obtain ⟨k, hk, rfl, rfl⟩ := hrel;have hb0 : 0 ≤ x / 2 ^ k := Int.ediv_nonneg h0 (Int.le_of_lt (Int.pow_pos (by omega)))
  have hb1 : x / 2 ^ k ≤ 4294967295 := Int.le_trans (Int.ediv_le_self _ h0) h1;have hd := div_pow x k;have HD := Bas.hid hd;clear hd;go_wp2
  ·go_round
   case rel => exact ⟨k + 1, by omega, by go_num, by rw [← HD.out]⟩
   case measure => simp [intOf]; omega
  ·have hkn : k = n := by omega
   subst hkn;go_ret;exact ⟨rfl, rfl⟩
theorem shr1 (x : Int) (k : Nat) (m : Int) (hm : m = ((2 ^ k : Nat) : Int)) (h0 : 0 ≤ x) (h1 : x ≤ 4294967295) : (bits .and .u32 (x / m) 1 == 1) = bitB x k := by
 have h2 : 0 ≤ x / m := Int.ediv_nonneg h0 (by rw [hm]; exact Int.natCast_nonneg _)
 have h3 : x / m ≤ 4294967295 := Int.le_trans (Int.ediv_le_self _ h0) h1;rw [Bas.u32_mask _ 1 1 (by simp) (by omega) h2 h3, hm]
 simp [bitB]
set_option maxHeartbeats 400000 in
theorem ofMorx_any (x : Int) (w : World) (h0 : 0 ≤ x) (h1 : x ≤ 4294967295) :
  Calls Tryz.prog 35 #[.int .u32 x] w fun e w' => e = .returned (.agg #[.int .i64 (x % 256), .bool (bitB x 31), .bool (bitB x 30), .bool (bitB x 29), .bool (bitB x 28)]) ∧ Below w.heap.size w w' := by
 have e0 : wrap64 (bits .and .u32 x 255) = x % 256 := by rw [Bas.u32_mask _ 255 8 (by simp) (by omega) h0 h1]; unfold wrap64; omega
 have e31 := shr1 x 31 2147483648 (by simp) h0 h1
 have e30 := shr1 x 30 1073741824 (by simp) h0 h1
 have e29 := shr1 x 29 536870912 (by simp) h0 h1
 have e28 := shr1 x 28 268435456 (by simp) h0 h1
 go_enter Tryz.func35, Tryz.ntmps35
 go_wp2;exact bodyPost_ret (v := .agg #[.int .i64 (x % 256), .bool (bitB x 31), .bool (bitB x 30), .bool (bitB x 29), .bool (bitB x 28)]) (by simp [results, Tryz.results35, go_sem]) rfl ⟨rfl, (Below.refl _ _).alloc (Nat.le_refl _) _⟩
def isDir (d : Int) : Bool := decide (0 ≤ d) && decide (d ≤ 2)
set_option maxHeartbeats 400000 in
theorem is_any (d : Int) (w : World) :
  Calls Tryz.prog 45 #[.int .i64 d] w fun e w' => e = .returned (.bool (isDir d)) ∧ w = w' := by
 by_cases hd : 0 ≤ d
 ·have hd' : decide (0 ≤ d) = true := by simpa using hd
  go_enter Tryz.func45, Tryz.ntmps45
  go_wp2;go_ret;exact ⟨by simp [isDir, hd], rfl⟩
 ·have hd' : decide (0 ≤ d) = false := by simpa using hd
  go_enter Tryz.func45, Tryz.ntmps45
  go_wp2;go_ret;exact ⟨by simp [isDir]; omega, rfl⟩
theorem is_eq (d : Int) (b : Bool) (hb : isDir d = b) (w : World) :
  Calls Tryz.prog 45 #[.int .i64 d] w fun e w' => e = .returned (.bool b) ∧ w = w' := hb ▸ is_any d w
def fits (v : Bool) (d : Int) : Bool := isDir d && (v == (d == 2))
def runsM (v both : Bool) (d : Int) : Bool := fits v d || both && isDir d
def turnedM (back logical : Bool) (d : Int) : Bool := back != (!logical && d == 1)
set_option maxHeartbeats 400000 in
theorem fits_any (kind : Int) (v back : Bool) (d : Int) (w : World) :
  Calls Tryz.prog 44 #[.agg #[.int .i64 kind, .bool v, .bool back], .int .i64 d] w fun e w' => e = .returned (.bool (fits v d)) ∧ Below w.heap.size w w' := by
 cases hb : isDir d
 all_goals
  go_enter Tryz.func44, Tryz.ntmps44
  go_wp2_with ((go_at_call 45; refine (is_eq _ _ hb _).mono ?_; rintro e w' ⟨rfl, rfl⟩));go_ret;exact ⟨by simp [fits, hb], (Below.refl _ _).alloc (Nat.le_refl _) _⟩
theorem fits_eq (kind : Int) (v back : Bool) (d : Int) (b : Bool) (hb : fits v d = b) (w : World) :
  Calls Tryz.prog 44 #[.agg #[.int .i64 kind, .bool v, .bool back], .int .i64 d] w fun e w' => e = .returned (.bool b) ∧ Below w.heap.size w w' := hb ▸ fits_any kind v back d w
set_option maxHeartbeats 400000 in
theorem mruns_any (kind : Int) (v back both logical : Bool) (d : Int) (w : World) :
  Calls Tryz.prog 28 #[.agg #[.int .i64 kind, .bool v, .bool back, .bool both, .bool logical], .int .i64 d] w fun e w' => e = .returned (.bool (runsM v both d)) ∧ Below w.heap.size w w' := by
 cases hf : fits v d <;> cases hi : isDir d <;> cases both
 all_goals
  go_enter Tryz.func28, Tryz.ntmps28
  go_wp2_with (first | (go_at_call 44; refine (fits_eq _ _ _ _ _ hf _).mono ?_; rintro e w1 ⟨rfl, hb1⟩; obtain ⟨hc1, hf1⟩ := Bas.bcell hb1) | (go_at_call 45; refine (is_eq _ _ hi _).mono ?_; rintro e w' ⟨rfl, rfl⟩));go_ret;exact ⟨by simp [runsM, hf, hi], ((Below.refl _ _).alloc (Nat.le_refl _) _).trans (hb1.mono (by simp))⟩
set_option maxHeartbeats 400000 in
theorem mturned_any (kind : Int) (v back both logical : Bool) (d : Int) (w : World) :
  Calls Tryz.prog 46 #[.agg #[.int .i64 kind, .bool v, .bool back, .bool both, .bool logical], .int .i64 d] w fun e w' => e = .returned (.bool (turnedM back logical d)) ∧ Below w.heap.size w w' := by
 cases logical
 all_goals
  go_enter Tryz.func46, Tryz.ntmps46
  go_wp2;go_ret;exact ⟨by cases back <;> simp [turnedM], ((Below.refl _ _).alloc (Nat.le_refl _) _)⟩
end Cov
namespace Mx
open Vw Ch Lk St Ln Dr Rr Sw Cx In Lg
inductive WkD where
 | rear (M : MachD)
 | ctx (T : CtxD)
 | lig (T : LigD)
 | swap (ps : List PartD)
 | ins (T : InsD)
 | none
def wkParse (kind : Int) (bs : List Int) (gl : Nat) : Option WkD :=
 if kind = 0 then (parseSt bs gl 0).map .rear
 else if kind = 1 then (ctxParse bs gl).map .ctx
 else if kind = 2 then (ligParse bs gl).map .lig
 else if kind = 4 then (parseLk bs gl 2).map .swap
 else if kind = 5 then (insParse bs gl).map .ins
 else some .none
def WkOk : WkD → Prop
 | .rear M => MachOk M
 | .ctx T => CtxOk T
 | .lig T => LigOk T
 | .swap ps => SubOk ps
 | .ins T => InsOk T
 | .none => True
theorem wk_ok {bs : List Int} (hb : ∀ x ∈ bs, 0 ≤ x ∧ x ≤ 255) {kind : Int} {gl : Nat} (h1 : 1 ≤ gl) (h2 : gl ≤ 65536) {k : WkD} (h : wkParse kind bs gl = some k) : WkOk k := by
 unfold wkParse at h;split at h
 ·cases hp : parseSt bs gl 0 with
  | none => rw [hp] at h; cases h
  | some M => rw [hp] at h; cases h; exact parseSt_ok hb h1 h2 hp
 ·split at h
  ·cases hp : ctxParse bs gl with
   | none => rw [hp] at h; cases h
   | some M => rw [hp] at h; cases h; exact ctx_ok hb h1 h2 hp
  ·split at h
   ·cases hp : ligParse bs gl with
    | none => rw [hp] at h; cases h
    | some M => rw [hp] at h; cases h; exact lig_ok hb h1 h2 hp
   ·split at h
    ·cases hp : parseLk bs gl 2 with
     | none => rw [hp] at h; cases h
     | some ps => rw [hp] at h; cases h; exact parseLk_ok hb h1 h2 (by omega) hp
    ·split at h
     ·cases hp : insParse bs gl with
      | none => rw [hp] at h; cases h
      | some M => rw [hp] at h; cases h; exact ins_ok hb h1 h2 hp
     ·cases h; trivial
def PlainAt (w : World) (fv : Value) (K : Nat) (first : Array Value) : Prop :=
 ∃ B, fv = .func (.func 76) #[] #[.pointer (some ⟨B, 0, none⟩)] ∧ w.heap[B]? = some (.cells #[.func (.func K) first #[]] 125 (0, 0))
def WorkAt (w : World) (fv : Value) : WkD → Prop
 | .rear M => ∃ v, PlainAt w fv 56 #[v] ∧ RearAt w v M
 | .ctx T => ∃ v, PlainAt w fv 58 #[v] ∧ CtxAt w v T
 | .lig T => ∃ v, PlainAt w fv 60 #[v] ∧ LigAt w v T
 | .swap ps => ∃ v, PlainAt w fv 62 #[v] ∧ SwapAt w v ps
 | .ins T => ∃ v, fv = .func (.func 64) #[v] #[] ∧ InsAt w v T
 | .none => PlainAt w fv 65 #[]
theorem PlainAt.below {w w' : World} {fv : Value} {K : Nat} {first : Array Value} (h : PlainAt w fv K first) (hb : Below w.heap.size w w') : PlainAt w' fv K first := by
 obtain ⟨B, h1, h2⟩ := h;exact ⟨B, h1, (hb.block _ (heap_lt h2)).trans h2⟩
theorem WorkAt.below {w w' : World} {fv : Value} : ∀ {k : WkD}, WorkAt w fv k → Below w.heap.size w w' → WorkAt w' fv k
 | .rear _, ⟨v, h1, h2⟩, hb => ⟨v, h1.below hb, h2.below hb⟩
 | .ctx _, ⟨v, h1, h2⟩, hb => ⟨v, h1.below hb, h2.below hb⟩
 | .lig _, ⟨v, h1, h2⟩, hb => ⟨v, h1.below hb, h2.below hb⟩
 | .swap _, ⟨v, h1, h2⟩, hb => ⟨v, h1.below hb, h2.below hb⟩
 | .ins _, ⟨v, h1, h2⟩, hb => ⟨v, h1, h2.below hb⟩
 | .none, h, hb => PlainAt.below h hb
def WorkTakeP (w : World) (kind : Int) (a : Option Addr) (bs : List Int) (gl : Nat) (e : Ending) (w' : World) : Prop :=
 Below w.heap.size w w' ∧ match wkParse kind bs gl with
  | none => e = .panicked short
  | some k => ∃ fv, e = .returned fv ∧ Lives w.heap.size (fun u => VB u a bs → WorkAt u fv k) w'
theorem mplain_any (K : Nat) (first : Array Value) (w : World) :
  Calls Tryz.prog 54 #[.func (.func K) first #[]] w fun e w' => e = .returned (.func (.func 76) #[] #[.pointer (some ⟨w.heap.size, 0, none⟩)]) ∧ Below w.heap.size w w' ∧ w'.heap[w.heap.size]? = some (.cells #[.func (.func K) first #[]] 125 (0, 0)) := by
 have hmf : ∀ (fn : Fn) (first cap : Array Value) (w : World), (Instr.makeFunc fn first cap).run Tryz.prog w = .ok (.func fn first cap) w := fun _ _ _ _ => rfl
 have HB := Bas.hid ((Below.refl w.heap.size w).alloc (Nat.le_refl _) (.cells #[.func (.func K) first #[]] 125));have HK := Bas.hid (Bas.heap_new w (.cells #[.func (.func K) first #[]] 125));go_enter Tryz.func54, Tryz.ntmps54
 go_wp2_with (fail);go_ret;exact ⟨rfl, HB.out, HK.out⟩
set_option maxRecDepth 100000 in
set_option maxHeartbeats 8000000 in
theorem workOf_any (kind : Int) (a : Option Addr) (len cap : Nat) (bs : List Int) (gl : Nat) (w : World) (hl : len ≤ cap) (hc : cap ≤ maxLen) (hv : VB w a bs) (hbl : bs.length = len) (hg1 : 1 ≤ gl) (hg2 : gl ≤ 65536) :
  Calls Tryz.prog 36 #[.int .i64 kind, .agg #[.slice a len cap], .int .i64 gl] w (WorkTakeP w kind a bs gl) := by
 have hmf : ∀ (fn : Fn) (first cap : Array Value) (w : World), (Instr.makeFunc fn first cap).run Tryz.prog w = .ok (.func fn first cap) w := fun _ _ _ _ => rfl
 have hb1 := (Below.refl w.heap.size w).alloc (Nat.le_refl _) (.cells #[.slice a len cap] 52);have k1 := Bas.heap_new w (.cells #[.slice a len cap] 52);have HB1 := Bas.hid hb1;have HV1 := Bas.hid (hv.below hb1);have c0 := cell_of_heap (i := 0) k1 rfl;have lk := heap_lt k1;clear hb1 hv;by_cases h0 : kind = 0
 ·subst h0;have HW : Hid (wkParse 0 bs gl = (parseSt bs gl 0).map .rear) := rfl;have HT := Bas.hid (rearTake_any a len cap bs gl _ hl hc HV1.out hbl hg1 hg2);go_enter Tryz.func36, Tryz.ntmps36
  go_wp2_with (fail);generalize w.alloc (.cells #[.slice a len cap] 52) = W1 at *;refine HT.out.mono ?_;rintro e w2 ⟨hb2, h2⟩;have HB2 := Bas.hid (HB1.out.trans (hb2.mono HB1.out.size));clear hb2 HT c0 lk k1;cases hp : parseSt bs gl 0 with
  | none =>
   rw [hp] at h2 HW;simp only at h2;subst h2;clear hp;go_wp2_with (fail);exact ⟨rfl, HB2.out, by rw [HW.out]; rfl⟩
  | some T =>
   rw [hp] at h2 HW;simp only at h2;obtain ⟨v, rfl, hm⟩ := h2;have HM := Bas.hid (hm.mono HB1.out.size);clear hp hm;go_wp2_with (fail);refine (mplain_any 56 #[v] w2).mono ?_;rintro e w3 ⟨rfl, hb3, k3⟩;have HB3 := Bas.hid (HB2.out.trans (hb3.mono HB2.out.size));have HF : Hid (Lives w.heap.size (fun u => VB u a bs → WorkAt u (.func (.func 76) #[] #[.pointer (some ⟨w2.heap.size, 0, none⟩)]) (.rear T)) w3) := fun u hu _ =>
    ⟨v, ⟨_, rfl, lives_heap k3 HB2.out.size u hu⟩, (HM.out.below hb3) u hu⟩
   clear hb3 k3;go_wp2_with (fail);go_ret;exact ⟨HB3.out, by rw [HW.out]; exact ⟨_, rfl, HF.out⟩⟩
 ·skip
  by_cases h1 : kind = 1
  ·subst h1;have HW : Hid (wkParse 1 bs gl = (ctxParse bs gl).map .ctx) := rfl;have HT := Bas.hid (ctxTake_any a len cap bs gl _ hl hc HV1.out hbl hg1 hg2);go_enter Tryz.func36, Tryz.ntmps36
   go_wp2_with (fail);generalize w.alloc (.cells #[.slice a len cap] 52) = W1 at *;refine HT.out.mono ?_;rintro e w2 ⟨hb2, h2⟩;have HB2 := Bas.hid (HB1.out.trans (hb2.mono HB1.out.size));clear hb2 HT c0 lk k1;cases hp : ctxParse bs gl with
   | none =>
    rw [hp] at h2 HW;simp only at h2;subst h2;clear hp;go_wp2_with (fail);exact ⟨rfl, HB2.out, by rw [HW.out]; rfl⟩
   | some T =>
    rw [hp] at h2 HW;simp only at h2;obtain ⟨v, rfl, hm⟩ := h2;have HM := Bas.hid (hm.mono HB1.out.size);clear hp hm;go_wp2_with (fail);refine (mplain_any 58 #[v] w2).mono ?_;rintro e w3 ⟨rfl, hb3, k3⟩;have HB3 := Bas.hid (HB2.out.trans (hb3.mono HB2.out.size));have HF : Hid (Lives w.heap.size (fun u => VB u a bs → WorkAt u (.func (.func 76) #[] #[.pointer (some ⟨w2.heap.size, 0, none⟩)]) (.ctx T)) w3) := fun u hu _ =>
     ⟨v, ⟨_, rfl, lives_heap k3 HB2.out.size u hu⟩, (HM.out.below hb3) u hu⟩
    clear hb3 k3;go_wp2_with (fail);go_ret;exact ⟨HB3.out, by rw [HW.out]; exact ⟨_, rfl, HF.out⟩⟩
  ·skip
   by_cases h2 : kind = 2
   ·subst h2;have HW : Hid (wkParse 2 bs gl = (ligParse bs gl).map .lig) := rfl;have HT := Bas.hid (ligTake_any a len cap bs gl _ hl hc HV1.out hbl hg1 hg2);go_enter Tryz.func36, Tryz.ntmps36
    go_wp2_with (fail);generalize w.alloc (.cells #[.slice a len cap] 52) = W1 at *;refine HT.out.mono ?_;rintro e w2 ⟨hb2, h2⟩;have HB2 := Bas.hid (HB1.out.trans (hb2.mono HB1.out.size));clear hb2 HT c0 lk k1;cases hp : ligParse bs gl with
    | none =>
     rw [hp] at h2 HW;simp only at h2;subst h2;clear hp;go_wp2_with (fail);exact ⟨rfl, HB2.out, by rw [HW.out]; rfl⟩
    | some T =>
     rw [hp] at h2 HW;simp only at h2;obtain ⟨v, rfl, hm⟩ := h2;have HM := Bas.hid (hm.mono HB1.out.size);clear hp hm;go_wp2_with (fail);refine (mplain_any 60 #[v] w2).mono ?_;rintro e w3 ⟨rfl, hb3, k3⟩;have HB3 := Bas.hid (HB2.out.trans (hb3.mono HB2.out.size));have HF : Hid (Lives w.heap.size (fun u => VB u a bs → WorkAt u (.func (.func 76) #[] #[.pointer (some ⟨w2.heap.size, 0, none⟩)]) (.lig T)) w3) := fun u hu hvu =>
      ⟨v, ⟨_, rfl, lives_heap k3 HB2.out.size u hu⟩, (HM.out.below hb3) u hu hvu⟩
     clear hb3 k3;go_wp2_with (fail);go_ret;exact ⟨HB3.out, by rw [HW.out]; exact ⟨_, rfl, HF.out⟩⟩
   ·skip
    by_cases h4 : kind = 4
    ·subst h4;have HW : Hid (wkParse 4 bs gl = (parseLk bs gl 2).map .swap) := rfl;have HT := Bas.hid (swapTake_any a len cap bs gl _ hl hc HV1.out hbl hg1 hg2);go_enter Tryz.func36, Tryz.ntmps36
     go_wp2_with (fail);generalize w.alloc (.cells #[.slice a len cap] 52) = W1 at *;refine HT.out.mono ?_;rintro e w2 ⟨hb2, h2⟩;have HB2 := Bas.hid (HB1.out.trans (hb2.mono HB1.out.size));clear hb2 HT c0 lk k1;cases hp : parseLk bs gl 2 with
     | none =>
      rw [hp] at h2 HW;simp only at h2;subst h2;clear hp;go_wp2_with (fail);exact ⟨rfl, HB2.out, by rw [HW.out]; rfl⟩
     | some T =>
      rw [hp] at h2 HW;simp only at h2;obtain ⟨v, rfl, hm⟩ := h2;have HM := Bas.hid (hm.mono HB1.out.size);clear hp hm;go_wp2_with (fail);refine (mplain_any 62 #[v] w2).mono ?_;rintro e w3 ⟨rfl, hb3, k3⟩;have HB3 := Bas.hid (HB2.out.trans (hb3.mono HB2.out.size));have HF : Hid (Lives w.heap.size (fun u => VB u a bs → WorkAt u (.func (.func 76) #[] #[.pointer (some ⟨w2.heap.size, 0, none⟩)]) (.swap T)) w3) := fun u hu _ =>
       ⟨v, ⟨_, rfl, lives_heap k3 HB2.out.size u hu⟩, (HM.out.below hb3) u hu⟩
      clear hb3 k3;go_wp2_with (fail);go_ret;exact ⟨HB3.out, by rw [HW.out]; exact ⟨_, rfl, HF.out⟩⟩
    ·skip
     by_cases h5 : kind = 5
     ·subst h5;have HW : Hid (wkParse 5 bs gl = (insParse bs gl).map .ins) := rfl;have HT := Bas.hid (insTake_any a len cap bs gl _ hl hc HV1.out hbl hg1 hg2);go_enter Tryz.func36, Tryz.ntmps36
      go_wp2_with (fail);generalize w.alloc (.cells #[.slice a len cap] 52) = W1 at *;refine HT.out.mono ?_;rintro e w2 ⟨hb2, h2⟩;have HB2 := Bas.hid (HB1.out.trans (hb2.mono HB1.out.size));clear hb2 HT c0 lk k1;cases hp : insParse bs gl with
      | none =>
       rw [hp] at h2 HW;simp only at h2;subst h2;clear hp;go_wp2_with (fail);exact ⟨rfl, HB2.out, by rw [HW.out]; rfl⟩
      | some T =>
       rw [hp] at h2 HW;simp only at h2;obtain ⟨v, rfl, hm⟩ := h2;have HM := Bas.hid (hm.mono HB1.out.size);clear hp hm;have HF : Hid (Lives w.heap.size (fun u => VB u a bs → WorkAt u (.func (.func 64) #[v] #[]) (.ins T)) w2) := fun u hu hvu => ⟨v, rfl, HM.out u hu hvu⟩
       go_wp2_with (fail);go_ret;exact ⟨HB2.out, by rw [HW.out]; exact ⟨_, rfl, HF.out⟩⟩
     ·skip
      have e0 : (kind == 0) = false := by simpa using h0
      have e1 : (kind == 1) = false := by simpa using h1
      have e2 : (kind == 2) = false := by simpa using h2
      have e4 : (kind == 4) = false := by simpa using h4
      have e5 : (kind == 5) = false := by simpa using h5
      have HW : Hid (wkParse kind bs gl = some .none) := by unfold Hid wkParse; rw [if_neg h0, if_neg h1, if_neg h2, if_neg h4, if_neg h5]
      clear h0 h1 h2 h4 h5;go_enter Tryz.func36, Tryz.ntmps36
      go_wp2_with (fail);generalize w.alloc (.cells #[.slice a len cap] 52) = W1 at *;refine (mplain_any 65 #[] W1).mono ?_;rintro e w3 ⟨rfl, hb3, k3⟩;have HB3 := Bas.hid (HB1.out.trans (hb3.mono HB1.out.size));have HF : Hid (Lives w.heap.size (fun u => VB u a bs → WorkAt u (.func (.func 76) #[] #[.pointer (some ⟨W1.heap.size, 0, none⟩)]) .none) w3) := fun u hu _ => ⟨_, rfl, lives_heap k3 HB1.out.size u hu⟩
      clear hb3 k3;go_wp2_with (fail);go_ret;exact ⟨HB3.out, by rw [HW.out]; exact ⟨_, rfl, HF.out⟩⟩
def mapOpt {α β : Type} (f : α → Option β) : List α → Option (List β)
 | [] => some []
 | x :: l => (f x).bind fun y => (mapOpt f l).map fun ys => y :: ys
theorem mapOpt_append {α β : Type} (f : α → Option β) : ∀ (l m : List α), mapOpt f (l ++ m) = (mapOpt f l).bind fun ys => (mapOpt f m).map fun zs => ys ++ zs
 | [], m => by simp [mapOpt]
 | x :: l, m => by
  rw [List.cons_append, mapOpt, mapOpt, mapOpt_append f l m];cases f x with
  | none => rfl
  | some y => cases mapOpt f l with
   | none => rfl
   | some ys => cases mapOpt f m <;> rfl
theorem mapOpt_one {α β : Type} (f : α → Option β) (x : α) : mapOpt f [x] = (f x).map fun y => [y] := by
 rw [mapOpt]; cases f x <;> rfl
theorem mapOpt_take {α β : Type} (f : α → Option β) (l : List α) (i : Nat) (x : α) (hx : l[i]? = some x) : mapOpt f (l.take (i + 1)) = (mapOpt f (l.take i)).bind fun ys => (f x).map fun y => ys ++ [y] := by
 rw [List.take_add_one, hx, mapOpt_append, Option.toList_some, mapOpt_one];cases mapOpt f (l.take i) with
 | none => rfl
 | some ys => cases f x <;> rfl
theorem mapOpt_none {α β : Type} (f : α → Option β) (l : List α) (i : Nat) (h : mapOpt f (l.take i) = none) : mapOpt f l = none := by
 rw [← List.take_append_drop i l, mapOpt_append, h]; rfl
theorem mapOpt_len {α β : Type} (f : α → Option β) : ∀ (l : List α) (ys : List β), mapOpt f l = some ys → ys.length = l.length
 | [], ys, h => by simp [mapOpt] at h; subst h; rfl
 | x :: l, ys, h => by
  rw [mapOpt] at h;cases hx : f x with
  | none => rw [hx] at h; cases h
  | some y =>
   rw [hx] at h;cases hl : mapOpt f l with
   | none => rw [hl] at h; cases h
   | some zs =>
    rw [hl] at h;cases h;rw [List.length_cons, List.length_cons, mapOpt_len f l zs hl]
theorem mapOpt_mem {α β : Type} (f : α → Option β) : ∀ (l : List α) (ys : List β), mapOpt f l = some ys → ∀ y ∈ ys, ∃ x ∈ l, f x = some y
 | [], ys, h => by simp [mapOpt] at h; subst h; intro y hy; cases hy
 | x :: l, ys, h => by
  rw [mapOpt] at h;cases hx : f x with
  | none => rw [hx] at h; cases h
  | some y =>
   rw [hx] at h;cases hl : mapOpt f l with
   | none => rw [hl] at h; cases h
   | some zs =>
    rw [hl] at h;cases h;intro q hq;rcases List.mem_cons.1 hq with rfl | hq
    ·exact ⟨x, by simp, hx⟩
    ·obtain ⟨z, hz, hf⟩ := mapOpt_mem f l zs hl q hq;exact ⟨z, by simp [hz], hf⟩
structure MSub where
 cover : Int
 flags : Int
 wk : WkD
structure MChain where
 first : Int
 rules : List RuleD
 subs : List MSub
def subOf (cb : List Int) (gl : Nat) (s : SubD) : Option MSub := (wkParse (s.cover % 256) ((cb.drop (s.at' + 12)).take (s.len - 12)) gl).map fun k => ⟨s.cover, s.flags, k⟩
def chainOf (bs : List Int) (gl : Nat) (p : PlaceD) : Option MChain := (mapOpt (subOf ((bs.drop p.p).take p.size) gl) p.c.subs).map fun l => ⟨p.c.first, p.c.rules, l⟩
def morxParse (bs : List Int) (gl : Nat) : Option (List MChain) := (parseAll bs).bind fun cs => mapOpt (chainOf bs gl) cs
def mSubC (x : MSub × Value) : List Value := [.int .i64 (x.1.cover % 256), .bool (Cov.bitB x.1.cover 31), .bool (Cov.bitB x.1.cover 30), .bool (Cov.bitB x.1.cover 29), .bool (Cov.bitB x.1.cover 28), .int .u32 x.1.flags, x.2]
theorem mSubC_len (x : MSub × Value) : (mSubC x).length = 7 := rfl
def linkC (x : MChain × (Value × Value)) : List Value := [.int .u32 x.1.first, x.2.1, x.2.2]
theorem linkC_len (x : MChain × (Value × Value)) : (linkC x).length = 3 := rfl
def LinkAt (u : World) (c : MChain) (r : Value × Value) : Prop :=
 Row.Leads u r.1 c.rules.length (rulesC c.rules) ∧ ∃ fvs, fvs.length = c.subs.length ∧ Row.Leads u r.2 c.subs.length ((c.subs.zip fvs).flatMap mSubC) ∧
  ∀ (j : Nat) (s : MSub) (f : Value), c.subs[j]? = some s → fvs[j]? = some f → WorkAt u f s.wk
def MorxAt (w : World) (v : Value) (T : List MChain) : Prop :=
 ∃ g vl rs, v = .pointer (some ⟨g, 0, none⟩) ∧ w.heap[g]? = some (.cells #[vl] 79 (0, 0)) ∧ rs.length = T.length ∧ Row.Leads w vl T.length ((T.zip rs).flatMap linkC) ∧
  ∀ (i : Nat) (c : MChain) (r : Value × Value), T[i]? = some c → rs[i]? = some r → LinkAt w c r
theorem LinkAt.below {w w' : World} {c : MChain} {r : Value × Value} (h : LinkAt w c r) (hb : Below w.heap.size w w') : LinkAt w' c r := by
 obtain ⟨h1, fvs, h2, h3, h4⟩ := h;exact ⟨Row.leads_below h1 hb, fvs, h2, Row.leads_below h3 hb, fun j s f hs hf => (h4 j s f hs hf).below hb⟩
theorem MorxAt.below {w w' : World} {v : Value} {T : List MChain} (h : MorxAt w v T) (hb : Below w.heap.size w w') : MorxAt w' v T := by
 obtain ⟨g, vl, rs, h1, h2, h3, h4, h5⟩ := h;exact ⟨g, vl, rs, h1, (hb.block _ (heap_lt h2)).trans h2, h3, Row.leads_below h4 hb, fun i c r hc hr => (h5 i c r hc hr).below hb⟩
structure MorxOk (T : List MChain) : Prop where
 wk : ∀ c ∈ T, ∀ s ∈ c.subs, WkOk s.wk
theorem morx_ok {bs : List Int} (hb : ∀ x ∈ bs, 0 ≤ x ∧ x ≤ 255) {gl : Nat} (h1 : 1 ≤ gl) (h2 : gl ≤ 65536) {T : List MChain} (h : morxParse bs gl = some T) : MorxOk T := by
 unfold morxParse at h;cases hp : parseAll bs with
 | none => rw [hp] at h; cases h
 | some cs =>
  rw [hp] at h;simp only [Option.bind_some] at h;refine ⟨fun c hc s hs => ?_⟩
  obtain ⟨p, _, hf⟩ := mapOpt_mem _ _ _ h c hc;unfold chainOf at hf;cases hm : mapOpt (subOf ((bs.drop p.p).take p.size) gl) p.c.subs with
  | none => rw [hm] at hf; cases hf
  | some l =>
   rw [hm] at hf;cases hf;obtain ⟨q, _, hq⟩ := mapOpt_mem _ _ _ hm s hs;unfold subOf at hq;cases hw : wkParse (q.cover % 256) ((((bs.drop p.p).take p.size).drop (q.at' + 12)).take (q.len - 12)) gl with
   | none => rw [hw] at hq; cases hq
   | some k =>
    rw [hw] at hq;cases hq;exact wk_ok (fun x hx => hb x (List.mem_of_mem_drop (List.mem_of_mem_take (List.mem_of_mem_drop (List.mem_of_mem_take hx))))) h1 h2 hw
def MorxTakeP (w : World) (a : Option Addr) (bs : List Int) (gl : Nat) (e : Ending) (w' : World) : Prop :=
 Below w.heap.size w w' ∧ match morxParse bs gl with
  | none => e = .panicked short
  | some T => ∃ v, e = .returned v ∧ Lives w.heap.size (fun u => VB u a bs → MorxAt u v T) w'
theorem Off_mono {S S' : Nat → Prop} {a : Nat} {P : World → Prop} {w : World} (h : Off S a P w) (hS : ∀ k, S' k → S k) : Off S' a P w := fun u hu => h u fun k h1 h2 h3 => hu k h1 h2 (fun h4 => h3 (hS k h4))
theorem Off_imp {S : Nat → Prop} {a : Nat} {P Q : World → Prop} {w : World} (h : Off S a P w) (hi : ∀ u, P u → Q u) : Off S a Q w := fun u hu => hi u (h u hu)
end Mx
namespace Mx
open Vw Ch Lk St
def SubBd (n : Nat) (s : SubD) : Prop := (0 ≤ s.cover ∧ s.cover ≤ 4294967295) ∧ (0 ≤ s.flags ∧ s.flags ≤ 4294967295) ∧ 12 ≤ s.len ∧ s.at' + s.len ≤ n
theorem subsAt_bd {bs : List Int} (hb : ∀ x ∈ bs, 0 ≤ x ∧ x ≤ 255) : ∀ (k p : Nat) (l : List SubD), subsAt bs k p = some l → l.length = k ∧ ∀ s ∈ l, SubBd bs.length s
 | 0, _, l, h => by simp [subsAt] at h; subst h; exact ⟨rfl, fun s h => by cases h⟩
 | k + 1, p, l, h => by
  rw [subsAt] at h;split at h
  ·rename_i hc
   cases h2 : subsAt bs k (p + (be bs p 4).toNat) with
   | none => rw [h2] at h; cases h
   | some m =>
    rw [h2] at h;cases h;obtain ⟨i1, i2⟩ := subsAt_bd hb k _ m h2;refine ⟨by rw [List.length_cons, i1], fun s hs => ?_⟩
    rcases List.mem_cons.1 hs with rfl | hs
    ·have r1 := be_rng4 hb (p + 4) 4 (by omega)
     have r2 := be_rng4 hb (p + 8) 4 (by omega)
     unfold SubBd;simp only;omega
    ·exact i2 s hs
  ·cases h
theorem parseOne_bd {bs : List Int} (hb : ∀ x ∈ bs, 0 ≤ x ∧ x ≤ 255) {c : ChainD} (h : parseOne bs = some c) : (0 ≤ c.first ∧ c.first ≤ 4294967295) ∧ c.rules.length ≤ 4294967295 ∧ c.subs.length ≤ 4294967295 ∧ (∀ s ∈ c.subs, SubBd bs.length s) := by
 unfold parseOne at h;split at h
 ·cases h2 : subsAt bs (be bs 12 4).toNat (16 + 12 * (be bs 8 4).toNat) with
  | none => rw [h2] at h; cases h
  | some m =>
   rw [h2] at h;cases h;obtain ⟨i1, i2⟩ := subsAt_bd hb _ _ m h2;have r1 := be_rng4 hb 0 4 (by omega)
   have r2 := be_rng4 hb 8 4 (by omega)
   have r3 := be_rng4 hb 12 4 (by omega)
   refine ⟨by omega, by simp only; rw [rulesAt_len]; omega, by simp only; omega, i2⟩
 ·cases h
theorem chainsAt_bd {bs : List Int} : ∀ (k p : Nat) (l : List PlaceD), chainsAt bs k p = some l → l.length = k ∧ ∀ c ∈ l, c.p + c.size ≤ bs.length ∧ parseOne ((bs.drop c.p).take c.size) = some c.c
 | 0, _, l, h => by simp [chainsAt] at h; subst h; exact ⟨rfl, fun c h => by cases h⟩
 | k + 1, p, l, h => by
  rw [chainsAt] at h;split at h
  ·rename_i hc
   cases h1 : parseOne ((bs.drop p).take (be bs (p + 4) 4).toNat) with
   | none => rw [h1] at h; cases h
   | some c =>
    rw [h1] at h;cases h2 : chainsAt bs k (p + (be bs (p + 4) 4).toNat) with
    | none => rw [h2] at h; cases h
    | some m =>
     rw [h2] at h;cases h;obtain ⟨i1, i2⟩ := chainsAt_bd k _ m h2;refine ⟨by rw [List.length_cons, i1], fun c' hc' => ?_⟩
     rcases List.mem_cons.1 hc' with rfl | hc'
     ·exact ⟨hc.2.2, h1⟩
     ·exact i2 c' hc'
  ·cases h
theorem parseAll_bd {bs : List Int} (hb : ∀ x ∈ bs, 0 ≤ x ∧ x ≤ 255) {l : List PlaceD} (h : parseAll bs = some l) : l.length ≤ 4294967295 ∧ ∀ c ∈ l, c.p + c.size ≤ bs.length ∧ (0 ≤ c.c.first ∧ c.c.first ≤ 4294967295) ∧ c.c.rules.length ≤ 4294967295 ∧ c.c.subs.length ≤ 4294967295 ∧ (∀ s ∈ c.c.subs, SubBd c.size s) := by
 unfold parseAll at h;split at h
 ·obtain ⟨h1, h2⟩ := chainsAt_bd _ _ _ h;have h3 := be_rng4 hb 4 4 (by omega)
  refine ⟨by omega, fun c hc => ?_⟩
  obtain ⟨q1, q2⟩ := h2 c hc;have q3 := parseOne_bd (fun x hx => hb x (List.mem_of_mem_drop (List.mem_of_mem_take hx))) q2
  have ql : ((bs.drop c.p).take c.size).length = c.size := by rw [List.length_take, List.length_drop]; omega
  rw [ql] at q3;exact ⟨q1, q3⟩
 ·cases h
end Mx
namespace Mx
open Vw Ch Lk St Ln Dr Rr Sw Cx In Lg
theorem mod_prow {w w' : World} {GT base size n : Nat} {e : TypeId} {v : Value} {xs : List Value} (h : Mod (fun k => k = GT) w w') (ho : w.ownsRow base e size v n xs) (hb : GT < base) : w'.ownsRow base e size v n xs :=
 h.owned ho fun g hg e => by have := (Row.own_block ho hg).1; omega
theorem chain_cells {w : World} {base n : Nat} {v : Value} {cs : List PlaceD} {rs : List (Value × Value)} (h : w.ownsRow base 102 3 v n ((cs.zip rs).flatMap chainC)) {i : Nat} {c : PlaceD} {r : Value × Value} (hc : cs[i]? = some c) (hr : rs[i]? = some r) :
  ∃ b cp, v = .slice (some ⟨b, 0, none⟩) n cp ∧ b < w.heap.size ∧ w.cell? ⟨b, i * 3, none⟩ = some (.int .u32 c.c.first) ∧ w.cell? ⟨b, i * 3 + 1, none⟩ = some r.1 ∧ w.cell? ⟨b, i * 3 + 2, none⟩ = some r.2 := by
 obtain ⟨b, o, cp, hv, hcl⟩ := Row.leads_elem (f := chainC) (m := 3) (x := (c, r)) (fun _ => rfl) (Row.leads_owned h) (List.getElem?_zip_eq_some.2 ⟨hc, hr⟩) (by omega)
 rcases Row.owned_parts h with ⟨h1, _⟩ | ⟨g, cap, h1, _, h2, _⟩
 ·rw [h1] at hv; cases hv
 ·rw [h1] at hv; cases hv;have c0 := hcl 0 _ rfl;have c1 := hcl 1 _ rfl;have c2 := hcl 2 _ rfl;simp only [Nat.zero_add, Nat.add_zero] at c0 c1 c2;exact ⟨_, _, h1, h2, c0, c1, c2⟩
theorem sub_cells {w : World} {base n : Nat} {v : Value} {a : Option Addr} {ss : List SubD} (h : w.ownsRow base 104 3 v n (subsC a ss)) {i : Nat} {s : SubD} (hs : ss[i]? = some s) :
  ∃ b cp, v = .slice (some ⟨b, 0, none⟩) n cp ∧ b < w.heap.size ∧ w.cell? ⟨b, i * 3, none⟩ = some (.int .u32 s.cover) ∧ w.cell? ⟨b, i * 3 + 1, none⟩ = some (.int .u32 s.flags) ∧ w.cell? ⟨b, i * 3 + 2, none⟩ = some (.slice (sub (sub a s.at' s.len) 12 (s.len - 12)) (s.len - 12) (s.len - 12)) := by
 unfold subsC at h;obtain ⟨b, o, cp, hv, hcl⟩ := Row.leads_elem (f := subC a) (m := 3) (fun _ => rfl) (Row.leads_owned h) hs (by omega)
 rcases Row.owned_parts h with ⟨h1, _⟩ | ⟨g, cap, h1, _, h2, _⟩
 ·rw [h1] at hv; cases hv
 ·rw [h1] at hv; cases hv;have c0 := hcl 0 _ rfl;have c1 := hcl 1 _ rfl;have c2 := hcl 2 _ rfl;simp only [Nat.zero_add, Nat.add_zero] at c0 c1 c2;exact ⟨_, _, h1, h2, c0, c1, c2⟩
def mSet (GT : Nat) (vl : Value) (k : Nat) : Prop := k = GT ∨ vl.ownBlock = some k
def mSet2 (GT : Nat) (vl : Value) (T8 : Nat) (vs : Value) (k : Nat) : Prop := mSet GT vl k ∨ k = T8 ∨ vs.ownBlock = some k
theorem infoL : (Tryz.prog.info? 83).map (fun i => (i.zero, i.size, i.bytes)) = some (some (.agg #[.int .u32 0, .slice none 0 0, .slice none 0 0]), 3, 56) := by kernel_rfl
theorem infoMS : (Tryz.prog.info? 91).map (fun i => (i.zero, i.size, i.bytes)) = some (some (.agg #[.int .i64 0, .bool false, .bool false, .bool false, .bool false, .int .u32 0, .nilFunc]), 7, 40) := by kernel_rfl
set_option maxRecDepth 100000 in
set_option maxHeartbeats 16000000 in
theorem morxTake_any (a : Option Addr) (len cap : Nat) (bs : List Int) (gl : Nat) (w : World) (hl : len ≤ cap) (hc : cap ≤ maxLen) (hv : VB w a bs) (hbl : bs.length = len) (hsmall : len ≤ 1000000000) (hg1 : 1 ≤ gl) (hg2 : gl ≤ 65536) :
  Calls Tryz.prog 18 #[.agg #[.slice a len cap], .int .i64 gl] w (MorxTakeP w a bs gl) := by
 have hb1 := ((Below.refl w.heap.size w).alloc (Nat.le_refl _) (.cells #[.slice a len cap] 52)).alloc (by simp) (.cells #[.slice none 0 0] 79)
 have k1 := (Below.heap_alloc (w.alloc (.cells #[.slice a len cap] 52)) (.cells #[.slice none 0 0] 79) w.heap.size (by simp)).trans (Bas.heap_new w (.cells #[.slice a len cap] 52))
 have k2 := Bas.heap_new2 w (.cells #[.slice a len cap] 52) (.cells #[.slice none 0 0] 79);have hsz : ((w.alloc (.cells #[.slice a len cap] 52)).alloc (.cells #[.slice none 0 0] 79)).heap.size = w.heap.size + 1 + 1 := by rw [World.size_alloc, World.size_alloc]
 have HB1 := Bas.hid hb1;have HT := Bas.hid (take_any a len cap bs _ hl hc (hv.below hb1) hbl hsmall);have c0 := cell_of_heap (i := 0) k1 rfl;have lk := heap_lt k1;have HV := Bas.hid hv;have HBY := Bas.hid hv.byte;clear hb1 hv;go_enter Tryz.func18, Tryz.ntmps18
 go_wp2_with (fail);generalize ((w.alloc (.cells #[.slice a len cap] 52)).alloc (.cells #[.slice none 0 0] 79)) = W2 at *;refine HT.out.mono ?_;rintro e w3 ⟨hb3, h3⟩;have HB3 := Bas.hid (HB1.out.trans (hb3.mono HB1.out.size));have kG := (hb3.block _ (heap_lt k2)).trans k2;have hGlt : w.heap.size + 1 < W2.heap.size := heap_lt k2;have hN3 : W2.heap.size ≤ w3.heap.size := hb3.size;clear hb3 HT c0 lk k1 k2;cases hp : parseAll bs with
 | none =>
  rw [hp] at h3;simp only at h3;subst h3;have HNO : Hid (morxParse bs gl = none) := by unfold Hid morxParse; rw [hp]; rfl
  clear hp kG;go_wp2_with (fail);exact ⟨rfl, HB3.out, by rw [HNO.out]⟩
 | some cs =>
  rw [hp] at h3;simp only at h3;obtain ⟨v, rs, rfl, hrow⟩ := h3;have HPY : Hid (morxParse bs gl = mapOpt (chainOf bs gl) cs) := by unfold Hid morxParse; rw [hp]; rfl
  have HROW := Bas.hid hrow;obtain ⟨av, cv, rfl⟩ := own_slice hrow.own;obtain ⟨n, hn⟩ : ∃ n, cs.length = n := ⟨_, rfl⟩;have HN := Bas.hid hn;have hn32 : n ≤ 4294967295 := by rw [← hn]; exact (parseAll_bd HBY.out hp).1
  have HBDS := Bas.hid (parseAll_bd HBY.out hp).2;obtain ⟨GT, hGT⟩ : ∃ GT, w.heap.size + 1 = GT := ⟨_, rfl⟩;have hwG : w.heap.size ≤ GT := by omega
  rw [hGT] at kG hGlt ⊢;have HKG := Bas.hid kG;obtain ⟨N3, hN⟩ : ∃ N3, w3.heap.size = N3 := ⟨_, rfl⟩;have HN3 := Bas.hid hN;rw [hN] at hN3;clear hp hrow hn hGT kG hN hsz;rw [HN.out];go_wp2_with (fail);go_loopw [17] (fun vi wr => ∃ (i : Nat) (T : List MChain) (rA : List (Value × Value)) (vl : Value), i ≤ n ∧ vi = .int .i64 i ∧ mapOpt (chainOf bs gl) (cs.take i) = some T ∧ rA.length = i ∧ wr.heap[GT]? = some (.cells #[vl] 79 (0, 0)) ∧ wr.ownsRow N3 83 3 vl i ((T.zip rA).flatMap linkC) ∧
   (∀ (j : Nat) (c : MChain) (r : Value × Value), T[j]? = some c → rA[j]? = some r → Off (mSet GT vl) w.heap.size (fun u => VB u a bs → LinkAt u c r) wr) ∧ Mod (fun k => k = GT) w3 wr ∧ Below w.heap.size w wr) (fun vi _ => n - (intOf vi).toNat)
  case atStart => exact ⟨0, [], [], .slice none 0 0, Nat.zero_le _, rfl, rfl, rfl, HKG.out, Row.owned_nil _ _ _ _, fun j c r h => by simp at h, Mod.refl _ _, HB3.out⟩
  case round =>
   obtain ⟨i, T, rA, vl, hi, rfl, hpar, hrA, hkg, hvl, hoff, hmod, hbw⟩ := hrel;have HPAR := Bas.hid hpar;have HRA := Bas.hid hrA;have HKG := Bas.hid hkg;have HVL := Bas.hid hvl;have HOFF := Bas.hid hoff;have HMOD := Bas.hid hmod;have HBW := Bas.hid hbw;by_cases hin : i < n
   ·have e1 : decide ((i : Int) < (n : Int)) = true := by simp; omega
    obtain ⟨⟨⟨first, rules, subs⟩, cp0, csz⟩, hci⟩ : ∃ c, cs[i]? = some c := ⟨_, List.getElem?_eq_getElem (by rw [HN.out]; exact hin)⟩
    obtain ⟨⟨vr0, vs0⟩, hri⟩ : ∃ r, rs[i]? = some r := ⟨_, List.getElem?_eq_getElem (by rw [HROW.out.len, HN.out]; exact hin)⟩
    have HNEXT := Bas.hid (mapOpt_take (chainOf bs gl) cs i _ hci);have HNO1 : Hid (chainOf bs gl ⟨⟨first, rules, subs⟩, cp0, csz⟩ = none → morxParse bs gl = none) := fun h => by
     rw [HPY.out];refine mapOpt_none _ _ (i + 1) ?_;rw [HNEXT.out, h];cases mapOpt (chainOf bs gl) (cs.take i) <;> rfl
    have hrow2 := mod_prow hmod HROW.out.own hGlt;obtain ⟨b0, cp1, hvv, lb0, d0, d1, d2⟩ := chain_cells hrow2 hci hri;have hvv2 : (Value.slice av cs.length cv) = .slice (some ⟨b0, 0, none⟩) cs.length cp1 := hvv;cases hvv2;have hrul := HROW.out.rules i _ _ hci hri;have hsub := HROW.out.subs i _ _ hci hri;simp only at d0 d1 d2 hrul hsub;obtain ⟨ar, cr, rfl⟩ := own_slice hrul;obtain ⟨as', csu, rfl⟩ := own_slice hsub;have HRUL := Bas.hid hrul;have HSUB := Bas.hid hsub;obtain ⟨m, hm⟩ : ∃ m, subs.length = m := ⟨_, rfl⟩;have HM := Bas.hid hm;have hbds := HBDS.out _ (List.mem_of_getElem? hci);simp only at hbds;obtain ⟨hcp, _, _, hm32, hsbd⟩ := hbds;rw [hm] at hm32;have HSBD := Bas.hid hsbd;rw [HM.out] at d2;generalize hrl : rules.length = rl at *;have HRL := Bas.hid hrl;clear hrl;have k7 := Bas.heap_new wr (.cells #[.int .u32 first, .slice ar rl cr, .slice as' m csu] 102);have hs7 : (wr.alloc (.cells #[.int .u32 first, .slice ar rl cr, .slice as' m csu] 102)).heap.size = wr.heap.size + 1 := World.size_alloc _ _;have q0 := cell_of_heap (i := 0) k7 rfl;have q1 := cell_of_heap (i := 1) k7 rfl;have q2 := cell_of_heap (i := 2) k7 rfl;have l7 := heap_lt k7;have k7' := (Below.heap_alloc (wr.alloc (.cells #[.int .u32 first, .slice ar rl cr, .slice as' m csu] 102)) (.cells #[.int .u32 first, .slice ar rl cr, .slice none 0 0] 83) wr.heap.size (by omega)).trans k7
    have k8 := Bas.heap_new2 wr (.cells #[.int .u32 first, .slice ar rl cr, .slice as' m csu] 102) (.cells #[.int .u32 first, .slice ar rl cr, .slice none 0 0] 83);have hb8 := ((Below.refl wr.heap.size wr).alloc (Nat.le_refl _) (.cells #[.int .u32 first, .slice ar rl cr, .slice as' m csu] 102)).alloc (by omega) (.cells #[.int .u32 first, .slice ar rl cr, .slice none 0 0] 83)
    have HB8 := Bas.hid hb8;have HK8 := Bas.hid k8;have p2 := cell_of_heap (i := 2) k7' rfl;have lp := heap_lt k7';have hN3w : N3 ≤ wr.heap.size := by rw [← HN3.out]; exact hmod.size
    clear hpar hrA hkg hvl hoff hmod hbw hci hri hrow2 hrul hsub hm hvv hsbd hb8 k8 k7 k7';go_wp2_with (fail);generalize ((wr.alloc (.cells #[.int .u32 first, .slice ar rl cr, .slice as' m csu] 102)).alloc (.cells #[.int .u32 first, .slice ar rl cr, .slice none 0 0] 83)) = W8 at *;obtain ⟨T8, hT8⟩ : ∃ T8, wr.heap.size + 1 = T8 := ⟨_, rfl⟩;have hT8w : wr.heap.size ≤ T8 := by omega
    have hT8n : N3 ≤ T8 := by omega
    rw [hT8] at HK8 ⊢;clear hT8 hs7 q0 q1 q2 l7 p2 lp d0 d1 d2 lb0;obtain ⟨cb, hcb⟩ : ∃ cb, (bs.drop cp0).take csz = cb := ⟨_, rfl⟩;have HCB := Bas.hid hcb;have HCL : Hid (cb.length = csz) := by unfold Hid; rw [← hcb, List.length_take, List.length_drop]; omega
    have HVC := Bas.hid (fun (u : World) (hu : VB u a bs) => (by
     have h := hu.sub cp0 csz (by omega)
     rw [hcb] at h;exact h : VB u (sub a cp0 csz) cb))
    clear hcb;have HCO : Hid (chainOf bs gl ⟨⟨first, rules, subs⟩, cp0, csz⟩ = (mapOpt (subOf cb gl) subs).map fun l => ⟨first, rules, l⟩) := by unfold Hid chainOf; rw [HCB.out]
    have hGN : GT < N3 := by omega
    have HMOD8 : Hid (Mod (fun k => k = GT) w3 W8) := HMOD.out.on HB8.out
    have HBW8 : Hid (Below w.heap.size w W8) := HBW.out.trans (HB8.out.mono HBW.out.size);have HKG8 := Bas.hid ((HB8.out.block _ (heap_lt HKG.out)).trans HKG.out);have HVL8 := Bas.hid (Row.owned_below HVL.out HB8.out);have HOFF8 : Hid (∀ (j : Nat) (c : MChain) (r : Value × Value), T[j]? = some c → rA[j]? = some r → Off (mSet2 GT vl T8 (.slice none 0 0)) w.heap.size (fun u => VB u a bs → LinkAt u c r) W8) := fun j c r hj hr =>
     (HOFF.out j c r hj hr).grow HB8.out.size (fun k _ h2 _ => HB8.out.block k h2) (fun k hk => by
      rcases hk with h | h | h
      ·exact .inl h
      ·exact .inr (by omega)
      ·cases h)
    go_loopw [29] (fun vi wr2 => ∃ (j : Nat) (l : List MSub) (fvs : List Value) (vs : Value), j ≤ m ∧ vi = .int .i64 j ∧ mapOpt (subOf cb gl) (subs.take j) = some l ∧ fvs.length = j ∧ wr2.heap[T8]? = some (.cells #[.int .u32 first, .slice ar rl cr, vs] 83 (0, 0)) ∧ wr2.ownsRow N3 91 7 vs j ((l.zip fvs).flatMap mSubC) ∧
     (∀ (q : Nat) (s : MSub) (f : Value), l[q]? = some s → fvs[q]? = some f → Off (mSet2 GT vl T8 vs) w.heap.size (fun u => VB u a bs → WorkAt u f s.wk) wr2) ∧
     (∀ (q : Nat) (c : MChain) (r : Value × Value), T[q]? = some c → rA[q]? = some r → Off (mSet2 GT vl T8 vs) w.heap.size (fun u => VB u a bs → LinkAt u c r) wr2) ∧
     wr2.heap[GT]? = some (.cells #[vl] 79 (0, 0)) ∧ wr2.ownsRow N3 83 3 vl i ((T.zip rA).flatMap linkC) ∧ Mod (fun k => k = GT) w3 wr2 ∧ Below w.heap.size w wr2 ∧ vs.ownBlock ≠ some T8) (fun vi _ => m - (intOf vi).toNat)
    case atStart => exact ⟨0, [], [], .slice none 0 0, Nat.zero_le _, rfl, rfl, rfl, HK8.out, Row.owned_nil _ _ _ _, fun q s f h => by simp at h, HOFF8.out, HKG8.out, HVL8.out, HMOD8.out, HBW8.out, fun h => by cases h⟩
    case round =>
     obtain ⟨j, l, fvs, vs, hj, rfl, hpl, hfl, hk8, hvs, hwo, hlo, hkg, hvl, hmod, hbw, hne8⟩ := hrel;have HPL := Bas.hid hpl;have HFL := Bas.hid hfl;have HKT := Bas.hid hk8;have HVS := Bas.hid hvs;have HWO := Bas.hid hwo;have HLO := Bas.hid hlo;have HKG2 := Bas.hid hkg;have HVL2 := Bas.hid hvl;have HMOD2 := Bas.hid hmod;have HBW2 := Bas.hid hbw;have HNE8 := Bas.hid hne8;obtain ⟨avs, cvs, rfl⟩ := own_slice hvs;by_cases hjm : j < m
     ·have e2 : decide ((j : Int) < (m : Int)) = true := by simp; omega
      obtain ⟨⟨cover, flags, sat, slen⟩, hsj⟩ : ∃ x, subs[j]? = some x := ⟨_, List.getElem?_eq_getElem (by rw [HM.out]; exact hjm)⟩
      have HNJ := Bas.hid (mapOpt_take (subOf cb gl) subs j _ hsj);have HNO2 : Hid (subOf cb gl ⟨cover, flags, sat, slen⟩ = none → morxParse bs gl = none) := fun h => HNO1.out (by
       rw [HCO.out, mapOpt_none _ _ (j + 1)]
       ·rfl
       ·rw [HNJ.out, h]; cases mapOpt (subOf cb gl) (subs.take j) <;> rfl)
      obtain ⟨⟨hc0, hc1⟩, ⟨hg0, hg1'⟩, h12, hfit⟩ := HSBD.out _ (List.mem_of_getElem? hsj);simp only at hc0 hc1 hg0 hg1' h12 hfit;have hrow3 := mod_prow hmod HSUB.out hGlt;obtain ⟨bS, cpS, hvS, lbS, s0, s1, s2⟩ := sub_cells hrow3 hsj;have hvS2 : (Value.slice as' subs.length csu) = .slice (some ⟨bS, 0, none⟩) subs.length cpS := hvS;cases hvS2;simp only at s0 s1 s2;obtain ⟨dl, hdl⟩ : ∃ dl, slen - 12 = dl := ⟨_, rfl⟩;rw [hdl] at s2;obtain ⟨D, hD⟩ : ∃ D, sub (sub (sub a cp0 csz) sat slen) 12 dl = D := ⟨_, rfl⟩;rw [hD] at s2;obtain ⟨db, hdb⟩ : ∃ db, (cb.drop (sat + 12)).take dl = db := ⟨_, rfl⟩;have HVD := Bas.hid (fun (u : World) (hu : VB u a bs) => (by
       have h := vb_sub_sub (HVC.out u hu) sat slen 12 dl (by rw [HCL.out]; exact hfit) (by omega)
       rw [hD, hdb] at h;exact h : VB u D db))
      have HDL : Hid (db.length = dl) := by unfold Hid; rw [← hdb, List.length_take, List.length_drop, HCL.out]; omega
      have HSO : Hid (subOf cb gl ⟨cover, flags, sat, slen⟩ = (wkParse (cover % 256) db gl).map fun k => ⟨cover, flags, k⟩) := by unfold Hid subOf; simp only; rw [hdl, hdb]
      have hdlm : dl ≤ maxLen := by unfold maxLen; omega
      have kS := Bas.heap_new wr (.cells #[.int .u32 cover, .int .u32 flags, .slice D dl dl] 104);have hbS := (Below.refl wr.heap.size wr).alloc (Nat.le_refl _) (.cells #[.int .u32 cover, .int .u32 flags, .slice D dl dl] 104);have HBS := Bas.hid hbS;have HKS := Bas.hid kS;have t0 := cell_of_heap (i := 0) kS rfl;have lS := heap_lt kS;have HOM := Bas.hid (fun w => Cov.ofMorx_any cover w hc0 hc1)
      clear hpl hfl hk8 hvs hwo hlo hkg hvl hmod hbw hne8 hsj hrow3 hvS hdl hD hdb hbS kS h12 hfit;go_wp2_with (fail);generalize (wr.alloc (.cells #[.int .u32 cover, .int .u32 flags, .slice D dl dl] 104)) = WS at *;refine (HOM.out WS).mono ?_;rintro e w5 ⟨rfl, hb5⟩;have hbr5 : Below wr.heap.size wr w5 := HBS.out.trans (hb5.mono HBS.out.size);have k11 := Bas.heap_new w5 (.cells #[.int .i64 (cover % 256), .bool (Cov.bitB cover 31), .bool (Cov.bitB cover 30), .bool (Cov.bitB cover 29), .bool (Cov.bitB cover 28)] 87);have hb11 := (Below.refl w5.heap.size w5).alloc (Nat.le_refl _) (.cells #[.int .i64 (cover % 256), .bool (Cov.bitB cover 31), .bool (Cov.bitB cover 30), .bool (Cov.bitB cover 29), .bool (Cov.bitB cover 28)] 87);have hbr := hbr5.trans (hb11.mono hbr5.size);have HBR := Bas.hid hbr;have kS5 := (hb11.block _ (heap_lt ((hb5.block _ (heap_lt HKS.out)).trans HKS.out))).trans ((hb5.block _ (heap_lt HKS.out)).trans HKS.out);have kT5 := (hbr.block _ (heap_lt HKT.out)).trans HKT.out;have HK11 := Bas.hid k11;have HKS5 := Bas.hid kS5;have HKT5 := Bas.hid kT5;clear hb5 hbr5 hb11 hbr t0 lS s0 s1 s2 lbS HKS HBS HOM;go_wp2_with (fail);generalize (w5.alloc (.cells #[.int .i64 (cover % 256), .bool (Cov.bitB cover 31), .bool (Cov.bitB cover 30), .bool (Cov.bitB cover 29), .bool (Cov.bitB cover 28)] 87)) = W6 at *;obtain ⟨T11, hT11⟩ : ∃ T11, w5.heap.size = T11 := ⟨_, rfl⟩;rw [hT11] at HK11 ⊢;clear hT11;obtain ⟨T10, hT10⟩ : ∃ T10, wr.heap.size = T10 := ⟨_, rfl⟩;rw [hT10] at HKS5 ⊢;have HT10 := Bas.hid hT10;clear hT10;obtain ⟨RI, RF, Ri, RF0, RFk, RFw⟩ := Pl.fam_of W6 (fun u => u.cell? ⟨T8, 2, none⟩ = some (.slice avs j cvs) ∧ u.heap[T11]? = some (.cells #[.int .i64 (cover % 256), .bool (Cov.bitB cover 31), .bool (Cov.bitB cover 30), .bool (Cov.bitB cover 29), .bool (Cov.bitB cover 28)] 87 (0, 0)) ∧ u.heap[T10]? = some (.cells #[.int .u32 cover, .int .u32 flags, .slice D dl dl] 104 (0, 0))) ⟨cell_of_heap (i := 2) HKT5.out rfl, HK11.out, HKS5.out⟩
      have RFH := Bas.hid RF0;have RhI : Nonempty RI := ⟨Ri⟩;have RFW := Bas.hid RFw;have z0 := fun i => (RFk i).1
      have z1 := fun i => cell_of_heap (i := 0) (v := .int .i64 (cover % 256)) (RFk i).2.1 rfl
      have z2 := fun i => cell_of_heap (i := 1) (v := .bool (Cov.bitB cover 31)) (RFk i).2.1 rfl
      have z3 := fun i => cell_of_heap (i := 2) (v := .bool (Cov.bitB cover 30)) (RFk i).2.1 rfl
      have z4 := fun i => cell_of_heap (i := 3) (v := .bool (Cov.bitB cover 29)) (RFk i).2.1 rfl
      have z5 := fun i => cell_of_heap (i := 4) (v := .bool (Cov.bitB cover 28)) (RFk i).2.1 rfl
      have z6 := fun i => cell_of_heap (i := 1) (v := .int .u32 flags) (RFk i).2.2 rfl
      have z7 := fun i => cell_of_heap (i := 2) (v := .slice D dl dl) (RFk i).2.2 rfl
      clear RF0 RFw RFk;refine Pl.region_plan0 Ri [(true, 0), (true, 1), (true, 2), (true, 3), (true, 4), (true, 5), (true, 6), (true, 7), (true, 8), (true, 9), (true, 10), (false, 11), (true, 12), (false, 13), (false, 14), (true, 15), (false, 16)] [16] (by kernel_rfl) (by kernel_rfl) (fun _ _ _ _ e h => ⟨e ▸ h.1, h.2⟩) RFH.out ?_
      refine Pl.head_sel0 [(true, 0), (true, 1), (true, 2), (true, 3), (true, 4), (true, 5), (true, 6), (true, 7), (true, 8), (true, 9), (true, 10)] (by kernel_rfl) (by kernel_rfl) ?_
      simp only [Pl.sel, List.drop_succ_cons, List.drop_zero];repeat (go_big_quiet_step (fail))
      refine wpQuiet_nil ?_;rw [← RFH.out];clear z0 z1 z2 z3 z4 z5 z6 z7;refine Pl.one_sel (by kernel_rfl) ?_
      intro Q' hQ' hP';simp only [Pl.sel, List.drop_succ_cons, List.drop_zero];go_wp2_with (fail);have hbd : Below W6.heap.size W6 W6.drew := Bas.below_drewN (Below.refl W6.heap.size W6) 1;have hbw6 : Below w.heap.size w W6.drew := HBW2.out.trans ((HBR.out.trans (hbd.mono HBR.out.size)).mono HBW2.out.size);refine (workOf_any (cover % 256) D dl dl db gl W6.drew (Nat.le_refl _) hdlm (HVD.out _ (HV.out.below hbw6)) HDL.out hg1 hg2).mono ?_;rintro e w7 ⟨hb7, h7⟩;have HB7 := Bas.hid (HBR.out.trans ((hbd.trans hb7).mono HBR.out.size));have HBW7 := Bas.hid (hbw6.trans (hb7.mono hbw6.size));have kT7 := ((hbd.trans hb7).block _ (heap_lt HKT5.out)).trans HKT5.out;have k117 := ((hbd.trans hb7).block _ (heap_lt HK11.out)).trans HK11.out;have kS7 := ((hbd.trans hb7).block _ (heap_lt HKS5.out)).trans HKS5.out;have HSZ6 : Hid (wr.heap.size ≤ W6.drew.heap.size) := HBR.out.size;clear hb7 hbd hbw6 HKT5 HK11 HKS5 HBR;cases hwk : wkParse (cover % 256) db gl with
      | none =>
       rw [hwk] at h7;simp only at h7;subst h7;have HNO : Hid (morxParse bs gl = none) := HNO2.out (by rw [HSO.out, hwk]; rfl)
       clear hwk kT7 k117 kS7;go_wp2_with (fail);exact ⟨rfl, HBW7.out, by rw [HNO.out]⟩
      | some wk =>
       rw [hwk] at h7;simp only at h7;obtain ⟨fv, rfl, hlive⟩ := h7;have HLIVE := Bas.hid hlive;have HNX : Hid (mapOpt (subOf cb gl) (subs.take (j + 1)) = some (l ++ [⟨cover, flags, wk⟩])) := by unfold Hid; rw [HNJ.out, HPL.out, HSO.out, hwk]; rfl
       have HKT7 := Bas.hid kT7;have HK117 := Bas.hid k117;have HKS7 := Bas.hid kS7;obtain ⟨fn, fa, fb, hfv⟩ : ∃ fn fa fb, fv = .func (.func fn) fa fb := by
        have h := hlive.now (HVD.out _ (HV.out.below HBW7.out));cases wk with
        | rear M => obtain ⟨_, ⟨_, h1, _⟩, _⟩ := h; exact ⟨_, _, _, h1⟩
        | ctx M => obtain ⟨_, ⟨_, h1, _⟩, _⟩ := h; exact ⟨_, _, _, h1⟩
        | lig M => obtain ⟨_, ⟨_, h1, _⟩, _⟩ := h; exact ⟨_, _, _, h1⟩
        | swap M => obtain ⟨_, ⟨_, h1, _⟩, _⟩ := h; exact ⟨_, _, _, h1⟩
        | ins M => obtain ⟨_, h1, _⟩ := h; exact ⟨_, _, _, h1⟩
        | none => obtain ⟨_, h1, _⟩ := h; exact ⟨_, _, _, h1⟩
       subst hfv;clear hwk hlive;go_wp2_with (fail);refine hQ' _ _ (fun _ _ => RFW.out _ ⟨cell_of_heap (i := 2) kT7 rfl, k117, kS7⟩) ?_
       clear kT7 k117 kS7 hQ' hP' Q';refine Pl.head_sel0 [(true, 12)] (by kernel_rfl) (by kernel_rfl) ?_
       simp only [Pl.sel, List.drop_succ_cons, List.drop_zero];repeat (go_big_quiet_step (fail))
       refine wpQuiet_nil ?_;refine Pl.one_sel (by kernel_rfl) ?_
       intro Q' hQ' hP';simp only [Pl.sel, List.drop_succ_cons, List.drop_zero];go_wp2_with (fail);have k9 := Bas.heap_new w7 (.cells #[.int .i64 (cover % 256), .bool (Cov.bitB cover 31), .bool (Cov.bitB cover 30), .bool (Cov.bitB cover 29), .bool (Cov.bitB cover 28), .int .u32 flags, .func (.func fn) fa fb] 91);have hb9 := (Below.refl w7.heap.size w7).alloc (Nat.le_refl _) (.cells #[.int .i64 (cover % 256), .bool (Cov.bitB cover 31), .bool (Cov.bitB cover 30), .bool (Cov.bitB cover 29), .bool (Cov.bitB cover 28), .int .u32 flags, .func (.func fn) fa fb] 91);have HLD : Hid (Row.Leads (w7.alloc (.cells #[.int .i64 (cover % 256), .bool (Cov.bitB cover 31), .bool (Cov.bitB cover 30), .bool (Cov.bitB cover 29), .bool (Cov.bitB cover 28), .int .u32 flags, .func (.func fn) fa fb] 91)) (.slice (some ⟨w7.heap.size, 0, none⟩) 1 1) 1 [.int .i64 (cover % 256), .bool (Cov.bitB cover 31), .bool (Cov.bitB cover 30), .bool (Cov.bitB cover 29), .bool (Cov.bitB cover 28), .int .u32 flags, .func (.func fn) fa fb]) := leads_heap k9;have HB9 := Bas.hid (HB7.out.trans (hb9.mono HB7.out.size));have HBW9 := Bas.hid (HBW7.out.trans (hb9.mono HBW7.out.size));have kT9 := (hb9.block _ (heap_lt HKT7.out)).trans HKT7.out;have k119 := (hb9.block _ (heap_lt HK117.out)).trans HK117.out;have kS9 := (hb9.block _ (heap_lt HKS7.out)).trans HKS7.out;have HKT9 := Bas.hid kT9;have HK119 := Bas.hid k119;have HKS9 := Bas.hid kS9;have HLIVE9 := Bas.hid (HLIVE.out.below hb9);clear hb9 HKT7 HK117 HKS7 HLIVE HB7 HBW7;refine hQ' _ _ (fun _ _ => RFW.out _ ⟨cell_of_heap (i := 2) kT9 rfl, k119, kS9⟩) ?_
       clear kT9 k119 kS9 hQ' hP' Q' k9;generalize (w7.alloc (.cells #[.int .i64 (cover % 256), .bool (Cov.bitB cover 31), .bool (Cov.bitB cover 30), .bool (Cov.bitB cover 29), .bool (Cov.bitB cover 28), .int .u32 flags, .func (.func fn) fa fb] 91)) = W9 at *;refine Pl.one_sel (by kernel_rfl) ?_
       intro Q' hQ' hP';simp only [Pl.sel, List.drop_succ_cons, List.drop_zero];have HVS9 := Bas.hid (Row.owned_below HVS.out HB9.out);have HN9 : Hid (N3 ≤ W9.heap.size) := Nat.le_trans hT8n (Nat.le_of_lt (heap_lt HKT9.out));have hl7 : (mSubC (⟨cover, flags, wk⟩, .func (.func fn) fa fb)) = [.int .i64 (cover % 256), .bool (Cov.bitB cover 31), .bool (Cov.bitB cover 30), .bool (Cov.bitB cover 29), .bool (Cov.bitB cover 28), .int .u32 flags, .func (.func fn) fa fb] := rfl;refine Row.append_at rfl _ _ 81 91 rfl (.agg #[.int .i64 0, .bool false, .bool false, .bool false, .bool false, .int .u32 0, .nilFunc]) 7 40 Tryz.underlying81 infoMS rfl (by decide) N3 _ j _ rfl HVS9.out (.slice (some ⟨w7.heap.size, 0, none⟩) 1 1) 1 [.int .i64 (cover % 256), .bool (Cov.bitB cover 31), .bool (Cov.bitB cover 30), .bool (Cov.bitB cover 29), .bool (Cov.bitB cover 28), .int .u32 flags, .func (.func fn) fa fb] rfl HLD.out rfl (by simp; exact ⟨rfl, rfl, rfl, rfl, rfl, rfl, rfl⟩) (by unfold maxLen; omega) (by omega) HN9.out ?_
       intro v10 w10 ho10 hg10 _ hat10;obtain ⟨a10, c10, rfl⟩ := own_slice ho10;have HO10 := Bas.hid ho10;have hvlt : ∀ k, Value.ownBlock (.slice avs j cvs) = some k → N3 ≤ k ∧ k < wr.heap.size := fun k hk => Row.own_block HVS.out hk
       have h11r := own_ty HVS9.out HK119.out (by decide)
       have hSr := own_ty HVS9.out HKS9.out (by decide)
       have kT10 := (hg10.block _ (heap_lt HKT9.out) (fun e => HNE8.out e.symm)).trans HKT9.out
       have k1110 := (hg10.block _ (heap_lt HK119.out) (fun e => h11r e.symm)).trans HK119.out
       have kS10 := (hg10.block _ (heap_lt HKS9.out) (fun e => hSr e.symm)).trans HKS9.out
       have hT8lt : T8 < wr.heap.size := heap_lt HKT.out;have hGr : GT < wr.heap.size := heap_lt HKG2.out;have kG10 := (hg10.block _ (Nat.lt_of_lt_of_le hGr HB9.out.size) (fun e => by have := (hvlt GT e.symm).1; omega)).trans ((HB9.out.block _ hGr).trans HKG2.out)
       have hvlne : ∀ k, Value.ownBlock vl = some k → Value.ownBlock (.slice avs j cvs) ≠ some k := fun k hk => own_rows_ne HVL2.out HVS.out (by decide) hk
       have hvl10 := Row.owned_keep (Row.owned_below HVL2.out HB9.out) (w' := w10) fun k hk => hg10.block k (Nat.lt_of_lt_of_le (Row.own_block HVL2.out hk).2 HB9.out.size) (fun e => hvlne k hk e.symm)
       have HMOD10 : Hid (Mod (fun k => k = GT) w3 w10) := (HMOD2.out.on HB9.out).trans (Mod.of_grown (S := fun k => Value.ownBlock (.slice avs j cvs) = some k) hg10 (fun k hk => hk)) (fun k hk hlt => by have := (hvlt k hk).1; have := HN3.out; omega)
       have HBW10 : Hid (Below w.heap.size w w10) := HBW9.out.grown hg10 HBW9.out.size (fun k hk => by have := (hvlt k hk).1; omega)
       have hS' : ∀ k, mSet2 GT vl T8 (.slice a10 (j + 1) c10) k → mSet2 GT vl T8 (.slice avs j cvs) k ∨ W9.heap.size ≤ k := fun k hk => by
        rcases hk with h | h | h
        ·exact .inl (.inl h)
        ·exact .inl (.inr (.inl h))
        ·rcases hat10 with h9 | h9
         ·exact .inl (.inr (.inr (h9.symm.trans h)))
         ·rw [h9] at h; cases h; exact .inr (Nat.le_refl _)
       have hgrow : ∀ {P : World → Prop}, Off (mSet2 GT vl T8 (.slice avs j cvs)) w.heap.size P wr → Off (mSet2 GT vl T8 (.slice a10 (j + 1) c10)) w.heap.size P (w10.setCell ⟨T8, 2, none⟩ (.slice a10 (j + 1) c10)) := fun h => by
        have h1 := h.grow (S' := mSet2 GT vl T8 (.slice a10 (j + 1) c10)) (w' := w10) (Nat.le_trans HB9.out.size hg10.size) (fun k _ h2 h3 => (hg10.block k (Nat.lt_of_lt_of_le h2 HB9.out.size) (fun e => h3 (.inr (.inr e.symm)))).trans (HB9.out.block k h2)) (fun k hk => (hS' k hk).imp id (fun h => Nat.le_trans HB9.out.size h))
        exact h1.grow (by simp [World.setCell]) (fun k _ _ h3 => Below.heap_setCell _ _ _ _ (by exact fun e => h3 (.inr (.inl e)))) (fun k hk => .inl hk)
       have hnew : Off (mSet2 GT vl T8 (.slice a10 (j + 1) c10)) w.heap.size (fun u => VB u a bs → WorkAt u (.func (.func fn) fa fb) wk) (w10.setCell ⟨T8, 2, none⟩ (.slice a10 (j + 1) c10)) := by
        have h0 : Off (mSet2 GT vl T8 (.slice avs j cvs)) w.heap.size (fun u => VB u D db → WorkAt u (.func (.func fn) fa fb) wk) W9 := Off.of_lives HLIVE9.out (Nat.le_trans HBW2.out.size HSZ6.out) (fun k hk => Nat.lt_of_lt_of_le (by
         rcases hk with (h | h) | h | h
         ·omega
         ·exact (Row.own_block HVL2.out h).2
         ·omega
         ·exact (hvlt k h).2) HSZ6.out)
        have h1 := h0.grow (S' := mSet2 GT vl T8 (.slice a10 (j + 1) c10)) (w' := w10) hg10.size (fun k _ h2 h3 => hg10.block k h2 (fun e => h3 (.inr (.inr e.symm)))) hS'
        have h2 := h1.grow (S' := mSet2 GT vl T8 (.slice a10 (j + 1) c10)) (w' := w10.setCell ⟨T8, 2, none⟩ (.slice a10 (j + 1) c10)) (by simp [World.setCell]) (fun k _ _ h3 => Below.heap_setCell _ _ _ _ (by exact fun e => h3 (.inr (.inl e)))) (fun k hk => .inl hk)
        exact Off_imp h2 (fun u h hvu => h (HVD.out u hvu))
       have hll : l.length = j := by
        have h := mapOpt_len _ _ _ HPL.out;rw [List.length_take, HM.out] at h; omega
       have HWO10 : Hid (∀ (q : Nat) (x : MSub) (f : Value), (l ++ [⟨cover, flags, wk⟩])[q]? = some x → (fvs ++ [.func (.func fn) fa fb])[q]? = some f → Off (mSet2 GT vl T8 (.slice a10 (j + 1) c10)) w.heap.size (fun u => VB u a bs → WorkAt u f x.wk) (w10.setCell ⟨T8, 2, none⟩ (.slice a10 (j + 1) c10))) := by
        intro q x f hx hf;by_cases hq : q < j
        ·rw [List.getElem?_append_left (by omega)] at hx
         rw [List.getElem?_append_left (by rw [HFL.out]; exact hq)] at hf
         exact hgrow (HWO.out q x f hx hf)
        ·rw [List.getElem?_append_right (by omega), hll] at hx
         rw [List.getElem?_append_right (by rw [HFL.out]; omega), HFL.out] at hf
         have hq0 : q - j = 0 := by
          have := (List.getElem?_eq_some_iff.1 hx).1;simp at this; omega
         rw [hq0] at hx hf;cases hx;cases hf;exact hnew
       have HLO10 : Hid (∀ (q : Nat) (c : MChain) (r : Value × Value), T[q]? = some c → rA[q]? = some r → Off (mSet2 GT vl T8 (.slice a10 (j + 1) c10)) w.heap.size (fun u => VB u a bs → LinkAt u c r) (w10.setCell ⟨T8, 2, none⟩ (.slice a10 (j + 1) c10))) := fun q c r hc hr => hgrow (HLO.out q c r hc hr)
       have HNE10 : Hid (Value.ownBlock (.slice a10 (j + 1) c10) ≠ some T8) := fun e => by
        rcases hat10 with h9 | h9
        ·exact HNE8.out (h9.symm.trans e)
        ·rw [h9] at e; cases e;have := HB9.out.size; omega
       have HKT11 := Bas.hid (heap_set (i := 2) kT10 (.slice a10 (j + 1) c10));have hGT8 : GT ≠ T8 := by omega
       have HKG11 := Bas.hid ((Below.heap_setCell w10 ⟨T8, 2, none⟩ (.slice a10 (j + 1) c10) GT (by exact hGT8)).trans kG10)
       have HVS11 : Hid ((w10.setCell ⟨T8, 2, none⟩ (.slice a10 (j + 1) c10)).ownsRow N3 91 7 (.slice a10 (j + 1) c10) (j + 1) (((l ++ [(⟨cover, flags, wk⟩ : MSub)]).zip (fvs ++ [Value.func (.func fn) fa fb])).flatMap mSubC)) := by
        have h := Row.owned_keep (w' := w10.setCell ⟨T8, 2, none⟩ (.slice a10 (j + 1) c10)) HO10.out fun k hk => Below.heap_setCell _ _ _ _ (fun e => by have e' : k = T8 := e; subst e'; exact HNE10.out hk)
        unfold Hid;rw [List.zip_append (by rw [hll, HFL.out]), List.flatMap_append]
        exact h
       have HVL11 : Hid ((w10.setCell ⟨T8, 2, none⟩ (.slice a10 (j + 1) c10)).ownsRow N3 83 3 vl i ((T.zip rA).flatMap linkC)) :=
        Row.owned_keep hvl10 fun k hk => Below.heap_setCell _ _ _ _ (fun e => by
         have e' : k = T8 := e;have := (Row.own_block HVL.out hk).2;omega)
       have HMOD11 := Bas.hid (HMOD10.out.set (b := T8) (o := 2) (.slice a10 (j + 1) c10) (.inr (by rw [HN3.out]; exact hT8n)))
       have HBW11 := Bas.hid (HBW10.out.setCell (p := ⟨T8, 2, none⟩) (by show w.heap.size ≤ T8; omega) (.slice a10 (j + 1) c10))
       have HFL11 : Hid ((fvs ++ [Value.func (.func fn) fa fb]).length = j + 1) := by unfold Hid; rw [List.length_append, HFL.out]; rfl
       clear ho10 hg10 hat10 hvlt h11r hSr hGr kG10 hvlne hvl10 hS' hgrow hnew hll HLIVE9 hl7;go_wp2_with (fail);refine hQ' _ _ (fun _ _ => RFW.out _ ⟨cell_of_heap (i := 2) kT10 rfl, k1110, kS10⟩) ?_
       clear hQ' hP' Q' RFW RFH k1110 kS10;refine Pl.head_sel0 [(true, 15)] (by kernel_rfl) (by kernel_rfl) ?_
       simp only [Pl.sel, List.drop_succ_cons, List.drop_zero];repeat (go_big_quiet_step (fail))
       refine wpQuiet_nil ?_;refine Pl.tail_sel [(false, 16)] (by kernel_rfl) (by kernel_rfl) ?_
       simp only [Pl.sel, List.drop_succ_cons, List.drop_zero];have c2 := cell_of_heap (i := 2) kT10 rfl;have f2 := free_of_heap (i := 2) kT10;have l2 := heap_lt kT10;clear kT10;go_wp2_with (fail);go_roundw
       case rel => exact ⟨j + 1, _, _, _, by omega, by go_num, HNX.out, HFL11.out, HKT11.out, HVS11.out, HWO10.out, HLO10.out, HKG11.out, HVL11.out, HMOD11.out, HBW11.out, HNE10.out⟩
       case measure => simp [intOf]; omega
     ·have e2 : decide ((j : Int) < (m : Int)) = false := by simp; omega
      have e2b : decide (j < m) = false := by simp; omega
      have e2c : ¬ (j : Int) < (m : Int) := by omega
      have hjm2 : j = m := by omega
      have HPM : Hid (chainOf bs gl ⟨⟨first, rules, subs⟩, cp0, csz⟩ = some ⟨first, rules, l⟩) := by
       unfold Hid;rw [HCO.out];rw [List.take_of_length_le (by rw [HM.out]; omega)] at hpl
       rw [hpl]; rfl
      have HRUL2 := Bas.hid (mod_prow hmod HRUL.out hGlt);obtain ⟨avl, cvl, rfl⟩ := own_slice hvl;have hll : l.length = j := by
       have h := mapOpt_len _ _ _ HPL.out;rw [List.length_take, HM.out] at h; omega
      have hvsl : ∀ k, Value.ownBlock (.slice avs j cvs) = some k → Value.ownBlock (.slice avl i cvl) ≠ some k := fun k hk => own_rows_ne HVS.out HVL2.out (by decide) hk
      have HLINK : Hid (Off (mSet GT (.slice avl i cvl)) w.heap.size (fun u => VB u a bs → LinkAt u ⟨first, rules, l⟩ (.slice ar rl cr, .slice avs j cvs)) wr) := fun u hu hvu => by
       refine ⟨?_, fvs, HFL.out.trans hll.symm, ?_, fun q x f hx hf => HWO.out q x f hx hf u (fun k h1 h2 h3 => hu k h1 h2 (fun h4 => h3 (.inl h4))) hvu⟩
       ·have h := Row.owned_keep (w' := u) HRUL2.out fun k hk => hu k (by have := (Row.own_block HRUL2.out hk).1; omega) (Row.own_block HRUL2.out hk).2 (fun h4 => by
         have q1 := (Row.own_block HRUL2.out hk).1;have q2 := (Row.own_block HRUL.out hk).2;rcases h4 with h | h
         ·omega
         ·have := (Row.own_block HVL2.out h).1; have := HN3.out; omega)
        have hl := Row.leads_owned h;rw [← HRL.out] at hl;exact HRL.out ▸ hl
       ·have h := Row.owned_keep (w' := u) HVS.out fun k hk => hu k (by have := (Row.own_block HVS.out hk).1; omega) (Row.own_block HVS.out hk).2 (fun h4 => by
         rcases h4 with h | h
         ·have := (Row.own_block HVS.out hk).1; omega
         ·exact hvsl k hk h)
        have hl := Row.leads_owned h;have hj2 : j = l.length := hll.symm;subst hj2;exact hl
      have HLO2 : Hid (∀ (q : Nat) (c : MChain) (r : Value × Value), T[q]? = some c → rA[q]? = some r → Off (mSet GT (.slice avl i cvl)) w.heap.size (fun u => VB u a bs → LinkAt u c r) wr) := fun q c r hc hr => Off_mono (HLO.out q c r hc hr) (fun k hk => .inl hk)
      have HNX : Hid (mapOpt (chainOf bs gl) (cs.take (i + 1)) = some (T ++ [⟨first, rules, l⟩])) := by unfold Hid; rw [HNEXT.out, HPAR.out, HPM.out]; rfl
      clear hpl hfl hk8 hvs hwo hlo hkg hvl hmod hbw hne8 hjm2 hvsl hll;go_wp2_with (fail);obtain ⟨RI, RF, Ri, RF0, RFk, RFw⟩ := Pl.fam_of wr (fun u => u.cell? ⟨GT, 0, none⟩ = some (.slice avl i cvl) ∧ u.heap[T8]? = some (.cells #[.int .u32 first, .slice ar rl cr, .slice avs j cvs] 83 (0, 0))) ⟨cell_of_heap (i := 0) HKG2.out rfl, HKT.out⟩
      have RFH := Bas.hid RF0;have RhI : Nonempty RI := ⟨Ri⟩;have RFW := Bas.hid RFw;have z0 := fun i => (RFk i).1
      have z1 := fun i => cell_of_heap (i := 0) (v := .int .u32 first) (RFk i).2 rfl
      have z2 := fun i => cell_of_heap (i := 1) (v := .slice ar rl cr) (RFk i).2 rfl
      have z3 := fun i => cell_of_heap (i := 2) (v := .slice avs j cvs) (RFk i).2 rfl
      clear RF0 RFw RFk;refine Pl.region_plan0 Ri [(true, 0), (true, 1), (true, 2), (true, 3), (true, 4), (true, 5), (false, 6), (false, 7), (true, 8), (true, 9), (false, 10)] [10] (by kernel_rfl) (by kernel_rfl) (fun _ _ _ _ e h => ⟨e ▸ h.1, h.2⟩) RFH.out ?_
      refine Pl.head_sel0 [(true, 0), (true, 1), (true, 2), (true, 3), (true, 4), (true, 5)] (by kernel_rfl) (by kernel_rfl) ?_
      simp only [Pl.sel, List.drop_succ_cons, List.drop_zero];repeat (go_big_quiet_step (fail))
      refine wpQuiet_nil ?_;rw [← RFH.out];clear z0 z1 z2 z3;refine Pl.one_sel (by kernel_rfl) ?_
      intro Q' hQ' hP';simp only [Pl.sel, List.drop_succ_cons, List.drop_zero];go_wp2_with (fail);have k9 : ((wr.alloc (.cells #[.int .u32 first, .slice ar rl cr, .slice avs j cvs] 83)).drew).heap[wr.heap.size]? = some (.cells #[.int .u32 first, .slice ar rl cr, .slice avs j cvs] 83 (0, 0)) := Bas.heap_new wr (.cells #[.int .u32 first, .slice ar rl cr, .slice avs j cvs] 83);have hb9 : Below wr.heap.size wr ((wr.alloc (.cells #[.int .u32 first, .slice ar rl cr, .slice avs j cvs] 83)).drew) := Bas.below_drewN ((Below.refl wr.heap.size wr).alloc (Nat.le_refl _) (.cells #[.int .u32 first, .slice ar rl cr, .slice avs j cvs] 83)) 1;have HLD : Hid (Row.Leads ((wr.alloc (.cells #[.int .u32 first, .slice ar rl cr, .slice avs j cvs] 83)).drew) (.slice (some ⟨wr.heap.size, 0, none⟩) 1 1) 1 [.int .u32 first, .slice ar rl cr, .slice avs j cvs]) := leads_heap k9;have HB9 := Bas.hid hb9;have kG9 := (hb9.block _ (heap_lt HKG2.out)).trans HKG2.out;have kT9 := (hb9.block _ (heap_lt HKT.out)).trans HKT.out;have HKG9 := Bas.hid kG9;have HKT9 := Bas.hid kT9;clear hb9 k9;refine hQ' _ _ (fun _ _ => RFW.out _ ⟨cell_of_heap (i := 0) kG9 rfl, kT9⟩) ?_
      clear kG9 kT9 hQ' hP' Q';generalize ((wr.alloc (.cells #[.int .u32 first, .slice ar rl cr, .slice avs j cvs] 83)).drew) = W9 at *;refine Pl.one_sel (by kernel_rfl) ?_
      intro Q' hQ' hP';simp only [Pl.sel, List.drop_succ_cons, List.drop_zero];have HVL9 := Bas.hid (Row.owned_below HVL2.out HB9.out);have hGr : GT < wr.heap.size := heap_lt HKG2.out;have HN9 : Hid (N3 ≤ W9.heap.size) := Nat.le_trans hT8n (Nat.le_of_lt (heap_lt HKT9.out));refine Row.append_at rfl _ _ 77 83 rfl (.agg #[.int .u32 0, .slice none 0 0, .slice none 0 0]) 3 56 Tryz.underlying77 infoL rfl (by decide) N3 _ i _ rfl HVL9.out (.slice (some ⟨wr.heap.size, 0, none⟩) 1 1) 1 [.int .u32 first, .slice ar rl cr, .slice avs j cvs] rfl HLD.out rfl (by simp; exact ⟨rfl, rfl, rfl⟩) (by unfold maxLen; omega) (by omega) HN9.out ?_
      intro v10 w10 ho10 hg10 _ hat10;obtain ⟨a10, c10, rfl⟩ := own_slice ho10;have HO10 := Bas.hid ho10;have hvlt : ∀ k, Value.ownBlock (.slice avl i cvl) = some k → N3 ≤ k ∧ k < wr.heap.size := fun k hk => Row.own_block HVL2.out hk
      have hT8r : T8 ≠ T8 ∨ Value.ownBlock (.slice avl i cvl) ≠ some T8 := .inr (fun e => by have := (Row.own_block HVL.out e).2; omega)
      have kT10 := (hg10.block _ (heap_lt HKT9.out) (fun e => hT8r.elim (fun h => h rfl) (fun h => h e.symm))).trans HKT9.out
      have kG10 := (hg10.block _ (heap_lt HKG9.out) (fun e => by have := (hvlt GT e.symm).1; omega)).trans HKG9.out
      have hS' : ∀ k, mSet GT (.slice a10 (i + 1) c10) k → mSet GT (.slice avl i cvl) k ∨ W9.heap.size ≤ k := fun k hk => by
       rcases hk with h | h
       ·exact .inl (.inl h)
       ·rcases hat10 with h9 | h9
        ·exact .inl (.inr (h9.symm.trans h))
        ·rw [h9] at h; cases h; exact .inr (Nat.le_refl _)
      have hgrow : ∀ {P : World → Prop}, Off (mSet GT (.slice avl i cvl)) w.heap.size P wr → Off (mSet GT (.slice a10 (i + 1) c10)) w.heap.size P (w10.setCell ⟨GT, 0, none⟩ (.slice a10 (i + 1) c10)) := fun h => by
       have h1 := h.grow (S' := mSet GT (.slice a10 (i + 1) c10)) (w' := w10) (Nat.le_trans HB9.out.size hg10.size) (fun k _ h2 h3 => (hg10.block k (Nat.lt_of_lt_of_le h2 HB9.out.size) (fun e => h3 (.inr e.symm))).trans (HB9.out.block k h2)) (fun k hk => (hS' k hk).imp id (fun h => Nat.le_trans HB9.out.size h))
       exact h1.grow (by simp [World.setCell]) (fun k _ _ h3 => Below.heap_setCell _ _ _ _ (by exact fun e => h3 (.inl e))) (fun k hk => .inl hk)
      have hTL : T.length = i := by
       have h := mapOpt_len _ _ _ HPAR.out;rw [List.length_take, HN.out] at h; omega
      have HOF10 : Hid (∀ (q : Nat) (c : MChain) (r : Value × Value), (T ++ [⟨first, rules, l⟩])[q]? = some c → (rA ++ [((.slice ar rl cr, .slice avs j cvs) : Value × Value)])[q]? = some r → Off (mSet GT (.slice a10 (i + 1) c10)) w.heap.size (fun u => VB u a bs → LinkAt u c r) (w10.setCell ⟨GT, 0, none⟩ (.slice a10 (i + 1) c10))) := by
       intro q c r hc hr;by_cases hq : q < i
       ·rw [List.getElem?_append_left (by omega)] at hc
        rw [List.getElem?_append_left (by rw [HRA.out]; exact hq)] at hr
        exact hgrow (HLO2.out q c r hc hr)
       ·rw [List.getElem?_append_right (by omega), hTL] at hc
        rw [List.getElem?_append_right (by rw [HRA.out]; omega), HRA.out] at hr
        have hq0 : q - i = 0 := by
         have := (List.getElem?_eq_some_iff.1 hc).1;simp at this; omega
        rw [hq0] at hc hr;cases hc;cases hr;exact hgrow HLINK.out
      have HMOD11 : Hid (Mod (fun k => k = GT) w3 (w10.setCell ⟨GT, 0, none⟩ (.slice a10 (i + 1) c10))) :=
       (((HMOD2.out.on HB9.out).trans (Mod.of_grown (S := fun k => Value.ownBlock (.slice avl i cvl) = some k) hg10 (fun k hk => hk)) (fun k hk hlt => by have := (hvlt k hk).1; have := HN3.out; omega))).set _ (.inl rfl)
      have HBW11 : Hid (Below w.heap.size w (w10.setCell ⟨GT, 0, none⟩ (.slice a10 (i + 1) c10))) :=
       ((HBW2.out.trans (HB9.out.mono HBW2.out.size)).grown hg10 (Nat.le_trans HBW2.out.size HB9.out.size) (fun k hk => by have := (hvlt k hk).1; omega)).setCell (p := ⟨GT, 0, none⟩) hwG _
      have HKG11 := Bas.hid (heap_set (i := 0) kG10 (.slice a10 (i + 1) c10));have HVL11 : Hid ((w10.setCell ⟨GT, 0, none⟩ (.slice a10 (i + 1) c10)).ownsRow N3 83 3 (.slice a10 (i + 1) c10) (i + 1) (((T ++ [(⟨first, rules, l⟩ : MChain)]).zip (rA ++ [((.slice ar rl cr, .slice avs j cvs) : Value × Value)])).flatMap linkC)) := by
       have h := Row.owned_keep (w' := w10.setCell ⟨GT, 0, none⟩ (.slice a10 (i + 1) c10)) HO10.out fun k hk => Below.heap_setCell _ _ _ _ (fun e => by have e' : k = GT := e; have := (Row.own_block HO10.out hk).1; omega)
       unfold Hid;rw [List.zip_append (by rw [hTL, HRA.out]), List.flatMap_append]
       exact h
      have HRA11 : Hid ((rA ++ [((.slice ar rl cr, .slice avs j cvs) : Value × Value)]).length = i + 1) := by unfold Hid; rw [List.length_append, HRA.out]; rfl
      clear ho10 hg10 hat10 hvlt hT8r hGr hS' hgrow hTL;go_wp2_with (fail);refine hQ' _ _ (fun _ _ => RFW.out _ ⟨cell_of_heap (i := 0) kG10 rfl, kT10⟩) ?_
      clear hQ' hP' Q' RFW RFH kT10;refine Pl.head_sel0 [(true, 8), (true, 9)] (by kernel_rfl) (by kernel_rfl) ?_
      simp only [Pl.sel, List.drop_succ_cons, List.drop_zero];repeat (go_big_quiet_step (fail))
      refine wpQuiet_nil ?_;refine Pl.tail_sel [(false, 10)] (by kernel_rfl) (by kernel_rfl) ?_
      simp only [Pl.sel, List.drop_succ_cons, List.drop_zero];have c2 := cell_of_heap (i := 0) kG10 rfl;have f2 := free_of_heap (i := 0) kG10;have l2 := heap_lt kG10;clear kG10;go_wp2_with (fail);go_roundw
      case rel => exact ⟨i + 1, _, _, _, by omega, by go_num, HNX.out, HRA11.out, HKG11.out, HVL11.out, HOF10.out, HMOD11.out, HBW11.out⟩
      case measure => simp [intOf]; omega
   ·have e1 : decide ((i : Int) < (n : Int)) = false := by simp; omega
    have e1b : decide (i < n) = false := by simp; omega
    have e1c : ¬ (i : Int) < (n : Int) := by omega
    have HPF : Hid (morxParse bs gl = some T) := by
     unfold Hid;rw [List.take_of_length_le (by rw [HN.out]; omega)] at hpar
     rw [HPY.out]; exact hpar
    have HTL : Hid (T.length = i) := by unfold Hid; rw [mapOpt_len _ _ _ hpar, List.length_take, HN.out]; omega
    have HFIN : Hid (Lives w.heap.size (fun u => VB u a bs → MorxAt u (.pointer (some ⟨GT, 0, none⟩)) T) wr) := fun u hu hvu =>
     ⟨GT, vl, rA, rfl, lives_heap HKG.out hwG u hu, HRA.out.trans HTL.out.symm, by
      have h := Row.leads_owned (lives_own HVL.out (by omega) u hu)
      have hq : i = T.length := HTL.out.symm;rw [hq] at h;exact h, fun j c r hj hr => (HOFF.out j c r hj hr).lives u hu hvu⟩
    clear hpar hrA hkg hvl hoff hmod hbw;go_wp2_with (fail);go_ret;exact ⟨HBW.out, by rw [HPF.out]; exact ⟨_, rfl, HFIN.out⟩⟩
end Mx
end Go.Proofs.YtoncnjhhdlpliaaGreat
