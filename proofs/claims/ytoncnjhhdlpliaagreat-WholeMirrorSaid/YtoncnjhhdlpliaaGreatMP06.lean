/- Parts of a proof: texts InsActF, InsRun, LigPush, ViewLen, LigEnt, LnJoin, LigStore, LigPerf, LigRun1, LigRun. -/
import Derived.Test.YtoncnjhhdlpliaaGreatMP05
namespace Go.Proofs.YtoncnjhhdlpliaaGreat
open Go.RowKit
namespace In
open Vw Ch Lk St Ln Dr
set_option maxRecDepth 100000 in
set_option maxHeartbeats 32000000 in
theorem actF_any (base g gt R : Nat) (sv : Value) (xs : List Gl) (T : InsD) (mk lf dn pl en0 fl : Int) (aN bN hN mN : Nat) (W0 u : World) (hT : InsAt W0 (.pointer (some ⟨gt, 0, none⟩)) T) (hb0 : Below W0.heap.size W0 u) (hs : ∀ k, blk g sv k ∨ k = R → W0.heap.size ≤ k) (hbase : base ≤ u.heap.size) (hL : LineAt u base g sv xs) (hK : u.heap[R]? = some (insObj gt g ⟨mk, lf, dn, false⟩)) (hI : InsInv 0 ⟨mk, lf, dn, false⟩ xs)
  (hfl : 0 ≤ fl ∧ fl ≤ 65535) (haN : aN ≤ 65535) (hbN : bN ≤ 65535) (hh : hereOf ⟨en0, fl, aN, bN⟩ = hN) (hm : markOf ⟨en0, fl, aN, bN⟩ = mN) (hh31 : hN ≤ 31) (hm31 : mN ≤ 31) (hfa : hN = 0 ∨ 2 * aN + 2 * hN ≤ T.list.length) (hfb : mN = 0 ∨ 2 * bN + 2 * mN ≤ T.list.length) (hpl : 0 ≤ pl ∧ pl ≤ 4398046511104) :
  Calls Tryz.prog 93 #[.pointer (some ⟨R, 0, none⟩), .int .i64 pl, .agg #[.int .i64 en0, .int .i64 fl, .int .i64 aN, .int .i64 bN]] u (ActI u base g gt sv R (insF T ⟨mk, lf, dn, false⟩ xs pl ⟨en0, fl, aN, bN⟩)) := by
 obtain ⟨RES, hRES⟩ : ∃ r, insF T ⟨mk, lf, dn, false⟩ xs pl ⟨en0, fl, aN, bN⟩ = r := ⟨_, rfl⟩;rw [hRES];have HRES := Bas.hid hRES;clear hRES;have k1 := Bas.heap_new u (.cells #[.int .i64 en0, .int .i64 fl, .int .i64 aN, .int .i64 bN] 162);have hb1 := (Below.refl u.heap.size u).alloc (Nat.le_refl _) (.cells #[.int .i64 en0, .int .i64 fl, .int .i64 aN, .int .i64 bN] 162);have HCN := Bas.hid (counts_any en0 fl aN bN (u.alloc (.cells #[.int .i64 en0, .int .i64 fl, .int .i64 aN, .int .i64 bN] 162)) hfl.1 hfl.2);rw [hh, hm] at HCN;have HT := Bas.hid hT;have HB0 := Bas.hid hb0;have HSET := Bas.hid hs;have HHH := Bas.hid hh;have HMM := Bas.hid hm;have HFA := Bas.hid hfa;have HFB := Bas.hid hfb;have HI0 := Bas.hid hI;have HS1 : Hid (LvI u base g gt sv R ⟨mk, lf, dn, false⟩ xs (u.alloc (.cells #[.int .i64 en0, .int .i64 fl, .int .i64 aN, .int .i64 bN] 162))) := LvI.on ⟨sv, hL, hK, Mod.refl _ _, fun k hk => .inl hk⟩ hb1
 have HE1 := Bas.hid k1;have q0 := cell_of_heap (i := 0) k1 rfl;have q1 := cell_of_heap (i := 1) k1 rfl;have q2 := cell_of_heap (i := 2) k1 rfl;have q3 := cell_of_heap (i := 3) k1 rfl;have lq := heap_lt k1;clear hT hb0 hs hL hK hI hh hm hfa hfb k1 hb1;go_enter Tryz.func93, Tryz.ntmps93
 go_wp2_with (fail);generalize (u.alloc (.cells #[.int .i64 en0, .int .i64 fl, .int .i64 aN, .int .i64 bN] 162)) = W1 at *;obtain ⟨E, hE⟩ : ∃ E, u.heap.size = E := ⟨_, rfl⟩;rw [hE] at HE1 ⊢;clear hE q0 q1 q2 q3 lq;refine HCN.out.mono ?_;rintro e wA ⟨rfl, hb2⟩;have HSA := Bas.hid (HS1.out.on hb2);have HEA := Bas.hid ((hb2.block _ (heap_lt HE1.out)).trans HE1.out);clear hb2 HCN HS1 HE1;have hRA : wA.heap[R]? = some (insObj gt g ⟨mk, lf, dn, false⟩) := by obtain ⟨_, _, h, _⟩ := id HSA.out; exact h
 have p5 := cell_of_heap (i := 5) (v := .bool false) hRA rfl;have p2 := cell_of_heap (i := 2) (v := .int .i64 mk) hRA rfl;have lp := heap_lt hRA;clear hRA;by_cases hc : mN = 0
 focus
  have f0 : decide ((0 : Int) < (mN : Int)) = false := by simp; omega
  have f1 : ¬ (0 : Int) < (mN : Int) := by omega
  have HIA := Bas.hid HI0.out;have HRA : Hid (RES = ins2 T ⟨en0, fl, aN, bN⟩ ⟨mk, lf, dn, false⟩ xs pl) := by
   unfold Hid;rw [← HRES.out];unfold insF;rw [if_neg (by simp), if_neg (by rw [HMM.out]; rintro ⟨h, _⟩; exact f1 h)]
  have hkA : wA.heap[R]? = some (insObj gt g ⟨mk, lf, dn, false⟩) := by obtain ⟨_, _, h, _⟩ := id HSA.out; exact h
  have c1 := cell_of_heap (i := 1) (v := .pointer (some ⟨g, 0, none⟩)) hkA rfl;clear hkA;go_wp2_with (fail);clear c1 p2 p5 lp f0;obtain ⟨mkA, hmkA⟩ : ∃ m, m = mk := ⟨_, rfl⟩;rw [← hmkA] at HSA HIA HRA;obtain ⟨lfA, hlfA⟩ : ∃ m, m = lf := ⟨_, rfl⟩;rw [← hlfA] at HSA HIA HRA;obtain ⟨dnA, hdnA⟩ : ∃ m, m = dn := ⟨_, rfl⟩;rw [← hdnA] at HSA HIA HRA;obtain ⟨xsA, hxsA⟩ : ∃ y, y = xs := ⟨_, rfl⟩;rw [← hxsA] at HSA HIA HRA;obtain ⟨iA, hiA⟩ : ∃ m, m = pl := ⟨_, rfl⟩;rw [← hiA] at HRA ⊢;have hX : 0 ≤ iA := by omega
  have hiB : 0 ≤ iA ∧ iA ≤ 4398046512000 := by omega
  clear hmkA hlfA hdnA hiA hxsA 
 rotate_left
 have hcN : 0 < mN := by omega
 by_cases hc2 : mk < 0
 focus
  have f0 : decide ((0 : Int) < (mN : Int)) = true := by simp; omega
  have f1 : decide (0 ≤ mk) = false := by simp; omega
  have f2 : ¬ 0 ≤ mk := by omega
  have HIA := Bas.hid HI0.out;have HRA : Hid (RES = ins2 T ⟨en0, fl, aN, bN⟩ ⟨mk, lf, dn, false⟩ xs pl) := by
   unfold Hid;rw [← HRES.out];unfold insF;rw [if_neg (by simp), if_neg (fun h => f2 h.2)]
  have hkA : wA.heap[R]? = some (insObj gt g ⟨mk, lf, dn, false⟩) := by obtain ⟨_, _, h, _⟩ := id HSA.out; exact h
  have c1 := cell_of_heap (i := 1) (v := .pointer (some ⟨g, 0, none⟩)) hkA rfl;clear hkA;go_wp2_with (fail);clear c1 p2 p5 lp f0;obtain ⟨mkA, hmkA⟩ : ∃ m, m = mk := ⟨_, rfl⟩;rw [← hmkA] at HSA HIA HRA;obtain ⟨lfA, hlfA⟩ : ∃ m, m = lf := ⟨_, rfl⟩;rw [← hlfA] at HSA HIA HRA;obtain ⟨dnA, hdnA⟩ : ∃ m, m = dn := ⟨_, rfl⟩;rw [← hdnA] at HSA HIA HRA;obtain ⟨xsA, hxsA⟩ : ∃ y, y = xs := ⟨_, rfl⟩;rw [← hxsA] at HSA HIA HRA;obtain ⟨iA, hiA⟩ : ∃ m, m = pl := ⟨_, rfl⟩;rw [← hiA] at HRA ⊢;have hX : mkA < 0 := by omega
  have hiB : 0 ≤ iA ∧ iA ≤ 4398046512000 := by omega
  clear hmkA hlfA hdnA hiA hxsA 
 rotate_left
 have hc2 : 0 ≤ mk := by omega
 by_cases hc3 : fl / 1024 % 2 = 1
 focus
  have f0 : decide ((0 : Int) < (mN : Int)) = true := by simp; omega
  have f1 : decide (0 ≤ mk) = true := by simpa using hc2
  have hq1 : bits .and .i64 fl 1024 = 1024 := by rw [Dr.flag_32 fl 10 1024 rfl (by omega) hfl.1 (by omega)]; exact if_pos hc3
  have p4 := cell_of_heap (i := 3) (v := .int .i64 bN) HEA.out rfl;have p6 := cell_of_heap (i := 1) (v := .int .i64 fl) HEA.out rfl;have lp4 := heap_lt HEA.out;have hmk := HI0.out.1;have hxl := HI0.out.2.2.2.2.1;have hlf0 := HI0.out.2.1;have hdn0 := HI0.out.2.2.1;have hld0 := HI0.out.2.2.2.1;simp only at hmk hxl hlf0 hdn0 hld0;have HMKI : Hid (insMk ⟨en0, fl, aN, bN⟩ ⟨mk, lf, dn, false⟩ = mk) := if_pos hc3;go_wp2_with (fail);refine (put_lv T (mk) bN mN W0 E _ HSA.out HT.out HB0.out HSET.out hbase HI0.out hbN hm31 (by have h := HFB.out; omega) HEA.out).mono ?_
  rintro e w3 ⟨rfl, hs3, he3⟩;clear p2 p4 p5 p6 lp lp4;have HRF : Hid (RES = if (putI T ⟨mk, lf, dn, false⟩ xs (mk) bN mN).2.2 = false then ((putI T ⟨mk, lf, dn, false⟩ xs (mk) bN mN).1, (putI T ⟨mk, lf, dn, false⟩ xs (mk) bN mN).2.1, pl, pl + 1)
    else ins2 T ⟨en0, fl, aN, bN⟩ (bump (putI T ⟨mk, lf, dn, false⟩ xs (mk) bN mN).1 (mk) mN) (putI T ⟨mk, lf, dn, false⟩ xs (mk) bN mN).2.1 (if (mk : Int) ≤ pl then pl + mN else pl)) := by
   unfold Hid;rw [← HRES.out];unfold insF;rw [if_neg (by simp), HMM.out, if_pos ⟨by omega, hc2⟩, HMKI.out]
   rfl
  by_cases hlt : lf < mN
  ·have HPU : Hid (putI T ⟨mk, lf, dn, false⟩ xs (mk) bN mN = (⟨mk, lf, dn, true⟩, xs, false)) := if_pos hlt;rw [HPU.out] at hs3 HRF;have HFIN : Hid (ActI u base g gt sv R RES (.returned (.tuple #[.int .i64 pl, .int .i64 (pl + 1)])) w3) := by
    unfold Hid ActI; rw [HRF.out]; exact ⟨rfl, hs3⟩
   rw [HPU.out];clear hs3 he3;go_wp2_with (fail)
   go_ret2
   exact HFIN.out
  obtain ⟨ok, hok⟩ : ∃ b, (decide (0 ≤ (mk : Int)) && decide ((mk : Int) ≤ (xs.length : Int))) = b := ⟨_, rfl⟩;have HPU : Hid (putI T ⟨mk, lf, dn, false⟩ xs (mk) bN mN = (⟨mk, lf - mN, dn + mN, false⟩, insL xs (mk) (glyL T.list bN mN), ok)) := by unfold Hid putI; rw [if_neg hlt, hok]
  have hpi := putI_inv (T := T) (place := mk) (a := bN) (n := mN) HI0.out;rw [HPU.out] at hs3 HRF hpi;rw [HPU.out];clear hok;by_cases hokb : ok = false
  ·subst hokb;have HFIN : Hid (ActI u base g gt sv R RES (.returned (.tuple #[.int .i64 pl, .int .i64 (pl + 1)])) w3) := by
    unfold Hid ActI; rw [HRF.out]; exact ⟨rfl, hs3⟩
   clear hs3 he3 hpi;go_wp2_with (fail)
   go_ret2
   exact HFIN.out
  obtain rfl : ok = true := by simpa using hokb
  obtain ⟨hpi1, hpi2⟩ := hpi;obtain ⟨hpi3, hpi4, hpi5, hpi6⟩ := hpi2 rfl;rw [if_neg (by simp)] at HRF
  have HBI := Bas.hid (bump_inv (xs := xs) (place := mk) hpi1 hpi3 (by exact hmk.2))
  have hR3 : w3.heap[R]? = some (insObj gt g ⟨mk, lf - mN, dn + mN, false⟩) := by obtain ⟨_, _, h, _⟩ := id hs3; exact h
  have HERN3 : Hid (E ≠ R) := fun e => by
   rw [e, hR3] at he3;injection he3 with he3; injection he3 with _ he3 _; exact absurd he3 (by decide)
  have HS3 := Bas.hid hs3;have HE3 := Bas.hid he3;have r2 := cell_of_heap (i := 2) (v := .int .i64 mk) hR3 rfl;have r1 := cell_of_heap (i := 1) (v := .pointer (some ⟨g, 0, none⟩)) hR3 rfl;have g2 := free_of_heap (i := 2) hR3;have lR3 := heap_lt hR3;obtain ⟨xsA, hxsA⟩ : ∃ y, insL xs (mk) (glyL T.list bN mN) = y := ⟨_, rfl⟩;rw [hxsA] at HRF HBI HS3;clear hs3 he3 hpi1 hpi3 hpi4 hpi5 hpi6 hpi2 hR3 hxsA HPU HSA HEA hokb hlt;have e7 : decide (mk ≤ mk) = true := by simp
  have HBU : Hid (bump ⟨mk, lf - mN, dn + mN, false⟩ mk mN = ⟨mk + mN, lf - mN, dn + mN, false⟩) := if_pos (Int.le_refl _);rw [HBU.out] at HRF HBI;have HSA := Bas.hid (HS3.out.set (mk + mN));have HEA : Hid ((w3.setCell ⟨R, 2, none⟩ (.int .i64 (mk + mN))).heap[E]? = some (.cells #[.int .i64 en0, .int .i64 fl, .int .i64 aN, .int .i64 bN] 162 (0, 0))) := (Below.heap_setCell _ _ _ _ (by exact HERN3.out)).trans HE3.out
  have hkA : (w3.setCell ⟨R, 2, none⟩ (.int .i64 (mk + mN))).heap[R]? = some (insObj gt g ⟨mk + mN, lf - mN, dn + mN, false⟩) := by obtain ⟨_, _, h, _⟩ := id HSA.out; exact h
  have c1 := cell_of_heap (i := 1) (v := .pointer (some ⟨g, 0, none⟩)) hkA rfl;clear hkA;have HIA := Bas.hid HBI.out;by_cases hple : (mk : Int) ≤ pl
  focus
   have e9 : decide ((mk : Int) ≤ pl) = true := by simpa using hple
   have HRA : Hid (RES = ins2 T ⟨en0, fl, aN, bN⟩ ⟨mk + mN, lf - mN, dn + mN, false⟩ xsA (pl + mN)) := by
    have h := HRF.out;rw [if_pos hple] at h;exact h
   go_wp2_with (fail);clear c1 r1 r2 g2 lR3 HRF HS3 HBI
   obtain ⟨wA, hwA⟩ : ∃ w, w3.setCell ⟨R, 2, none⟩ (.int .i64 (mk + mN)) = w := ⟨_, rfl⟩;rw [hwA] at HSA HEA ⊢;obtain ⟨mkA, hmkA⟩ : ∃ m, mk + (mN : Int) = m := ⟨_, rfl⟩;rw [hmkA] at HSA HIA HRA;obtain ⟨lfA, hlfA⟩ : ∃ m, lf - (mN : Int) = m := ⟨_, rfl⟩;rw [hlfA] at HSA HIA HRA;obtain ⟨dnA, hdnA⟩ : ∃ m, dn + (mN : Int) = m := ⟨_, rfl⟩;rw [hdnA] at HSA HIA HRA;obtain ⟨iA, hiA⟩ : ∃ m, pl + (mN : Int) = m := ⟨_, rfl⟩;rw [hiA] at HRA ⊢;have hX : mkA ≤ iA := by omega
   have hiB : 0 ≤ iA ∧ iA ≤ 4398046512000 := by omega
   clear hmkA hlfA hdnA hiA  hwA
  rotate_left
  focus
   have e9 : decide ((mk : Int) ≤ pl) = false := by simpa using hple
   have HRA : Hid (RES = ins2 T ⟨en0, fl, aN, bN⟩ ⟨mk + mN, lf - mN, dn + mN, false⟩ xsA (pl)) := by
    have h := HRF.out;rw [if_neg hple] at h;exact h
   go_wp2_with (fail);clear c1 r1 r2 g2 lR3 HRF HS3 HBI
   obtain ⟨wA, hwA⟩ : ∃ w, w3.setCell ⟨R, 2, none⟩ (.int .i64 (mk + mN)) = w := ⟨_, rfl⟩;rw [hwA] at HSA HEA ⊢;obtain ⟨mkA, hmkA⟩ : ∃ m, mk + (mN : Int) = m := ⟨_, rfl⟩;rw [hmkA] at HSA HIA HRA;obtain ⟨lfA, hlfA⟩ : ∃ m, lf - (mN : Int) = m := ⟨_, rfl⟩;rw [hlfA] at HSA HIA HRA;obtain ⟨dnA, hdnA⟩ : ∃ m, dn + (mN : Int) = m := ⟨_, rfl⟩;rw [hdnA] at HSA HIA HRA;obtain ⟨iA, hiA⟩ : ∃ m, m = pl := ⟨_, rfl⟩;rw [← hiA] at HRA ⊢;have hX : iA < mkA := by omega
   have hiB : 0 ≤ iA ∧ iA ≤ 4398046512000 := by omega
   clear hmkA hlfA hdnA hiA  hwA
  rotate_left
 rotate_left 2
 focus
  have f0 : decide ((0 : Int) < (mN : Int)) = true := by simp; omega
  have f1 : decide (0 ≤ mk) = true := by simpa using hc2
  have hq1 : bits .and .i64 fl 1024 = 0 := by rw [Dr.flag_32 fl 10 1024 rfl (by omega) hfl.1 (by omega)]; exact if_neg hc3
  have p4 := cell_of_heap (i := 3) (v := .int .i64 bN) HEA.out rfl;have p6 := cell_of_heap (i := 1) (v := .int .i64 fl) HEA.out rfl;have lp4 := heap_lt HEA.out;have hmk := HI0.out.1;have hxl := HI0.out.2.2.2.2.1;have hlf0 := HI0.out.2.1;have hdn0 := HI0.out.2.2.1;have hld0 := HI0.out.2.2.2.1;simp only at hmk hxl hlf0 hdn0 hld0;have HMKI : Hid (insMk ⟨en0, fl, aN, bN⟩ ⟨mk, lf, dn, false⟩ = mk + 1) := if_neg hc3;go_wp2_with (fail);refine (put_lv T (mk + 1) bN mN W0 E _ HSA.out HT.out HB0.out HSET.out hbase HI0.out hbN hm31 (by have h := HFB.out; omega) HEA.out).mono ?_
  rintro e w3 ⟨rfl, hs3, he3⟩;clear p2 p4 p5 p6 lp lp4;have HRF : Hid (RES = if (putI T ⟨mk, lf, dn, false⟩ xs (mk + 1) bN mN).2.2 = false then ((putI T ⟨mk, lf, dn, false⟩ xs (mk + 1) bN mN).1, (putI T ⟨mk, lf, dn, false⟩ xs (mk + 1) bN mN).2.1, pl, pl + 1)
    else ins2 T ⟨en0, fl, aN, bN⟩ (bump (putI T ⟨mk, lf, dn, false⟩ xs (mk + 1) bN mN).1 (mk + 1) mN) (putI T ⟨mk, lf, dn, false⟩ xs (mk + 1) bN mN).2.1 (if (mk + 1 : Int) ≤ pl then pl + mN else pl)) := by
   unfold Hid;rw [← HRES.out];unfold insF;rw [if_neg (by simp), HMM.out, if_pos ⟨by omega, hc2⟩, HMKI.out]
   rfl
  by_cases hlt : lf < mN
  ·have HPU : Hid (putI T ⟨mk, lf, dn, false⟩ xs (mk + 1) bN mN = (⟨mk, lf, dn, true⟩, xs, false)) := if_pos hlt;rw [HPU.out] at hs3 HRF;have HFIN : Hid (ActI u base g gt sv R RES (.returned (.tuple #[.int .i64 pl, .int .i64 (pl + 1)])) w3) := by
    unfold Hid ActI; rw [HRF.out]; exact ⟨rfl, hs3⟩
   rw [HPU.out];clear hs3 he3;go_wp2_with (fail)
   go_ret2
   exact HFIN.out
  obtain ⟨ok, hok⟩ : ∃ b, (decide (0 ≤ (mk + 1 : Int)) && decide ((mk + 1 : Int) ≤ (xs.length : Int))) = b := ⟨_, rfl⟩;have HPU : Hid (putI T ⟨mk, lf, dn, false⟩ xs (mk + 1) bN mN = (⟨mk, lf - mN, dn + mN, false⟩, insL xs (mk + 1) (glyL T.list bN mN), ok)) := by unfold Hid putI; rw [if_neg hlt, hok]
  have hpi := putI_inv (T := T) (place := mk + 1) (a := bN) (n := mN) HI0.out;rw [HPU.out] at hs3 HRF hpi;rw [HPU.out];clear hok;by_cases hokb : ok = false
  ·subst hokb;have HFIN : Hid (ActI u base g gt sv R RES (.returned (.tuple #[.int .i64 pl, .int .i64 (pl + 1)])) w3) := by
    unfold Hid ActI; rw [HRF.out]; exact ⟨rfl, hs3⟩
   clear hs3 he3 hpi;go_wp2_with (fail)
   go_ret2
   exact HFIN.out
  obtain rfl : ok = true := by simpa using hokb
  obtain ⟨hpi1, hpi2⟩ := hpi;obtain ⟨hpi3, hpi4, hpi5, hpi6⟩ := hpi2 rfl;rw [if_neg (by simp)] at HRF
  have HBI := Bas.hid (bump_inv (xs := xs) (place := mk + 1) hpi1 hpi3 (by exact hmk.2))
  have hR3 : w3.heap[R]? = some (insObj gt g ⟨mk, lf - mN, dn + mN, false⟩) := by obtain ⟨_, _, h, _⟩ := id hs3; exact h
  have HERN3 : Hid (E ≠ R) := fun e => by
   rw [e, hR3] at he3;injection he3 with he3; injection he3 with _ he3 _; exact absurd he3 (by decide)
  have HS3 := Bas.hid hs3;have HE3 := Bas.hid he3;have r2 := cell_of_heap (i := 2) (v := .int .i64 mk) hR3 rfl;have r1 := cell_of_heap (i := 1) (v := .pointer (some ⟨g, 0, none⟩)) hR3 rfl;have g2 := free_of_heap (i := 2) hR3;have lR3 := heap_lt hR3;obtain ⟨xsA, hxsA⟩ : ∃ y, insL xs (mk + 1) (glyL T.list bN mN) = y := ⟨_, rfl⟩;rw [hxsA] at HRF HBI HS3;clear hs3 he3 hpi1 hpi3 hpi4 hpi5 hpi6 hpi2 hR3 hxsA HPU HSA HEA hokb hlt;have e7 : decide (mk + 1 ≤ mk) = false := by simp; omega
  have e8 : ¬ mk + 1 ≤ mk := by omega
  have HBU : Hid (bump ⟨mk, lf - mN, dn + mN, false⟩ (mk + 1) mN = ⟨mk, lf - mN, dn + mN, false⟩) := if_neg (by simp only; omega)
  rw [HBU.out] at HRF HBI;have HSA := Bas.hid HS3.out;have HEA := Bas.hid HE3.out;have c1 := r1;have HIA := Bas.hid HBI.out;by_cases hple : (mk + 1 : Int) ≤ pl
  focus
   have e9 : decide ((mk + 1 : Int) ≤ pl) = true := by simpa using hple
   have HRA : Hid (RES = ins2 T ⟨en0, fl, aN, bN⟩ ⟨mk, lf - mN, dn + mN, false⟩ xsA (pl + mN)) := by
    have h := HRF.out;rw [if_pos hple] at h;exact h
   go_wp2_with (fail);clear c1 r1 r2 g2 lR3 HRF HS3 HBI
   obtain ⟨wA, hwA⟩ : ∃ w, w3 = w := ⟨_, rfl⟩;rw [hwA] at HSA HEA ⊢;obtain ⟨mkA, hmkA⟩ : ∃ m, m = mk := ⟨_, rfl⟩;rw [← hmkA] at HSA HIA HRA;obtain ⟨lfA, hlfA⟩ : ∃ m, lf - (mN : Int) = m := ⟨_, rfl⟩;rw [hlfA] at HSA HIA HRA;obtain ⟨dnA, hdnA⟩ : ∃ m, dn + (mN : Int) = m := ⟨_, rfl⟩;rw [hdnA] at HSA HIA HRA;obtain ⟨iA, hiA⟩ : ∃ m, pl + (mN : Int) = m := ⟨_, rfl⟩;rw [hiA] at HRA ⊢;have hX : mkA < iA := by omega
   have hiB : 0 ≤ iA ∧ iA ≤ 4398046512000 := by omega
   clear hmkA hlfA hdnA hiA  hwA
  rotate_left
  focus
   have e9 : decide ((mk + 1 : Int) ≤ pl) = false := by simpa using hple
   have HRA : Hid (RES = ins2 T ⟨en0, fl, aN, bN⟩ ⟨mk, lf - mN, dn + mN, false⟩ xsA (pl)) := by
    have h := HRF.out;rw [if_neg hple] at h;exact h
   go_wp2_with (fail);clear c1 r1 r2 g2 lR3 HRF HS3 HBI
   obtain ⟨wA, hwA⟩ : ∃ w, w3 = w := ⟨_, rfl⟩;rw [hwA] at HSA HEA ⊢;obtain ⟨mkA, hmkA⟩ : ∃ m, m = mk := ⟨_, rfl⟩;rw [← hmkA] at HSA HIA HRA;obtain ⟨lfA, hlfA⟩ : ∃ m, lf - (mN : Int) = m := ⟨_, rfl⟩;rw [hlfA] at HSA HIA HRA;obtain ⟨dnA, hdnA⟩ : ∃ m, dn + (mN : Int) = m := ⟨_, rfl⟩;rw [hdnA] at HSA HIA HRA;obtain ⟨iA, hiA⟩ : ∃ m, m = pl := ⟨_, rfl⟩;rw [← hiA] at HRA ⊢;have hX : iA ≤ mkA := by omega
   have hiB : 0 ≤ iA ∧ iA ≤ 4398046512000 := by omega
   clear hmkA hlfA hdnA hiA  hwA
  rotate_left
 all_goals
  obtain ⟨svA, hlA, hkA, _, _⟩ := id HSA.out;have HLN := Bas.hid (Ln.len_any base g svA xsA wA hlA);have c1 := cell_of_heap (i := 1) (v := .pointer (some ⟨g, 0, none⟩)) hkA rfl;have c2 := cell_of_heap (i := 2) (v := .int .i64 mkA) hkA rfl;have lRA := heap_lt hkA;have d1 := cell_of_heap (i := 1) (v := .int .i64 fl) HEA.out rfl;have d2 := cell_of_heap (i := 2) (v := .int .i64 aN) HEA.out rfl;have lEA := heap_lt HEA.out;have hmA := HIA.out.1;have hxA := HIA.out.2.2.2.2.1;have hlfA := HIA.out.2.1;have hdnA := HIA.out.2.2.1;have hldA := HIA.out.2.2.2.1;simp only at hmA hxA hlfA hdnA hldA;clear hlA hkA;by_cases hend0 : (xsA.length : Int) ≤ iA
  ·first
   | (exfalso; omega)
   | (
     have hend : decide ((xsA.length : Int) ≤ iA) = true := by simpa using hend0
     have HEND := Bas.hid hend;by_cases hh0 : 0 < hN
     ·have e0 : decide ((0 : Int) < (hN : Int)) = true := by simp; omega
      have hM1 : (xsA.length : Int) < iA + 1 := by omega
      have hM2 : ¬ iA + 1 ≤ (xsA.length : Int) := by omega
      have hM3 : decide (iA + 1 ≤ (xsA.length : Int)) = false := by simpa using hM2
      have hM4 : decide ((xsA.length : Int) < iA + 1) = true := by simpa using hM1
      have hM5 : decide (iA + 1 < (xsA.length : Int)) = false := by simp; omega
      have HMIN : Hid (min (iA + 1) (xsA.length : Int) = (xsA.length : Int)) := by unfold Hid; omega
      by_cases hf2 : fl / 2048 % 2 = 1
      ·have hq2 : bits .and .i64 fl 2048 = 2048 := by rw [Dr.flag_32 fl 11 2048 rfl (by omega) hfl.1 (by omega)]; exact if_pos hf2
       refine HLN.out.mono ?_;rintro e w13 ⟨rfl, rfl⟩;go_wp2_with (fail);refine HLN.out.mono ?_;rintro e w13 ⟨rfl, rfl⟩;go_wp2_with (fail);clear c1 c2 lRA d1 d2 lEA;refine (put_lv T (iA) aN hN W0 E _ HSA.out HT.out HB0.out HSET.out hbase HIA.out haN hh31 (by have h := HFA.out; omega) HEA.out).mono ?_
       rintro e wB ⟨rfl, hsB, heB⟩;have HEB0 := Bas.hid heB;have HRP : Hid (RES = if (putI T ⟨mkA, lfA, dnA, false⟩ xsA (iA) aN hN).2.2 = false then ((putI T ⟨mkA, lfA, dnA, false⟩ xsA (iA) aN hN).1, (putI T ⟨mkA, lfA, dnA, false⟩ xsA (iA) aN hN).2.1, iA, iA + 1)
         else ins3 (bump (putI T ⟨mkA, lfA, dnA, false⟩ xsA (iA) aN hN).1 (iA) hN) (putI T ⟨mkA, lfA, dnA, false⟩ xsA (iA) aN hN).2.1 iA (iA + hN) true hN fl) := by
        unfold Hid;rw [HRA.out];unfold ins2;rw [HHH.out, if_pos (by omega), if_pos hf2, HEND.out]
        rfl
       by_cases hlt : lfA < hN
       ·have HPU : Hid (putI T ⟨mkA, lfA, dnA, false⟩ xsA (iA) aN hN = (⟨mkA, lfA, dnA, true⟩, xsA, false)) := if_pos hlt;rw [HPU.out] at hsB HRP;have HFIN : Hid (ActI u base g gt sv R (RES) (.returned (.tuple #[.int .i64 iA, .int .i64 (iA + 1)])) wB) := by
         unfold Hid ActI; rw [HRP.out]; exact ⟨rfl, hsB⟩
        rw [HPU.out];clear hsB heB;go_wp2_with (fail)
        go_ret2
        exact HFIN.out
       ·obtain ⟨ok, hok⟩ : ∃ b, (decide (0 ≤ (iA : Int)) && decide ((iA : Int) ≤ (xsA.length : Int))) = b := ⟨_, rfl⟩;have HPU : Hid (putI T ⟨mkA, lfA, dnA, false⟩ xsA (iA) aN hN = (⟨mkA, lfA - hN, dnA + hN, false⟩, insL xsA (iA) (glyL T.list aN hN), ok)) := by unfold Hid putI; rw [if_neg hlt, hok]
        rw [HPU.out] at hsB HRP;rw [HPU.out];clear hok;cases ok with
        | false =>
         have HFIN : Hid (ActI u base g gt sv R (RES) (.returned (.tuple #[.int .i64 iA, .int .i64 (iA + 1)])) wB) := by
          unfold Hid ActI; rw [HRP.out]; exact ⟨rfl, hsB⟩
         clear hsB heB;go_wp2_with (fail)
         go_ret2
         exact HFIN.out
        | true =>
         have HS5 := Bas.hid hsB;have hRC : wB.heap[R]? = some (insObj gt g ⟨mkA, lfA - hN, dnA + hN, false⟩) := by obtain ⟨_, _, h, _⟩ := id hsB; exact h
         have HERN : Hid (E ≠ R) := fun e => by
          rw [e, hRC] at heB;injection heB with heB; injection heB with _ heB _; exact absurd heB (by decide)
         have r2 := cell_of_heap (i := 2) (v := .int .i64 mkA) hRC rfl;have g2 := free_of_heap (i := 2) hRC;have lR2 := heap_lt hRC;clear hsB heB hRC;by_cases hpm : (iA : Int) ≤ mkA
         ·first
          | (exfalso; omega)
          | (
            have e6 : decide ((iA : Int) ≤ mkA) = true := by simpa using hpm
            have HR3 : Hid (RES = ins3 ⟨mkA + hN, lfA - hN, dnA + hN, false⟩ (insL xsA (iA) (glyL T.list aN hN)) iA (iA + hN) true hN fl) := by
             have h := HRP.out;rw [if_neg (by simp)] at h
             unfold bump at h;rw [if_pos hpm] at h;exact h
            have HSB := Bas.hid (HS5.out.set (mkA + hN));have HEB : Hid ((wB.setCell ⟨R, 2, none⟩ (.int .i64 (mkA + hN))).heap[E]? = some (.cells #[.int .i64 en0, .int .i64 fl, .int .i64 aN, .int .i64 bN] 162 (0, 0))) := (Below.heap_setCell _ _ _ _ (by exact HERN.out)).trans HEB0.out
            have b1 := cell_of_heap (i := 1) (v := .int .i64 fl) HEB.out rfl;have lE := heap_lt HEB.out;have hRB : (wB.setCell ⟨R, 2, none⟩ (.int .i64 (mkA + hN))).heap[R]? = some (insObj gt g ⟨mkA + hN, lfA - hN, dnA + hN, false⟩) := by obtain ⟨_, _, h, _⟩ := id HSB.out; exact h
            have s2 := cell_of_heap (i := 2) (v := .int .i64 (mkA + hN)) hRB rfl;have h2 := free_of_heap (i := 2) hRB;have m2 := heap_lt hRB;clear hRB;by_cases hf3 : fl / 32768 % 2 = 1
            ·have hq3 : bits .and .i64 fl 32768 = 32768 := by rw [Dr.flag_32 fl 15 32768 rfl (by omega) hfl.1 (by omega)]; exact if_pos hf3
             have HFIN : Hid (ActI u base g gt sv R (RES) (.returned (.tuple #[.int .i64 iA, .int .i64 (iA + hN + 1)])) (wB.setCell ⟨R, 2, none⟩ (.int .i64 (mkA + hN)))) := by
              unfold Hid ActI; rw [HR3.out]; unfold ins3; rw [if_neg (fun h => by cases h.2)]; exact ⟨rfl, HSB.out⟩
             go_wp2_with (fail)
             go_ret2
             exact HFIN.out
            ·have hq3 : bits .and .i64 fl 32768 = 0 := by rw [Dr.flag_32 fl 15 32768 rfl (by omega) hfl.1 (by omega)]; exact if_neg hf3
             have HFIN : Hid (ActI u base g gt sv R (RES) (.returned (.tuple #[.int .i64 iA, .int .i64 (iA + hN + 1)])) (wB.setCell ⟨R, 2, none⟩ (.int .i64 (mkA + hN)))) := by
              unfold Hid ActI; rw [HR3.out]; unfold ins3; rw [if_neg (fun h => hf3 h.1)]; exact ⟨rfl, HSB.out⟩
             go_wp2_with (fail)
             go_ret2
             exact HFIN.out
           )
         ·first
          | (exfalso; omega)
          | (
            have e6 : decide ((iA : Int) ≤ mkA) = false := by simpa using hpm
            have HR3 : Hid (RES = ins3 ⟨mkA, lfA - hN, dnA + hN, false⟩ (insL xsA (iA) (glyL T.list aN hN)) iA (iA + hN) true hN fl) := by
             have h := HRP.out;rw [if_neg (by simp)] at h
             unfold bump at h;rw [if_neg hpm] at h;exact h
            have HSB := Bas.hid HS5.out;have HEB := Bas.hid HEB0.out;have b1 := cell_of_heap (i := 1) (v := .int .i64 fl) HEB.out rfl;have lE := heap_lt HEB.out;have hRB : (wB).heap[R]? = some (insObj gt g ⟨mkA, lfA - hN, dnA + hN, false⟩) := by obtain ⟨_, _, h, _⟩ := id HSB.out; exact h
            have s2 := cell_of_heap (i := 2) (v := .int .i64 (mkA)) hRB rfl;have h2 := free_of_heap (i := 2) hRB;have m2 := heap_lt hRB;clear hRB;by_cases hf3 : fl / 32768 % 2 = 1
            ·have hq3 : bits .and .i64 fl 32768 = 32768 := by rw [Dr.flag_32 fl 15 32768 rfl (by omega) hfl.1 (by omega)]; exact if_pos hf3
             have HFIN : Hid (ActI u base g gt sv R (RES) (.returned (.tuple #[.int .i64 iA, .int .i64 (iA + hN + 1)])) (wB)) := by
              unfold Hid ActI; rw [HR3.out]; unfold ins3; rw [if_neg (fun h => by cases h.2)]; exact ⟨rfl, HSB.out⟩
             go_wp2_with (fail)
             go_ret2
             exact HFIN.out
            ·have hq3 : bits .and .i64 fl 32768 = 0 := by rw [Dr.flag_32 fl 15 32768 rfl (by omega) hfl.1 (by omega)]; exact if_neg hf3
             have HFIN : Hid (ActI u base g gt sv R (RES) (.returned (.tuple #[.int .i64 iA, .int .i64 (iA + hN + 1)])) (wB)) := by
              unfold Hid ActI; rw [HR3.out]; unfold ins3; rw [if_neg (fun h => hf3 h.1)]; exact ⟨rfl, HSB.out⟩
             go_wp2_with (fail)
             go_ret2
             exact HFIN.out
           )
      ·have hq2 : bits .and .i64 fl 2048 = 0 := by rw [Dr.flag_32 fl 11 2048 rfl (by omega) hfl.1 (by omega)]; exact if_neg hf2
       refine HLN.out.mono ?_;rintro e w13 ⟨rfl, rfl⟩;go_wp2_with (fail);refine HLN.out.mono ?_;rintro e w13 ⟨rfl, rfl⟩;go_wp2_with (fail);clear c1 c2 lRA d1 d2 lEA;refine (put_lv T ((xsA.length : Int)) aN hN W0 E _ HSA.out HT.out HB0.out HSET.out hbase HIA.out haN hh31 (by have h := HFA.out; omega) HEA.out).mono ?_
       rintro e wB ⟨rfl, hsB, heB⟩;have HEB0 := Bas.hid heB;have HRP : Hid (RES = if (putI T ⟨mkA, lfA, dnA, false⟩ xsA ((xsA.length : Int)) aN hN).2.2 = false then ((putI T ⟨mkA, lfA, dnA, false⟩ xsA ((xsA.length : Int)) aN hN).1, (putI T ⟨mkA, lfA, dnA, false⟩ xsA ((xsA.length : Int)) aN hN).2.1, iA, iA + 1)
         else ins3 (bump (putI T ⟨mkA, lfA, dnA, false⟩ xsA ((xsA.length : Int)) aN hN).1 ((xsA.length : Int)) hN) (putI T ⟨mkA, lfA, dnA, false⟩ xsA ((xsA.length : Int)) aN hN).2.1 iA (iA) true hN fl) := by
        unfold Hid;rw [HRA.out];unfold ins2;rw [HHH.out, if_pos (by omega), if_neg hf2, HEND.out, HMIN.out]
        rfl
       by_cases hlt : lfA < hN
       ·have HPU : Hid (putI T ⟨mkA, lfA, dnA, false⟩ xsA ((xsA.length : Int)) aN hN = (⟨mkA, lfA, dnA, true⟩, xsA, false)) := if_pos hlt;rw [HPU.out] at hsB HRP;have HFIN : Hid (ActI u base g gt sv R (RES) (.returned (.tuple #[.int .i64 iA, .int .i64 (iA + 1)])) wB) := by
         unfold Hid ActI; rw [HRP.out]; exact ⟨rfl, hsB⟩
        rw [HPU.out];clear hsB heB;go_wp2_with (fail)
        go_ret2
        exact HFIN.out
       ·obtain ⟨ok, hok⟩ : ∃ b, (decide (0 ≤ ((xsA.length : Int) : Int)) && decide (((xsA.length : Int) : Int) ≤ (xsA.length : Int))) = b := ⟨_, rfl⟩;have HPU : Hid (putI T ⟨mkA, lfA, dnA, false⟩ xsA ((xsA.length : Int)) aN hN = (⟨mkA, lfA - hN, dnA + hN, false⟩, insL xsA ((xsA.length : Int)) (glyL T.list aN hN), ok)) := by unfold Hid putI; rw [if_neg hlt, hok]
        rw [HPU.out] at hsB HRP;rw [HPU.out];clear hok;cases ok with
        | false =>
         have HFIN : Hid (ActI u base g gt sv R (RES) (.returned (.tuple #[.int .i64 iA, .int .i64 (iA + 1)])) wB) := by
          unfold Hid ActI; rw [HRP.out]; exact ⟨rfl, hsB⟩
         clear hsB heB;go_wp2_with (fail)
         go_ret2
         exact HFIN.out
        | true =>
         have HS5 := Bas.hid hsB;have hRC : wB.heap[R]? = some (insObj gt g ⟨mkA, lfA - hN, dnA + hN, false⟩) := by obtain ⟨_, _, h, _⟩ := id hsB; exact h
         have HERN : Hid (E ≠ R) := fun e => by
          rw [e, hRC] at heB;injection heB with heB; injection heB with _ heB _; exact absurd heB (by decide)
         have r2 := cell_of_heap (i := 2) (v := .int .i64 mkA) hRC rfl;have g2 := free_of_heap (i := 2) hRC;have lR2 := heap_lt hRC;clear hsB heB hRC;by_cases hpm : ((xsA.length : Int) : Int) ≤ mkA
         ·first
          | (exfalso; omega)
          | (
            have e6 : decide (((xsA.length : Int) : Int) ≤ mkA) = true := by simpa using hpm
            have HR3 : Hid (RES = ins3 ⟨mkA + hN, lfA - hN, dnA + hN, false⟩ (insL xsA ((xsA.length : Int)) (glyL T.list aN hN)) iA (iA) true hN fl) := by
             have h := HRP.out;rw [if_neg (by simp)] at h
             unfold bump at h;rw [if_pos hpm] at h;exact h
            have HSB := Bas.hid (HS5.out.set (mkA + hN));have HEB : Hid ((wB.setCell ⟨R, 2, none⟩ (.int .i64 (mkA + hN))).heap[E]? = some (.cells #[.int .i64 en0, .int .i64 fl, .int .i64 aN, .int .i64 bN] 162 (0, 0))) := (Below.heap_setCell _ _ _ _ (by exact HERN.out)).trans HEB0.out
            have b1 := cell_of_heap (i := 1) (v := .int .i64 fl) HEB.out rfl;have lE := heap_lt HEB.out;have hRB : (wB.setCell ⟨R, 2, none⟩ (.int .i64 (mkA + hN))).heap[R]? = some (insObj gt g ⟨mkA + hN, lfA - hN, dnA + hN, false⟩) := by obtain ⟨_, _, h, _⟩ := id HSB.out; exact h
            have s2 := cell_of_heap (i := 2) (v := .int .i64 (mkA + hN)) hRB rfl;have h2 := free_of_heap (i := 2) hRB;have m2 := heap_lt hRB;clear hRB;by_cases hf3 : fl / 32768 % 2 = 1
            ·have hq3 : bits .and .i64 fl 32768 = 32768 := by rw [Dr.flag_32 fl 15 32768 rfl (by omega) hfl.1 (by omega)]; exact if_pos hf3
             have HFIN : Hid (ActI u base g gt sv R (RES) (.returned (.tuple #[.int .i64 iA, .int .i64 (iA + hN + 1)])) (wB.setCell ⟨R, 2, none⟩ (.int .i64 (mkA + hN)))) := by
              unfold Hid ActI; rw [HR3.out]; unfold ins3; rw [if_neg (fun h => by cases h.2)]; exact ⟨rfl, HSB.out⟩
             go_wp2_with (fail)
             go_ret2
             exact HFIN.out
            ·have hq3 : bits .and .i64 fl 32768 = 0 := by rw [Dr.flag_32 fl 15 32768 rfl (by omega) hfl.1 (by omega)]; exact if_neg hf3
             have HFIN : Hid (ActI u base g gt sv R (RES) (.returned (.tuple #[.int .i64 iA, .int .i64 (iA + hN + 1)])) (wB.setCell ⟨R, 2, none⟩ (.int .i64 (mkA + hN)))) := by
              unfold Hid ActI; rw [HR3.out]; unfold ins3; rw [if_neg (fun h => hf3 h.1)]; exact ⟨rfl, HSB.out⟩
             go_wp2_with (fail)
             go_ret2
             exact HFIN.out
           )
         ·first
          | (exfalso; omega)
          | (
            have e6 : decide (((xsA.length : Int) : Int) ≤ mkA) = false := by simpa using hpm
            have HR3 : Hid (RES = ins3 ⟨mkA, lfA - hN, dnA + hN, false⟩ (insL xsA ((xsA.length : Int)) (glyL T.list aN hN)) iA (iA) true hN fl) := by
             have h := HRP.out;rw [if_neg (by simp)] at h
             unfold bump at h;rw [if_neg hpm] at h;exact h
            have HSB := Bas.hid HS5.out;have HEB := Bas.hid HEB0.out;have b1 := cell_of_heap (i := 1) (v := .int .i64 fl) HEB.out rfl;have lE := heap_lt HEB.out;have hRB : (wB).heap[R]? = some (insObj gt g ⟨mkA, lfA - hN, dnA + hN, false⟩) := by obtain ⟨_, _, h, _⟩ := id HSB.out; exact h
            have s2 := cell_of_heap (i := 2) (v := .int .i64 (mkA)) hRB rfl;have h2 := free_of_heap (i := 2) hRB;have m2 := heap_lt hRB;clear hRB;by_cases hf3 : fl / 32768 % 2 = 1
            ·have hq3 : bits .and .i64 fl 32768 = 32768 := by rw [Dr.flag_32 fl 15 32768 rfl (by omega) hfl.1 (by omega)]; exact if_pos hf3
             have HFIN : Hid (ActI u base g gt sv R (RES) (.returned (.tuple #[.int .i64 iA, .int .i64 (iA + hN + 1)])) (wB)) := by
              unfold Hid ActI; rw [HR3.out]; unfold ins3; rw [if_neg (fun h => by cases h.2)]; exact ⟨rfl, HSB.out⟩
             go_wp2_with (fail)
             go_ret2
             exact HFIN.out
            ·have hq3 : bits .and .i64 fl 32768 = 0 := by rw [Dr.flag_32 fl 15 32768 rfl (by omega) hfl.1 (by omega)]; exact if_neg hf3
             have HFIN : Hid (ActI u base g gt sv R (RES) (.returned (.tuple #[.int .i64 iA, .int .i64 (iA + hN + 1)])) (wB)) := by
              unfold Hid ActI; rw [HR3.out]; unfold ins3; rw [if_neg (fun h => hf3 h.1)]; exact ⟨rfl, HSB.out⟩
             go_wp2_with (fail)
             go_ret2
             exact HFIN.out
           )
     ·have e0 : decide ((0 : Int) < (hN : Int)) = false := by simp; omega
      have e00 : ¬ (0 : Int) < (hN : Int) := by omega
      have HR3 : Hid (RES = ins3 ⟨mkA, lfA, dnA, false⟩ xsA iA iA true hN fl) := by
       unfold Hid;rw [HRA.out];unfold ins2;rw [HHH.out, if_neg (by omega), HEND.out]
      have HSB := Bas.hid HSA.out;have HEB := Bas.hid HEA.out;refine HLN.out.mono ?_;rintro e w13 ⟨rfl, rfl⟩;clear c1 c2 lRA d1 d2 lEA;have b1 := cell_of_heap (i := 1) (v := .int .i64 fl) HEB.out rfl;have lE := heap_lt HEB.out;have hRB : (wA).heap[R]? = some (insObj gt g ⟨mkA, lfA, dnA, false⟩) := by obtain ⟨_, _, h, _⟩ := id HSB.out; exact h
      have s2 := cell_of_heap (i := 2) (v := .int .i64 (mkA)) hRB rfl;have h2 := free_of_heap (i := 2) hRB;have m2 := heap_lt hRB;clear hRB;by_cases hf3 : fl / 32768 % 2 = 1
      ·have hq3 : bits .and .i64 fl 32768 = 32768 := by rw [Dr.flag_32 fl 15 32768 rfl (by omega) hfl.1 (by omega)]; exact if_pos hf3
       have HFIN : Hid (ActI u base g gt sv R (RES) (.returned (.tuple #[.int .i64 iA, .int .i64 (iA + hN + 1)])) (wA)) := by
        unfold Hid ActI; rw [HR3.out]; unfold ins3; rw [if_neg (fun h => by cases h.2)]; exact ⟨rfl, HSB.out⟩
       go_wp2_with (fail)
       go_ret2
       exact HFIN.out
      ·have hq3 : bits .and .i64 fl 32768 = 0 := by rw [Dr.flag_32 fl 15 32768 rfl (by omega) hfl.1 (by omega)]; exact if_neg hf3
       have HFIN : Hid (ActI u base g gt sv R (RES) (.returned (.tuple #[.int .i64 iA, .int .i64 (iA + hN + 1)])) (wA)) := by
        unfold Hid ActI; rw [HR3.out]; unfold ins3; rw [if_neg (fun h => hf3 h.1)]; exact ⟨rfl, HSB.out⟩
       go_wp2_with (fail)
       go_ret2
       exact HFIN.out
    )
  ·first
   | (exfalso; omega)
   | (
     have hend : decide ((xsA.length : Int) ≤ iA) = false := by simpa using hend0
     have HEND := Bas.hid hend;by_cases hh0 : 0 < hN
     ·have e0 : decide ((0 : Int) < (hN : Int)) = true := by simp; omega
      have hM1 : iA + 1 ≤ (xsA.length : Int) := by omega
      have hM2 : ¬ (xsA.length : Int) < iA + 1 := by omega
      have hM3 : decide (iA + 1 ≤ (xsA.length : Int)) = true := by simpa using hM1
      have hM4 : decide ((xsA.length : Int) < iA + 1) = false := by simpa using hM2
      have HMIN : Hid (min (iA + 1) (xsA.length : Int) = iA + 1) := by unfold Hid; omega
      by_cases hf2 : fl / 2048 % 2 = 1
      ·have hq2 : bits .and .i64 fl 2048 = 2048 := by rw [Dr.flag_32 fl 11 2048 rfl (by omega) hfl.1 (by omega)]; exact if_pos hf2
       refine HLN.out.mono ?_;rintro e w13 ⟨rfl, rfl⟩;go_wp2_with (fail);refine HLN.out.mono ?_;rintro e w13 ⟨rfl, rfl⟩;go_wp2_with (fail);clear c1 c2 lRA d1 d2 lEA;refine (put_lv T (iA) aN hN W0 E _ HSA.out HT.out HB0.out HSET.out hbase HIA.out haN hh31 (by have h := HFA.out; omega) HEA.out).mono ?_
       rintro e wB ⟨rfl, hsB, heB⟩;have HEB0 := Bas.hid heB;have HRP : Hid (RES = if (putI T ⟨mkA, lfA, dnA, false⟩ xsA (iA) aN hN).2.2 = false then ((putI T ⟨mkA, lfA, dnA, false⟩ xsA (iA) aN hN).1, (putI T ⟨mkA, lfA, dnA, false⟩ xsA (iA) aN hN).2.1, iA, iA + 1)
         else ins3 (bump (putI T ⟨mkA, lfA, dnA, false⟩ xsA (iA) aN hN).1 (iA) hN) (putI T ⟨mkA, lfA, dnA, false⟩ xsA (iA) aN hN).2.1 iA (iA + hN) false hN fl) := by
        unfold Hid;rw [HRA.out];unfold ins2;rw [HHH.out, if_pos (by omega), if_pos hf2, HEND.out]
        rfl
       by_cases hlt : lfA < hN
       ·have HPU : Hid (putI T ⟨mkA, lfA, dnA, false⟩ xsA (iA) aN hN = (⟨mkA, lfA, dnA, true⟩, xsA, false)) := if_pos hlt;rw [HPU.out] at hsB HRP;have HFIN : Hid (ActI u base g gt sv R (RES) (.returned (.tuple #[.int .i64 iA, .int .i64 (iA + 1)])) wB) := by
         unfold Hid ActI; rw [HRP.out]; exact ⟨rfl, hsB⟩
        rw [HPU.out];clear hsB heB;go_wp2_with (fail)
        go_ret2
        exact HFIN.out
       ·obtain ⟨ok, hok⟩ : ∃ b, (decide (0 ≤ (iA : Int)) && decide ((iA : Int) ≤ (xsA.length : Int))) = b := ⟨_, rfl⟩;have HPU : Hid (putI T ⟨mkA, lfA, dnA, false⟩ xsA (iA) aN hN = (⟨mkA, lfA - hN, dnA + hN, false⟩, insL xsA (iA) (glyL T.list aN hN), ok)) := by unfold Hid putI; rw [if_neg hlt, hok]
        rw [HPU.out] at hsB HRP;rw [HPU.out];clear hok;cases ok with
        | false =>
         have HFIN : Hid (ActI u base g gt sv R (RES) (.returned (.tuple #[.int .i64 iA, .int .i64 (iA + 1)])) wB) := by
          unfold Hid ActI; rw [HRP.out]; exact ⟨rfl, hsB⟩
         clear hsB heB;go_wp2_with (fail)
         go_ret2
         exact HFIN.out
        | true =>
         have HS5 := Bas.hid hsB;have hRC : wB.heap[R]? = some (insObj gt g ⟨mkA, lfA - hN, dnA + hN, false⟩) := by obtain ⟨_, _, h, _⟩ := id hsB; exact h
         have HERN : Hid (E ≠ R) := fun e => by
          rw [e, hRC] at heB;injection heB with heB; injection heB with _ heB _; exact absurd heB (by decide)
         have r2 := cell_of_heap (i := 2) (v := .int .i64 mkA) hRC rfl;have g2 := free_of_heap (i := 2) hRC;have lR2 := heap_lt hRC;clear hsB heB hRC;by_cases hpm : (iA : Int) ≤ mkA
         ·first
          | (exfalso; omega)
          | (
            have e6 : decide ((iA : Int) ≤ mkA) = true := by simpa using hpm
            have HR3 : Hid (RES = ins3 ⟨mkA + hN, lfA - hN, dnA + hN, false⟩ (insL xsA (iA) (glyL T.list aN hN)) iA (iA + hN) false hN fl) := by
             have h := HRP.out;rw [if_neg (by simp)] at h
             unfold bump at h;rw [if_pos hpm] at h;exact h
            have HSB := Bas.hid (HS5.out.set (mkA + hN));have HEB : Hid ((wB.setCell ⟨R, 2, none⟩ (.int .i64 (mkA + hN))).heap[E]? = some (.cells #[.int .i64 en0, .int .i64 fl, .int .i64 aN, .int .i64 bN] 162 (0, 0))) := (Below.heap_setCell _ _ _ _ (by exact HERN.out)).trans HEB0.out
            have b1 := cell_of_heap (i := 1) (v := .int .i64 fl) HEB.out rfl;have lE := heap_lt HEB.out;have hRB : (wB.setCell ⟨R, 2, none⟩ (.int .i64 (mkA + hN))).heap[R]? = some (insObj gt g ⟨mkA + hN, lfA - hN, dnA + hN, false⟩) := by obtain ⟨_, _, h, _⟩ := id HSB.out; exact h
            have s2 := cell_of_heap (i := 2) (v := .int .i64 (mkA + hN)) hRB rfl;have h2 := free_of_heap (i := 2) hRB;have m2 := heap_lt hRB;clear hRB;by_cases hf3 : fl / 32768 % 2 = 1
            ·have hq3 : bits .and .i64 fl 32768 = 32768 := by rw [Dr.flag_32 fl 15 32768 rfl (by omega) hfl.1 (by omega)]; exact if_pos hf3
             have HFIN : Hid (ActI u base g gt sv R (RES) (.returned (.tuple #[.int .i64 iA, .int .i64 (iA + hN + 1)])) ((wB.setCell ⟨R, 2, none⟩ (.int .i64 (mkA + hN))).setCell ⟨R, 2, none⟩ (.int .i64 (iA + hN)))) := by
              unfold Hid ActI; rw [HR3.out]; unfold ins3; rw [if_pos ⟨hf3, rfl⟩]; exact ⟨rfl, HSB.out.set _⟩
             go_wp2_with (fail)
             go_ret2
             exact HFIN.out
            ·have hq3 : bits .and .i64 fl 32768 = 0 := by rw [Dr.flag_32 fl 15 32768 rfl (by omega) hfl.1 (by omega)]; exact if_neg hf3
             have HFIN : Hid (ActI u base g gt sv R (RES) (.returned (.tuple #[.int .i64 iA, .int .i64 (iA + hN + 1)])) (wB.setCell ⟨R, 2, none⟩ (.int .i64 (mkA + hN)))) := by
              unfold Hid ActI; rw [HR3.out]; unfold ins3; rw [if_neg (fun h => hf3 h.1)]; exact ⟨rfl, HSB.out⟩
             go_wp2_with (fail)
             go_ret2
             exact HFIN.out
           )
         ·first
          | (exfalso; omega)
          | (
            have e6 : decide ((iA : Int) ≤ mkA) = false := by simpa using hpm
            have HR3 : Hid (RES = ins3 ⟨mkA, lfA - hN, dnA + hN, false⟩ (insL xsA (iA) (glyL T.list aN hN)) iA (iA + hN) false hN fl) := by
             have h := HRP.out;rw [if_neg (by simp)] at h
             unfold bump at h;rw [if_neg hpm] at h;exact h
            have HSB := Bas.hid HS5.out;have HEB := Bas.hid HEB0.out;have b1 := cell_of_heap (i := 1) (v := .int .i64 fl) HEB.out rfl;have lE := heap_lt HEB.out;have hRB : (wB).heap[R]? = some (insObj gt g ⟨mkA, lfA - hN, dnA + hN, false⟩) := by obtain ⟨_, _, h, _⟩ := id HSB.out; exact h
            have s2 := cell_of_heap (i := 2) (v := .int .i64 (mkA)) hRB rfl;have h2 := free_of_heap (i := 2) hRB;have m2 := heap_lt hRB;clear hRB;by_cases hf3 : fl / 32768 % 2 = 1
            ·have hq3 : bits .and .i64 fl 32768 = 32768 := by rw [Dr.flag_32 fl 15 32768 rfl (by omega) hfl.1 (by omega)]; exact if_pos hf3
             have HFIN : Hid (ActI u base g gt sv R (RES) (.returned (.tuple #[.int .i64 iA, .int .i64 (iA + hN + 1)])) ((wB).setCell ⟨R, 2, none⟩ (.int .i64 (iA + hN)))) := by
              unfold Hid ActI; rw [HR3.out]; unfold ins3; rw [if_pos ⟨hf3, rfl⟩]; exact ⟨rfl, HSB.out.set _⟩
             go_wp2_with (fail)
             go_ret2
             exact HFIN.out
            ·have hq3 : bits .and .i64 fl 32768 = 0 := by rw [Dr.flag_32 fl 15 32768 rfl (by omega) hfl.1 (by omega)]; exact if_neg hf3
             have HFIN : Hid (ActI u base g gt sv R (RES) (.returned (.tuple #[.int .i64 iA, .int .i64 (iA + hN + 1)])) (wB)) := by
              unfold Hid ActI; rw [HR3.out]; unfold ins3; rw [if_neg (fun h => hf3 h.1)]; exact ⟨rfl, HSB.out⟩
             go_wp2_with (fail)
             go_ret2
             exact HFIN.out
           )
      ·have hq2 : bits .and .i64 fl 2048 = 0 := by rw [Dr.flag_32 fl 11 2048 rfl (by omega) hfl.1 (by omega)]; exact if_neg hf2
       refine HLN.out.mono ?_;rintro e w13 ⟨rfl, rfl⟩;go_wp2_with (fail);refine HLN.out.mono ?_;rintro e w13 ⟨rfl, rfl⟩;go_wp2_with (fail);clear c1 c2 lRA d1 d2 lEA;refine (put_lv T (iA + 1) aN hN W0 E _ HSA.out HT.out HB0.out HSET.out hbase HIA.out haN hh31 (by have h := HFA.out; omega) HEA.out).mono ?_
       rintro e wB ⟨rfl, hsB, heB⟩;have HEB0 := Bas.hid heB;have HRP : Hid (RES = if (putI T ⟨mkA, lfA, dnA, false⟩ xsA (iA + 1) aN hN).2.2 = false then ((putI T ⟨mkA, lfA, dnA, false⟩ xsA (iA + 1) aN hN).1, (putI T ⟨mkA, lfA, dnA, false⟩ xsA (iA + 1) aN hN).2.1, iA, iA + 1)
         else ins3 (bump (putI T ⟨mkA, lfA, dnA, false⟩ xsA (iA + 1) aN hN).1 (iA + 1) hN) (putI T ⟨mkA, lfA, dnA, false⟩ xsA (iA + 1) aN hN).2.1 iA (iA) false hN fl) := by
        unfold Hid;rw [HRA.out];unfold ins2;rw [HHH.out, if_pos (by omega), if_neg hf2, HEND.out, HMIN.out]
        rfl
       by_cases hlt : lfA < hN
       ·have HPU : Hid (putI T ⟨mkA, lfA, dnA, false⟩ xsA (iA + 1) aN hN = (⟨mkA, lfA, dnA, true⟩, xsA, false)) := if_pos hlt;rw [HPU.out] at hsB HRP;have HFIN : Hid (ActI u base g gt sv R (RES) (.returned (.tuple #[.int .i64 iA, .int .i64 (iA + 1)])) wB) := by
         unfold Hid ActI; rw [HRP.out]; exact ⟨rfl, hsB⟩
        rw [HPU.out];clear hsB heB;go_wp2_with (fail)
        go_ret2
        exact HFIN.out
       ·obtain ⟨ok, hok⟩ : ∃ b, (decide (0 ≤ (iA + 1 : Int)) && decide ((iA + 1 : Int) ≤ (xsA.length : Int))) = b := ⟨_, rfl⟩;have HPU : Hid (putI T ⟨mkA, lfA, dnA, false⟩ xsA (iA + 1) aN hN = (⟨mkA, lfA - hN, dnA + hN, false⟩, insL xsA (iA + 1) (glyL T.list aN hN), ok)) := by unfold Hid putI; rw [if_neg hlt, hok]
        rw [HPU.out] at hsB HRP;rw [HPU.out];clear hok;cases ok with
        | false =>
         have HFIN : Hid (ActI u base g gt sv R (RES) (.returned (.tuple #[.int .i64 iA, .int .i64 (iA + 1)])) wB) := by
          unfold Hid ActI; rw [HRP.out]; exact ⟨rfl, hsB⟩
         clear hsB heB;go_wp2_with (fail)
         go_ret2
         exact HFIN.out
        | true =>
         have HS5 := Bas.hid hsB;have hRC : wB.heap[R]? = some (insObj gt g ⟨mkA, lfA - hN, dnA + hN, false⟩) := by obtain ⟨_, _, h, _⟩ := id hsB; exact h
         have HERN : Hid (E ≠ R) := fun e => by
          rw [e, hRC] at heB;injection heB with heB; injection heB with _ heB _; exact absurd heB (by decide)
         have r2 := cell_of_heap (i := 2) (v := .int .i64 mkA) hRC rfl;have g2 := free_of_heap (i := 2) hRC;have lR2 := heap_lt hRC;clear hsB heB hRC;by_cases hpm : (iA + 1 : Int) ≤ mkA
         ·first
          | (exfalso; omega)
          | (
            have e6 : decide ((iA + 1 : Int) ≤ mkA) = true := by simpa using hpm
            have HR3 : Hid (RES = ins3 ⟨mkA + hN, lfA - hN, dnA + hN, false⟩ (insL xsA (iA + 1) (glyL T.list aN hN)) iA (iA) false hN fl) := by
             have h := HRP.out;rw [if_neg (by simp)] at h
             unfold bump at h;rw [if_pos hpm] at h;exact h
            have HSB := Bas.hid (HS5.out.set (mkA + hN));have HEB : Hid ((wB.setCell ⟨R, 2, none⟩ (.int .i64 (mkA + hN))).heap[E]? = some (.cells #[.int .i64 en0, .int .i64 fl, .int .i64 aN, .int .i64 bN] 162 (0, 0))) := (Below.heap_setCell _ _ _ _ (by exact HERN.out)).trans HEB0.out
            have b1 := cell_of_heap (i := 1) (v := .int .i64 fl) HEB.out rfl;have lE := heap_lt HEB.out;have hRB : (wB.setCell ⟨R, 2, none⟩ (.int .i64 (mkA + hN))).heap[R]? = some (insObj gt g ⟨mkA + hN, lfA - hN, dnA + hN, false⟩) := by obtain ⟨_, _, h, _⟩ := id HSB.out; exact h
            have s2 := cell_of_heap (i := 2) (v := .int .i64 (mkA + hN)) hRB rfl;have h2 := free_of_heap (i := 2) hRB;have m2 := heap_lt hRB;clear hRB;by_cases hf3 : fl / 32768 % 2 = 1
            ·have hq3 : bits .and .i64 fl 32768 = 32768 := by rw [Dr.flag_32 fl 15 32768 rfl (by omega) hfl.1 (by omega)]; exact if_pos hf3
             have HFIN : Hid (ActI u base g gt sv R (RES) (.returned (.tuple #[.int .i64 iA, .int .i64 (iA + hN + 1)])) ((wB.setCell ⟨R, 2, none⟩ (.int .i64 (mkA + hN))).setCell ⟨R, 2, none⟩ (.int .i64 (iA)))) := by
              unfold Hid ActI; rw [HR3.out]; unfold ins3; rw [if_pos ⟨hf3, rfl⟩]; exact ⟨rfl, HSB.out.set _⟩
             go_wp2_with (fail)
             go_ret2
             exact HFIN.out
            ·have hq3 : bits .and .i64 fl 32768 = 0 := by rw [Dr.flag_32 fl 15 32768 rfl (by omega) hfl.1 (by omega)]; exact if_neg hf3
             have HFIN : Hid (ActI u base g gt sv R (RES) (.returned (.tuple #[.int .i64 iA, .int .i64 (iA + hN + 1)])) (wB.setCell ⟨R, 2, none⟩ (.int .i64 (mkA + hN)))) := by
              unfold Hid ActI; rw [HR3.out]; unfold ins3; rw [if_neg (fun h => hf3 h.1)]; exact ⟨rfl, HSB.out⟩
             go_wp2_with (fail)
             go_ret2
             exact HFIN.out
           )
         ·first
          | (exfalso; omega)
          | (
            have e6 : decide ((iA + 1 : Int) ≤ mkA) = false := by simpa using hpm
            have HR3 : Hid (RES = ins3 ⟨mkA, lfA - hN, dnA + hN, false⟩ (insL xsA (iA + 1) (glyL T.list aN hN)) iA (iA) false hN fl) := by
             have h := HRP.out;rw [if_neg (by simp)] at h
             unfold bump at h;rw [if_neg hpm] at h;exact h
            have HSB := Bas.hid HS5.out;have HEB := Bas.hid HEB0.out;have b1 := cell_of_heap (i := 1) (v := .int .i64 fl) HEB.out rfl;have lE := heap_lt HEB.out;have hRB : (wB).heap[R]? = some (insObj gt g ⟨mkA, lfA - hN, dnA + hN, false⟩) := by obtain ⟨_, _, h, _⟩ := id HSB.out; exact h
            have s2 := cell_of_heap (i := 2) (v := .int .i64 (mkA)) hRB rfl;have h2 := free_of_heap (i := 2) hRB;have m2 := heap_lt hRB;clear hRB;by_cases hf3 : fl / 32768 % 2 = 1
            ·have hq3 : bits .and .i64 fl 32768 = 32768 := by rw [Dr.flag_32 fl 15 32768 rfl (by omega) hfl.1 (by omega)]; exact if_pos hf3
             have HFIN : Hid (ActI u base g gt sv R (RES) (.returned (.tuple #[.int .i64 iA, .int .i64 (iA + hN + 1)])) ((wB).setCell ⟨R, 2, none⟩ (.int .i64 (iA)))) := by
              unfold Hid ActI; rw [HR3.out]; unfold ins3; rw [if_pos ⟨hf3, rfl⟩]; exact ⟨rfl, HSB.out.set _⟩
             go_wp2_with (fail)
             go_ret2
             exact HFIN.out
            ·have hq3 : bits .and .i64 fl 32768 = 0 := by rw [Dr.flag_32 fl 15 32768 rfl (by omega) hfl.1 (by omega)]; exact if_neg hf3
             have HFIN : Hid (ActI u base g gt sv R (RES) (.returned (.tuple #[.int .i64 iA, .int .i64 (iA + hN + 1)])) (wB)) := by
              unfold Hid ActI; rw [HR3.out]; unfold ins3; rw [if_neg (fun h => hf3 h.1)]; exact ⟨rfl, HSB.out⟩
             go_wp2_with (fail)
             go_ret2
             exact HFIN.out
           )
     ·have e0 : decide ((0 : Int) < (hN : Int)) = false := by simp; omega
      have e00 : ¬ (0 : Int) < (hN : Int) := by omega
      have HR3 : Hid (RES = ins3 ⟨mkA, lfA, dnA, false⟩ xsA iA iA false hN fl) := by
       unfold Hid;rw [HRA.out];unfold ins2;rw [HHH.out, if_neg (by omega), HEND.out]
      have HSB := Bas.hid HSA.out;have HEB := Bas.hid HEA.out;refine HLN.out.mono ?_;rintro e w13 ⟨rfl, rfl⟩;clear c1 c2 lRA d1 d2 lEA;have b1 := cell_of_heap (i := 1) (v := .int .i64 fl) HEB.out rfl;have lE := heap_lt HEB.out;have hRB : (wA).heap[R]? = some (insObj gt g ⟨mkA, lfA, dnA, false⟩) := by obtain ⟨_, _, h, _⟩ := id HSB.out; exact h
      have s2 := cell_of_heap (i := 2) (v := .int .i64 (mkA)) hRB rfl;have h2 := free_of_heap (i := 2) hRB;have m2 := heap_lt hRB;clear hRB;by_cases hf3 : fl / 32768 % 2 = 1
      ·have hq3 : bits .and .i64 fl 32768 = 32768 := by rw [Dr.flag_32 fl 15 32768 rfl (by omega) hfl.1 (by omega)]; exact if_pos hf3
       have HFIN : Hid (ActI u base g gt sv R (RES) (.returned (.tuple #[.int .i64 iA, .int .i64 (iA + hN + 1)])) ((wA).setCell ⟨R, 2, none⟩ (.int .i64 (iA)))) := by
        unfold Hid ActI; rw [HR3.out]; unfold ins3; rw [if_pos ⟨hf3, rfl⟩]; exact ⟨rfl, HSB.out.set _⟩
       go_wp2_with (fail)
       go_ret2
       exact HFIN.out
      ·have hq3 : bits .and .i64 fl 32768 = 0 := by rw [Dr.flag_32 fl 15 32768 rfl (by omega) hfl.1 (by omega)]; exact if_neg hf3
       have HFIN : Hid (ActI u base g gt sv R (RES) (.returned (.tuple #[.int .i64 iA, .int .i64 (iA + hN + 1)])) (wA)) := by
        unfold Hid ActI; rw [HR3.out]; unfold ins3; rw [if_neg (fun h => hf3 h.1)]; exact ⟨rfl, HSB.out⟩
       go_wp2_with (fail)
       go_ret2
       exact HFIN.out
    )
theorem act_any (base g gt R : Nat) (sv : Value) (xs : List Gl) (T : InsD) (s : InsS) (pl en0 fl : Int) (aN bN : Nat) (W0 u : World) (hT : InsAt W0 (.pointer (some ⟨gt, 0, none⟩)) T) (hb0 : Below W0.heap.size W0 u) (hs : ∀ k, blk g sv k ∨ k = R → W0.heap.size ≤ k) (hbase : base ≤ u.heap.size) (hL : LineAt u base g sv xs) (hK : u.heap[R]? = some (insObj gt g s)) (hI : InsInv 0 s xs)
  (hfl : 0 ≤ fl ∧ fl ≤ 65535) (haN : aN ≤ 65535) (hbN : bN ≤ 65535) (hent : entOk T.list.length ⟨en0, fl, aN, bN⟩) (hpl : 0 ≤ pl ∧ pl ≤ 4398046511104) :
  Calls Tryz.prog 93 #[.pointer (some ⟨R, 0, none⟩), .int .i64 pl, .agg #[.int .i64 en0, .int .i64 fl, .int .i64 aN, .int .i64 bN]] u (ActI u base g gt sv R (insF T s xs pl ⟨en0, fl, aN, bN⟩)) := by
 obtain ⟨h1, h2⟩ := here_bd (e := ⟨en0, fl, aN, bN⟩) hfl.1;obtain ⟨hN, hh⟩ := Int.eq_ofNat_of_zero_le h1.1;obtain ⟨mN, hm⟩ := Int.eq_ofNat_of_zero_le h2.1;obtain ⟨e1, e2⟩ := hent;rw [hh] at e1 h1;rw [hm] at e2 h2;simp only at e1 e2;have e1' : hN = 0 ∨ 2 * aN + 2 * hN ≤ T.list.length := by omega
 have e2' : mN = 0 ∨ 2 * bN + 2 * mN ≤ T.list.length := by omega
 obtain ⟨mk, lf, dn, br⟩ := s;cases br with
 | true => exact actA_any base g gt R sv xs T mk lf dn pl en0 fl aN bN hN mN W0 u hT hb0 hs hbase hL hK hI hfl haN hbN hh hm (by omega) (by omega) e1' e2' hpl
 | false =>
  exact actF_any base g gt R sv xs T mk lf dn pl en0 fl aN bN hN mN W0 u hT hb0 hs hbase hL hK hI hfl haN hbN hh hm (by omega) (by omega) e1' e2' hpl
theorem arr3 (x a b : Value) : (#[x] ++ (#[a, b] ++ (#[] : Array Value))) = #[x, a, b] := by simp
theorem here_le (e : EntD) : hereOf e ≤ 31 ∧ markOf e ≤ 31 := by
 unfold hereOf markOf;constructor <;> split <;> omega
theorem ins3_grow {s : InsS} {xs : List Gl} {i own : Int} {end' : Bool} {here fl pl : Int} (h : i ≤ pl + 31) (hh : here ≤ 31) : (ins3 s xs i own end' here fl).2.2.1 ≤ pl + 64 ∧ (ins3 s xs i own end' here fl).2.2.2 ≤ pl + 64 := by
 unfold ins3; simp only; omega
theorem ins2_grow {T : InsD} {e : EntD} {s : InsS} {xs : List Gl} {i pl : Int} (h : i ≤ pl + 31) (hh : hereOf e ≤ 31) : (ins2 T e s xs i).2.2.1 ≤ pl + 64 ∧ (ins2 T e s xs i).2.2.2 ≤ pl + 64 := by
 unfold ins2;split
 ·split
  ·split
   ·simp only; omega
   ·exact ins3_grow h hh
  ·split
   ·simp only; omega
   ·exact ins3_grow h hh
 ·exact ins3_grow h hh
theorem insF_grow {T : InsD} {e : EntD} {s : InsS} {xs : List Gl} {pl : Int} (hh : hereOf e ≤ 31) (hm : markOf e ≤ 31) : (insF T s xs pl e).2.2.1 ≤ pl + 64 ∧ (insF T s xs pl e).2.2.2 ≤ pl + 64 := by
 unfold insF;split
 ·simp only; omega
 ·split
  ·split
   ·simp only; omega
   ·exact ins2_grow (by split <;> omega) hh
  ·exact ins2_grow (by omega) hh
def InR (w : World) (base g gt : Nat) (sv : Value) (D Rb : Nat) (T : InsD) (s : InsS) (xs : List Gl) (S : Nat → Prop) (u : World) : Prop :=
 ∃ sv', LineAt u base g sv' xs ∧ u.heap[Rb]? = some (insObj gt g s) ∧ Mod (blk g sv) w u ∧ (∀ k, sv'.ownBlock = some k → sv.ownBlock = some k ∨ w.heap.size ≤ k) ∧ (∀ k, sv'.ownBlock = some k → k ≠ D) ∧ InsInv 0 s xs ∧ (S = fun k => blk g sv' k ∨ k = Rb) ∧ T = T
def insRun (T : InsD) (left : Int) (xs : List Gl) : List Gl × (Int × Int) :=
 ((dall T.m (insF T) ⟨-1, left, 0, false⟩ xs).1.xs, ((dall T.m (insF T) ⟨-1, left, 0, false⟩ xs).1.st.done, if (dall T.m (insF T) ⟨-1, left, 0, false⟩ xs).1.st.broke = true then 4 else (dall T.m (insF T) ⟨-1, left, 0, false⟩ xs).2))
theorem env_ins (T : InsD) (W0 w : World) (base gm g gt : Nat) (sv : Value) (xs0 : List Gl) (D Rb : Nat) (hT : InsAt W0 (.pointer (some ⟨gt, 0, none⟩)) T) (hok : InsOk T) (hm : MachAt W0 (.pointer (some ⟨gm, 0, none⟩)) T.m) (hb0 : Below W0.heap.size W0 w) (hbase : W0.heap.size ≤ base) (hL : LineAt w base g sv xs0) (hRb : w.heap.size ≤ Rb) (hRD : Rb ≠ D) (hD : w.heap.size ≤ D) :
  Env T.m (insF T) (InR w base g gt sv D Rb T) base gm g D 93 #[.pointer (some ⟨Rb, 0, none⟩)] #[] := by
 have hblk := hL.blk_low;have hbel : ∀ s xs S u, InR w base g gt sv D Rb T s xs S u → Below W0.heap.size W0 u := fun s xs S u hR => by
  obtain ⟨_, _, _, h2, _⟩ := hR;exact h2.below hb0 (fun k hk => Nat.le_trans hbase (hblk k hk).1) hb0.size
 have hg : g < w.heap.size := hL.lt;refine ⟨hok.m, fun s xs S u hR => hm.below (hbel s xs S u hR), fun s xs S u hR => ?_, fun s xs S u hR => ?_, fun s xs S u u' hR hmod => ?_, fun s xs S u pl e hR hDu hpl hpl2 hmem h1 h2 h3 => ?_, fun s xs S u pl e hR hpl => ?_⟩
 ·obtain ⟨sv', h1, _⟩ := hR;exact ⟨sv', h1⟩
 ·obtain ⟨sv', h1, h2, h3, h4, h5, h6, rfl, _⟩ := hR;intro k hk;rcases hk with hk | rfl
  ·refine ⟨(h1.blk_low k hk).2, ?_⟩;rcases hk with rfl | hk
   ·omega
   ·exact h5 k hk
  ·exact ⟨heap_lt h2, hRD⟩
 ·obtain ⟨sv', h1, h2, h3, h4, h5, h6, rfl, _⟩ := hR;refine ⟨sv', h1.mod hmod (fun k hk e => ?_), hmod.heap h2 hRD, h3.trans hmod (fun k hk hlt => by omega), h4, h5, h6, rfl, rfl⟩
  rcases hk with rfl | hk
  ·omega
  ·exact h5 k hk e
 ·have hbu := hbel s xs S u hR;obtain ⟨sv', q1, q2, q3, q4, q5, q6, rfl, _⟩ := hR;obtain ⟨en0, fl, a, b⟩ := e;have hent := hok.ents _ hmem;simp only at h1 h2 h3;obtain ⟨aN, rfl⟩ := Int.eq_ofNat_of_zero_le h2.1;obtain ⟨bN, rfl⟩ := Int.eq_ofNat_of_zero_le h3.1;have hset : ∀ k, blk g sv' k ∨ k = Rb → W0.heap.size ≤ k := fun k hk => by
   rcases hk with hk | rfl
   ·exact Nat.le_trans hbase (q1.blk_low k hk).1
   ·exact Nat.le_trans hb0.size hRb
  have hbu2 : base ≤ u.heap.size := Nat.le_trans q1.low (Nat.le_of_lt q1.lt);have hact := act_any base g gt Rb sv' xs T s pl en0 fl aN bN W0 u hT hbu hset hbu2 q1 q2 q6 h1 (by omega) (by omega) hent ⟨hpl, hpl2⟩
  rw [arr3];refine hact.mono ?_;rintro en u' ⟨rfl, sv2, k1, k2, k3, k4⟩;obtain ⟨hd1, hd2⟩ := here_bd (e := ⟨en0, fl, aN, bN⟩) h1.1;refine ⟨rfl, k3, _, sv2, k1, k2, q3.trans k3 (fun k hk hlt => ?_), fun k hk => ?_, fun k hk => ?_, insF_inv q6 hpl hd1.1 hd2.1, rfl, rfl⟩
  ·rcases hk with (rfl | hk) | rfl
   ·exact .inl rfl
   ·rcases q4 k hk with h | h
    ·exact .inr h
    ·omega
   ·omega
  ·rcases k4 k hk with h | h
   ·exact q4 k h
   ·exact .inr (Nat.le_trans q3.size h)
  ·rcases k4 k hk with h | h
   ·exact q5 k h
   ·omega
 ·exact insF_grow (here_le e).1 (here_le e).2
set_option maxRecDepth 100000 in
set_option maxHeartbeats 8000000 in
theorem insRun_any (base g : Nat) (sv v : Value) (xs : List Gl) (T : InsD) (left : Int) (W0 w : World) (hT : InsAt W0 v T) (hok : InsOk T) (hb0 : Below W0.heap.size W0 w) (hbase : W0.heap.size ≤ base) (hL : LineAt w base g sv xs) (hl0 : 0 ≤ left) (hlen : xs.length + left ≤ 1000000) :
  Calls Tryz.prog 64 #[v, .pointer (some ⟨g, 0, none⟩), .int .i64 left] w fun e w' => e = .returned (.tuple #[.int .i64 (insRun T left xs).2.1, .int .i64 (insRun T left xs).2.2]) ∧ LnTo w base g sv (insRun T left xs).1 w' := by
 have hmf : ∀ (fn : Fn) (first cap : Array Value) (w : World), (Instr.makeFunc fn first cap).run Tryz.prog w = .ok (.func fn first cap) w := fun _ _ _ _ => rfl
 have HTT := Bas.hid hT;obtain ⟨gt, gm, S1, l1, c1, rfl, hgt, hm, -⟩ := hT;have kt := (hb0.block _ (heap_lt hgt)).trans hgt;have hb1 := (Below.refl w.heap.size w).alloc (Nat.le_refl _) (.cells #[.pointer (some ⟨gt, 0, none⟩), .pointer (some ⟨g, 0, none⟩), .int .i64 (-1), .int .i64 left, .int .i64 0, .bool false] 192);have k1 : (w.alloc (.cells #[.pointer (some ⟨gt, 0, none⟩), .pointer (some ⟨g, 0, none⟩), .int .i64 (-1), .int .i64 left, .int .i64 0, .bool false] 192)).heap[w.heap.size]? = some (insObj gt g ⟨-1, left, 0, false⟩) := Bas.heap_new w _;have kt1 := (hb1.block _ (heap_lt kt)).trans kt;have HL := Bas.hid hL;have hsz : (w.alloc (.cells #[.pointer (some ⟨gt, 0, none⟩), .pointer (some ⟨g, 0, none⟩), .int .i64 (-1), .int .i64 left, .int .i64 0, .bool false] 192)).heap.size = w.heap.size + 1 := World.size_alloc _ _;have hown := fun k (hk : sv.ownBlock = some k) => Row.own_block hL.own hk
 have hR : InR w base g gt sv (w.heap.size + 1) w.heap.size T ⟨-1, left, 0, false⟩ xs (fun k => blk g sv k ∨ k = w.heap.size) (w.alloc (.cells #[.pointer (some ⟨gt, 0, none⟩), .pointer (some ⟨g, 0, none⟩), .int .i64 (-1), .int .i64 left, .int .i64 0, .bool false] 192)) :=
  ⟨sv, hL.below hb1, k1, Mod.of_below hb1, fun _ h => .inl h, fun k hk => by have := (hown k hk).2; omega, ⟨⟨by simp only; omega, by simp only; omega⟩, hl0, by simp only; omega, by simp only; omega, hlen, rfl⟩, rfl, rfl⟩
 have HE := Bas.hid (env_ins T W0 w base gm g gt sv xs (w.heap.size + 1) w.heap.size HTT.out hok hm hb0 hbase hL (Nat.le_refl _) (by omega) (by omega))
 have HR := Bas.hid hR;have c0 := cell_of_heap (i := 0) kt1 rfl;have lt := heap_lt kt1;clear hR hL hm kt hgt kt1 hown k1 hb1;go_enter Tryz.func64, Tryz.ntmps64
 go_wp2_with (fail);generalize (w.alloc (.cells #[.pointer (some ⟨gt, 0, none⟩), .pointer (some ⟨g, 0, none⟩), .int .i64 (-1), .int .i64 left, .int .i64 0, .bool false] 192)) = W1 at *;have HRUN := Bas.hid (run_any T.m (insF T) (InR w base g gt sv (w.heap.size + 1) w.heap.size T) base gm g 93 #[.pointer (some ⟨w.heap.size, 0, none⟩)] #[] W1 (by rw [hsz]; exact HE.out) (fun args w => by simp [go_sem]) ⟨-1, left, 0, false⟩ xs _ HR.out (by omega))
 refine HRUN.out.mono ?_;rintro e w2 ⟨rfl, -, S', hR2⟩;clear c0 lt HRUN;obtain ⟨sv2, h1, h2, h3, h4, -⟩ := hR2;have HTO : Hid (LnTo w base g sv (insRun T left xs).1 w2) := ⟨sv2, h1, h3, h4⟩;have HI1 : Hid ((insRun T left xs).2.1 = (dall T.m (insF T) ⟨-1, left, 0, false⟩ xs).1.st.done) := rfl;have HI2 : Hid ((insRun T left xs).2.2 = if (dall T.m (insF T) ⟨-1, left, 0, false⟩ xs).1.st.broke = true then 4 else (dall T.m (insF T) ⟨-1, left, 0, false⟩ xs).2) := rfl
 clear h1 h3 h4 hsz;generalize dall T.m (insF T) ⟨-1, left, 0, false⟩ xs = R at *;obtain ⟨⟨⟨mk2, lf2, dn2, br2⟩, ys2, q3, q4, q5, q6⟩, er⟩ := R;simp only at h2 HI1 HI2;have r5 := cell_of_heap (i := 5) (v := .bool br2) h2 rfl;have r4 := cell_of_heap (i := 4) (v := .int .i64 dn2) h2 rfl;have lr := heap_lt h2;cases br2 with
 | true =>
  go_wp2_with (fail)
  go_ret2
  exact ⟨by rw [HI1.out, HI2.out]; simp only [if_true]; rfl, HTO.out⟩
 | false =>
  go_wp2_with (fail)
  go_ret2
  exact ⟨by rw [HI1.out, HI2.out, if_neg (by simp)]; rfl, HTO.out⟩
end In
namespace Lg
open Vw Ch Lk St Ln Dr
def PlV (w : World) (PB : Nat) (rb : Option Nat) (ps : List Int) : Prop := ∃ v, w.heap[PB]? = some (.cells #[v] 177 (0, 0)) ∧ OffRow w v rb ps
def plB (PB : Nat) (rb : Option Nat) (k : Nat) : Prop := k = PB ∨ rb = some k
theorem PlV.ne {w : World} {PB : Nat} {rb : Option Nat} {ps : List Int} (h : PlV w PB rb ps) : rb ≠ some PB := by
 obtain ⟨v, h1, h⟩ := h;rcases h with ⟨_, rfl, _⟩ | ⟨b, off, cap, cur, _, rfl, h3, _⟩
 ·simp
 ·intro e; cases e;rw [h1] at h3;injection h3 with h3
  injection h3 with _ h3 _
  exact absurd h3 (by decide)
theorem PlV.keep {w w' : World} {PB : Nat} {rb : Option Nat} {ps : List Int} (h : PlV w PB rb ps) (hk : ∀ k, plB PB rb k → w'.heap[k]? = w.heap[k]?) : PlV w' PB rb ps := by
 obtain ⟨v, h1, h2⟩ := h;exact ⟨v, (hk PB (.inl rfl)).trans h1, h2.keep fun b hb => hk b (.inr hb)⟩
theorem PlV.lt {w : World} {PB : Nat} {rb : Option Nat} {ps : List Int} (h : PlV w PB rb ps) : ∀ k, plB PB rb k → k < w.heap.size := by
 obtain ⟨v, h1, h2⟩ := h;rintro k (rfl | hk)
 ·exact heap_lt h1
 ·exact h2.lt k hk
theorem PlV.put {w w' : World} {PB : Nat} {rb rb' : Option Nat} {ps ps' : List Int} {v' : Value} (h : PlV w PB rb ps) (hm : Mod (fun k => rb = some k) w w') (ho : OffRow w' v' rb' ps') (hne : rb' ≠ some PB) : PlV (w'.setCell ⟨PB, 0, none⟩ v') PB rb' ps' := by
 obtain ⟨v, h1, h2⟩ := id h;have h3 := hm.heap h1 h.ne;refine ⟨v', heap_set (i := 0) h3 v', ho.keep fun b hb => Below.heap_setCell _ _ _ _ (fun e => hne (by rw [hb, e]))⟩
def pushL (ps : List Int) (i : Int) : List Int := if 0 < ps.length ∧ ps[ps.length - 1]? = some i then ps else if 64 < ps.length + 1 then (ps ++ [i]).drop 1 else ps ++ [i]
theorem pushL_len (ps : List Int) (i : Int) (h : ps.length ≤ 64) : (pushL ps i).length ≤ 64 := by
 unfold pushL; split
 ·exact h
 ·split <;> simp <;> omega
def PlTo (w : World) (PB : Nat) (rb : Option Nat) (ps : List Int) (w' : World) : Prop := ∃ rb', PlV w' PB rb' ps ∧ Mod (plB PB rb) w w' ∧ ∀ k, rb' = some k → rb = some k ∨ w.heap.size ≤ k
set_option maxRecDepth 100000 in
set_option maxHeartbeats 4000000 in
theorem push_any (PB : Nat) (rb : Option Nat) (ps : List Int) (i : Int) (w : World) (h : PlV w PB rb ps) (hps : ps.length ≤ 64) :
  Calls Tryz.prog 88 #[.pointer (some ⟨PB, 0, none⟩), .int .i64 i] w fun e w' => e = .returned (.tuple #[]) ∧ PlTo w PB rb (pushL ps i) w' := by
 have HP := Bas.hid h;obtain ⟨v, hv, ho⟩ := id h;have HV := Bas.hid hv;have HO := Bas.hid ho;obtain ⟨a, c, rfl⟩ := ho.slice;have p0 := cell_of_heap (i := 0) hv rfl;have lp := heap_lt hv;have fp := free_of_heap (i := 0) hv;obtain ⟨n, hn⟩ : ∃ n, ps.length = n := ⟨_, rfl⟩;have HN := Bas.hid hn;rw [hn] at hps p0 HV HO;have HSAME : Hid (0 < ps.length ∧ ps[ps.length - 1]? = some i → PlTo w PB rb (pushL ps i) w) := fun hc => by
  unfold pushL; rw [if_pos hc]; exact ⟨rb, HP.out, Mod.refl _ _, fun k hk => .inl hk⟩
 -- what follows the first question
 by_cases hc : 0 < ps.length ∧ ps[ps.length - 1]? = some i
 ·obtain ⟨b, off, cap, hv2, hle, hcm, hcell⟩ := HO.out.cell hc.2;rw [HN.out] at hv2 hle hcell;have hn0 : 0 < n := by rw [← hn]; exact hc.1
  cases hv2;obtain ⟨m, rfl⟩ : ∃ m, n = m + 1 := ⟨n - 1, by omega⟩
  rw [Nat.add_sub_cancel] at hcell;have lb := World.block_lt_of_cell? _ _ hcell;have e1 : decide ((0 : Int) < ((m + 1 : Nat) : Int)) = true := by simp
  have HR := Bas.hid (HSAME.out hc);clear h hv ho hn hc;go_enter Tryz.func88, Tryz.ntmps88
  go_wp2_with (fail);exact bodyPost_ret (v := .tuple #[]) (by simp [results, Tryz.results88, go_sem]) rfl ⟨rfl, HR.out⟩
 ·have HPU : Hid (pushL ps i = if 64 < n + 1 then (ps ++ [i]).drop 1 else ps ++ [i]) := by unfold Hid pushL; rw [if_neg hc, HN.out]
  have hbN := Bas.heap_new w (.cells #[.int .i64 i] 177);have hb1 := (Below.refl w.heap.size w).alloc (Nat.le_refl _) (.cells #[.int .i64 i] 3);have HTAIL : Hid (∀ W1 : World, Below w.heap.size w W1 → W1.cell? ⟨w.heap.size, 0, none⟩ = some (.int .i64 i) → PlV W1 PB rb ps) := fun W1 hb _ => HP.out.keep fun k hk => hb.block k (HP.out.lt k hk)
  have hcase : (n = 0) ∨ (0 < n ∧ ∃ x, ps[n - 1]? = some x ∧ x ≠ i) := by
   by_cases h0 : n = 0
   ·exact .inl h0
   ·have hl : n - 1 < ps.length := by omega
    refine .inr ⟨by omega, ps[n - 1], List.getElem?_eq_getElem hl, fun e => hc ⟨by omega, ?_⟩⟩
    rw [hn, List.getElem?_eq_getElem hl, e]
  clear hbN hb1 h hv ho hn hc HSAME;rcases hcase with h0 | ⟨h0, x, hx, hxi⟩
  ·subst h0;have e1 : decide ((0 : Int) < ((0 : Nat) : Int)) = false := by simp
   go_enter Tryz.func88, Tryz.ntmps88
   go_wp2_with (at_builtin; refine Row.fence ?_);refine Row.unfence ?_;have hb1 := (Below.refl w.heap.size w).alloc (Nat.le_refl _) (.cells #[.int .i64 i] 3);have q1 := Bas.heap_new w (.cells #[.int .i64 i] 3);have cq := cell_of_heap (i := 0) q1 rfl;have HO1 := Bas.hid (HO.out.keep (fun k hk => hb1.block k (HO.out.lt k hk)))
   have HV1 := Bas.hid ((hb1.block _ (heap_lt HV.out)).trans HV.out);have HP1 := Bas.hid (HTAIL.out _ hb1 cq);have HB1 := Bas.hid hb1;clear hb1 q1 p0 lp fp;generalize (w.alloc (.cells #[.int .i64 i] 3)) = W1 at *;refine append_off rfl _ _ 177 rfl Tryz.underlying177 _ rb ps rfl HO1.out (by rw [HN.out]; omega) _ i rfl cq ?_
   intro v2 w2 rb2 ho2 hm2 hrb2;have hl2 : (ps ++ [i]).length = 1 := by rw [List.length_append, HN.out]; rfl
   have HRB2 := Bas.hid hrb2;have HM2 := Bas.hid hm2;obtain ⟨a2, c2, rfl⟩ := ho2.slice;rw [hl2] at ho2;rw [hl2];have HO2 := Bas.hid ho2;have k2 := hm2.heap HV1.out HP1.out.ne;have HK2 := Bas.hid k2;have hne2 : rb2 ≠ some PB := fun e => by
    rcases hrb2 PB e with h | h
    ·exact HP1.out.ne h
    ·have := heap_lt HV1.out; omega
   have HNE2 := Bas.hid hne2;have HPV := Bas.hid (HP1.out.put hm2 ho2 hne2);have k3 := heap_set (i := 0) k2 (.slice a2 (1) c2);have HMW := Bas.hid ((Mod.of_below (S := plB PB rb) HB1.out).trans (hm2.mono (fun k hk _ => .inr hk)) (fun k hk _ => hk))
   have p2 := cell_of_heap (i := 0) k2 rfl;have lp2 := heap_lt k2;have fp2 := free_of_heap (i := 0) k2;have hlen2 : PlTo w PB rb (ps ++ [i]) (w2.setCell ⟨PB, 0, none⟩ (.slice a2 (1) c2)) := ⟨rb2, by rw [← hl2]; rw [← hl2] at HO2; exact HP1.out.put hm2 HO2.out hne2, HMW.out.set _ (.inl (.inl rfl)), fun k hk => (hrb2 k hk).imp id (fun h => Nat.le_trans HB1.out.size h)⟩
   have HFIN := Bas.hid hlen2;clear hrb2 hm2 ho2 k2 hne2 hlen2 hl2 cq;have p3 := cell_of_heap (i := 0) k3 rfl;go_wp2_with (fail)
   go_end0
   exact ⟨rfl, by rw [HPU.out, if_neg (by omega)]; exact HFIN.out⟩
  ·obtain ⟨b, off, cap, hv2, hle, hcm, hcell⟩ := HO.out.cell hx;rw [HN.out] at hv2 hle;cases hv2;obtain ⟨m, rfl⟩ : ∃ m, n = m + 1 := ⟨n - 1, by omega⟩
   rw [Nat.add_sub_cancel] at hcell;have lb := World.block_lt_of_cell? _ _ hcell;have e1 : decide ((0 : Int) < ((m + 1 : Nat) : Int)) = true := by simp
   have e2 : (x == i) = false := by simpa using hxi
   have e3 : decide (x = i) = false := by simpa using hxi
   clear hx;go_enter Tryz.func88, Tryz.ntmps88
   go_wp2_with (at_builtin; refine Row.fence ?_);refine Row.unfence ?_;have hb1 := (Below.refl w.heap.size w).alloc (Nat.le_refl _) (.cells #[.int .i64 i] 3);have q1 := Bas.heap_new w (.cells #[.int .i64 i] 3);have cq := cell_of_heap (i := 0) q1 rfl;have HO1 := Bas.hid (HO.out.keep (fun k hk => hb1.block k (HO.out.lt k hk)))
   have HV1 := Bas.hid ((hb1.block _ (heap_lt HV.out)).trans HV.out);have HP1 := Bas.hid (HTAIL.out _ hb1 cq);have HB1 := Bas.hid hb1;clear hb1 q1 p0 lp fp hcell lb;generalize (w.alloc (.cells #[.int .i64 i] 3)) = W1 at *;refine append_off rfl _ _ 177 rfl Tryz.underlying177 _ rb ps rfl HO1.out (by rw [HN.out]; omega) _ i rfl cq ?_
   intro v2 w2 rb2 ho2 hm2 hrb2;have hl2 : (ps ++ [i]).length = (m + 1 + 1) := by rw [List.length_append, HN.out]; rfl
   have HRB2 := Bas.hid hrb2;have HM2 := Bas.hid hm2;obtain ⟨a2, c2, rfl⟩ := ho2.slice;rw [hl2] at ho2;rw [hl2];have HO2 := Bas.hid ho2;have k2 := hm2.heap HV1.out HP1.out.ne;have HK2 := Bas.hid k2;have hne2 : rb2 ≠ some PB := fun e => by
    rcases hrb2 PB e with h | h
    ·exact HP1.out.ne h
    ·have := heap_lt HV1.out; omega
   have HNE2 := Bas.hid hne2;have HPV := Bas.hid (HP1.out.put hm2 ho2 hne2);have k3 := heap_set (i := 0) k2 (.slice a2 ((m + 1 + 1)) c2);have HMW := Bas.hid ((Mod.of_below (S := plB PB rb) HB1.out).trans (hm2.mono (fun k hk _ => .inr hk)) (fun k hk _ => hk))
   have p2 := cell_of_heap (i := 0) k2 rfl;have lp2 := heap_lt k2;have fp2 := free_of_heap (i := 0) k2;have hlen2 : PlTo w PB rb (ps ++ [i]) (w2.setCell ⟨PB, 0, none⟩ (.slice a2 ((m + 1 + 1)) c2)) := ⟨rb2, by rw [← hl2]; rw [← hl2] at HO2; exact HP1.out.put hm2 HO2.out hne2, HMW.out.set _ (.inl (.inl rfl)), fun k hk => (hrb2 k hk).imp id (fun h => Nat.le_trans HB1.out.size h)⟩
   have HFIN := Bas.hid hlen2;clear hrb2 hm2 ho2 k2 hne2 hlen2 hl2 cq;have lp3 := heap_lt k3;have fp3 := free_of_heap (i := 0) k3;have p3 := cell_of_heap (i := 0) k3 rfl;have HK3 := Bas.hid k3;by_cases h64 : m = 63
   ·subst h64;obtain ⟨b2, o2, cp2, hv3, hle3, hcm3, hc3⟩ := HO2.out.cell (j := 0) (x := (ps ++ [i])[0]'(by rw [List.length_append, HN.out]; omega)) (List.getElem?_eq_getElem _)
    rw [List.length_append, HN.out] at hv3 hle3;cases hv3;have h1c : 1 < c2 := by simp at hle3; omega
    go_wp2_with (fail)
    go_end0
    have ho3 := HO2.out.keep (w' := w2.setCell ⟨PB, 0, none⟩ (.slice (some ⟨b2, o2, none⟩) (63 + 1 + 1) c2)) (fun k hk => Below.heap_setCell _ _ _ _ (by exact fun e => HNE2.out (by rw [hk, e])))
    have ho4 : OffRow (w2.setCell ⟨PB, 0, none⟩ (.slice (some ⟨b2, o2, none⟩) (63 + 1 + 1) c2)) (.slice (some ⟨b2, o2 + 1, none⟩) 64 (c2 - 1)) rb2 ((ps ++ [i]).drop 1) := ho3.tail (by omega)
    obtain ⟨rb3, g1, g2, g3⟩ := HFIN.out;refine ⟨rfl, rb2, ?_, g2.set _ (.inl (.inl rfl)), fun k hk => (HRB2.out k hk).imp id (fun h => Nat.le_trans HB1.out.size h)⟩
    rw [HPU.out, if_pos (by omega)]
    exact HPV.out.put (Mod.refl _ _) ho4 HNE2.out
   ·have f1 : ¬ (64 : Int) < (m : Int) + 1 + 1 := by omega
    have f2 : decide ((64 : Int) < (m : Int) + 1 + 1) = false := by simpa using f1
    have f3 : decide ((64 : Int) < ((m + 1 + 1 : Nat) : Int)) = false := by simp; omega
    go_wp2_with (fail)
    go_end0
    exact ⟨rfl, by rw [HPU.out, if_neg (by omega)]; exact HFIN.out⟩
def popL (ps : List Int) : Option (Int × List Int) := match ps[ps.length - 1]? with
 | some x => some (x, ps.dropLast)
 | none => none
def PopP (w : World) (PB : Nat) (rb : Option Nat) (ps : List Int) (e : Ending) (w' : World) : Prop := match popL ps with
 | none => e = .returned (.tuple #[.int .i64 0, .bool false]) ∧ w = w'
 | some (x, ps') => e = .returned (.tuple #[.int .i64 x, .bool true]) ∧ PlV w' PB rb ps' ∧ Mod (fun k => k = PB) w w'
set_option maxRecDepth 100000 in
set_option maxHeartbeats 4000000 in
theorem pop_any (PB : Nat) (rb : Option Nat) (ps : List Int) (w : World) (h : PlV w PB rb ps) (hps : ps.length ≤ 64) :
  Calls Tryz.prog 112 #[.pointer (some ⟨PB, 0, none⟩)] w (PopP w PB rb ps) := by
 have HP := Bas.hid h;obtain ⟨v, hv, ho⟩ := id h;have HV := Bas.hid hv;have HO := Bas.hid ho;obtain ⟨a, c, rfl⟩ := ho.slice;have p0 := cell_of_heap (i := 0) hv rfl;have lp := heap_lt hv;have fp := free_of_heap (i := 0) hv;obtain ⟨n, hn⟩ : ∃ n, ps.length = n := ⟨_, rfl⟩;have HN := Bas.hid hn;rw [hn] at hps p0 HV HO;cases hg : ps[ps.length - 1]? with
 | none =>
  have hn0 : n = 0 := by
   have := List.getElem?_eq_none_iff.1 hg;omega
  have HR : Hid (PopP w PB rb ps (.returned (.tuple #[.int .i64 0, .bool false])) w) := by unfold Hid PopP popL; rw [hg]; exact ⟨rfl, rfl⟩
  subst hn0;clear h hv ho hn hg;go_enter Tryz.func112, Tryz.ntmps112
  go_wp2_with (fail)
  go_ret2
  exact HR.out
 | some x =>
  have HG := Bas.hid hg;obtain ⟨b, off, cap, hv2, hle, hcm, hcell⟩ := HO.out.cell hg;rw [HN.out] at hv2 hle hcell;have hn0 : 0 < n := by
   have := (List.getElem?_eq_some_iff.1 hg).1;omega
  cases hv2;obtain ⟨m, rfl⟩ : ∃ m, n = m + 1 := ⟨n - 1, by omega⟩
  rw [Nat.add_sub_cancel] at hcell;have lb := World.block_lt_of_cell? _ _ hcell;have e1 : decide (((m + 1 : Nat) : Int) = 0) = false := by simp; omega
  have e2 : (((m + 1 : Nat) : Int) == 0) = false := by simp; omega
  have e3 : ¬ ((m : Int) + 1 = 0) := by omega
  have e4 : decide ((m : Int) + 1 = 0) = false := by simp; omega
  have e5 : ((m : Int) + 1 == 0) = false := by simp; omega
  have hmc : m ≤ c := by omega
  clear h hv ho hn hg;go_enter Tryz.func112, Tryz.ntmps112
  go_wp2_with (fail);have HR : Hid (PopP w PB rb ps (.returned (.tuple #[.int .i64 x, .bool true])) (w.setCell ⟨PB, 0, none⟩ (.slice (some ⟨b, off, none⟩) m c))) := by
   unfold Hid PopP popL;rw [HG.out];exact ⟨rfl, HP.out.put (Mod.refl _ _) (HO.out.init) HP.out.ne, (Mod.refl _ _).set _ (.inl rfl)⟩
  go_ret2
  exact HR.out
end Lg
namespace Vw
set_option maxHeartbeats 400000 in
theorem len_any (a : Option Addr) (len cap : Nat) (w : World) :
  Calls Tryz.prog 137 #[.agg #[.slice a len cap]] w fun e w' => e = .returned (.int .i64 len) ∧ Below w.heap.size w w' := by
 go_enter Tryz.func137, Tryz.ntmps137
 go_wp2;go_ret;exact ⟨rfl, (Below.refl _ _).alloc (Nat.le_refl _) _⟩
end Vw
namespace Lg
open Vw Ch Lk St Ln Dr
def offA (a : Int) : Int := wrap64 (wrap32 (a * 4 % 4294967296)) / 4
set_option maxRecDepth 100000 in
theorem offset_any (a : Int) (w : World) (h0 : 0 ≤ a) (h1 : a ≤ 4294967295) :
  Calls Tryz.prog 114 #[.int .i64 a] w fun e w' => e = .returned (.int .i64 (offA a)) ∧ w = w' := by
 go_enter Tryz.func114, Tryz.ntmps114
 go_wp2_with (fail);go_ret;exact ⟨rfl, rfl⟩
def entL (bs : List Int) (i : Int) : Option Int := if i < 0 ∨ (bs.length : Int) / 2 ≤ i then none else some (be bs (2 * i.toNat) 2)
def entV : Option Int → Value
 | some x => .tuple #[.int .i64 x, .bool true]
 | none => .tuple #[.int .i64 0, .bool false]
set_option maxRecDepth 100000 in
set_option maxHeartbeats 4000000 in
theorem entry_any (a : Option Addr) (len : Nat) (bs : List Int) (i : Int) (w : World) (hc : len ≤ maxLen) (hv : VB w a bs) (hbl : bs.length = len) :
  Calls Tryz.prog 113 #[.agg #[.slice a len len], .int .i64 i] w fun e w' => e = .returned (entV (entL bs i)) ∧ Below w.heap.size w w' := by
 have k1 := Bas.heap_new w (.cells #[.slice a len len] 52);have hb1 := (Below.refl w.heap.size w).alloc (Nat.le_refl _) (.cells #[.slice a len len] 52);have HB1 := Bas.hid hb1;have HK1 := Bas.hid k1;have HV := Bas.hid hv;have HBL := Bas.hid hbl;clear hv hbl hb1;by_cases hi : i < 0
 ·have HE : Hid (entL bs i = none) := by unfold Hid entL; rw [if_pos (.inl hi)]
  have e1 : decide (i < 0) = true := by simpa using hi
  go_enter Tryz.func113, Tryz.ntmps113
  go_wp2_with (fail)
  go_ret2
  exact ⟨by rw [HE.out]; rfl, HB1.out⟩
 ·have e1 : decide (i < 0) = false := by simpa using hi
  have c0 := cell_of_heap (i := 0) k1 rfl;have lk := heap_lt k1;have hlm : len ≤ 9223372036854775807 := by unfold maxLen at hc; omega
  have hlm2 : (len : Int) ≤ 9223372036854775807 := by omega
  go_enter Tryz.func113, Tryz.ntmps113
  go_wp2_with (fail);refine (Vw.len_any _ _ _ _).mono ?_;rintro e w2 ⟨rfl, hb2⟩;have HB2 := Bas.hid (HB1.out.trans (hb2.mono HB1.out.size));have k2 := (hb2.block _ (heap_lt HK1.out)).trans HK1.out;have c0' := cell_of_heap (i := 0) k2 rfl;have lk2 := heap_lt k2;clear hb2 c0 lk k1 k2 HB1 HK1;by_cases hq2 : (len : Int) / 2 ≤ i
  ·have HE : Hid (entL bs i = none) := by unfold Hid entL; rw [if_pos (.inr (by rw [HBL.out]; exact hq2))]
   have e2 : decide ((len : Int) / 2 ≤ i) = true := by simpa using hq2
   go_wp2_with (fail)
   go_ret2
   exact ⟨by rw [HE.out]; rfl, HB2.out⟩
  ·have HE : Hid (entL bs i = some (be bs (2 * i.toNat) 2)) := by unfold Hid entL; rw [if_neg (by rw [HBL.out]; omega)]
   have e2 : decide ((len : Int) / 2 ≤ i) = false := by simpa using hq2
   have hi2 : 2 * i + 2 ≤ len := by omega
   have him : i ≤ 9223372036854775807 := by unfold maxLen at hc; omega
   have HU := Bas.hid (u16_ok a len len bs (2 * i) w2 (Nat.le_refl _) hc (HV.out.below HB2.out) HBL.out (by omega) hi2)
   have hw2 : wrap64 (2 * i) = 2 * i := by unfold maxLen at hc; simp only [wrap64]; omega
   go_wp2_with (fail);refine HU.out.mono ?_;rintro e w3 ⟨rfl, hb3⟩;have HB3 := Bas.hid (HB2.out.trans (hb3.mono HB2.out.size));clear hb3;go_wp2_with (fail)
   go_ret2
   have htn : (2 * i).toNat = 2 * i.toNat := by omega
   exact ⟨by rw [HE.out, htn]; rfl, HB3.out⟩
end Lg
namespace Ln
open Ch
def joinStep (i : Int) (xs : List Gl) (k : Int) : List Gl := match glAt xs k, glAt xs i with
 | some g, some h => setCl xs i (min h.2 g.2)
 | _, _ => xs
theorem joinL_eq {xs : List Gl} {i : Int} {x : Gl} (h : glAt xs i = some x) (ks : List Int) : joinL xs i ks = ks.foldl (joinStep i) xs := by
 unfold joinL; rw [h]; rfl
theorem joinStep_len (i : Int) (xs : List Gl) (k : Int) : (joinStep i xs k).length = xs.length := by
 unfold joinStep;split
 ·unfold setCl; split <;> simp
 ·rfl
set_option maxRecDepth 100000 in
set_option maxHeartbeats 4000000 in
theorem join_any (base g : Nat) (sv va : Value) (xs : List Gl) (i : Int) (ks : List Int) (n : Nat) (w : World) (h : LineAt w base g sv xs) (hl : ∀ w', Mod (blk g sv) w w' → Row.Leads w' va n (ks.map (Value.int .i64))) (hn : ks.length = n) (hn2 : n ≤ 4294967296) :
  Calls Tryz.prog 138 #[.pointer (some ⟨g, 0, none⟩), .int .i64 i, va] w fun e w' => e = .returned (.tuple #[]) ∧ LnTo w base g sv (joinL xs i ks) w' := by
 obtain ⟨ad, cp, rfl⟩ : ∃ ad cp, va = .slice ad n cp := by
  rcases hl w (Mod.refl _ _) with ⟨rfl, rfl, _⟩ | ⟨ad, cp, rfl, _⟩
  ·exact ⟨none, 0, rfl⟩
  ·exact ⟨_, _, rfl⟩
 have HIN := Bas.hid (in_any base g sv xs i w h);obtain ⟨hy, hno⟩ := glAt_in (xs := xs) (i := i);obtain ⟨b, hb⟩ : ∃ b, inL xs.length i = b := ⟨_, rfl⟩;rw [hb] at HIN hy hno;have HL := Bas.hid hl;have HN := Bas.hid hn;have HH := Bas.hid h;clear hl hn hb;cases b with
 | false =>
  have HR : Hid (LnTo w base g sv (joinL xs i ks) w) := by
   unfold Hid joinL;rw [hno rfl];exact LnTo.refl h
  clear hy hno h;go_enter Tryz.func138, Tryz.ntmps138
  go_wp2_with (fail);refine HIN.out.mono ?_;rintro e w2 ⟨rfl, rfl⟩;go_wp2_with (fail);refine bodyPost_ret (results_none rfl _ _ _) rfl ?_;exact ⟨rfl, HR.out⟩
 | true =>
  obtain ⟨p, x0, rfl, hp, hx0, hg0⟩ := hy rfl;have HJ := Bas.hid (joinL_eq hg0 ks);obtain ⟨m, hm⟩ : ∃ m, xs.length = m := ⟨_, rfl⟩;rw [hm] at hp;have HM := Bas.hid hm;clear hy hno h hx0 hg0 hm;go_enter Tryz.func138, Tryz.ntmps138
  go_wp2_with (fail);refine HIN.out.mono ?_;rintro e w2 ⟨rfl, rfl⟩;go_wp2_with (fail);go_loopw [16] (fun vi wr => ∃ (j : Nat) (ys : List Gl), j ≤ n ∧ vi = .int .i64 j ∧ LineAt wr base g sv ys ∧ ys = (ks.take j).foldl (joinStep (p : Int)) xs ∧ ys.length = m ∧ Mod (blk g sv) w wr) (fun vi _ => n - (intOf vi).toNat)
  case atStart => exact ⟨0, xs, Nat.zero_le _, rfl, HH.out, rfl, HM.out, Mod.refl _ _⟩
  case round =>
   obtain ⟨j, ys, hj, rfl, hA, hys, hyl, hmod⟩ := hrel;have HA := Bas.hid hA;have HY := Bas.hid hys;have HYL := Bas.hid hyl;have HMD := Bas.hid hmod;by_cases hjn : j < n
   ·have e1 : decide ((j : Int) < (n : Int)) = true := by simp; omega
    have e2 : decide (j < n) = true := by simp; omega
    obtain ⟨k, hk⟩ : ∃ k, ks[j]? = some k := ⟨_, List.getElem?_eq_getElem (by rw [HN.out]; exact hjn)⟩
    obtain ⟨bo, oo, c2, hv, hc⟩ := St.leads_at (HL.out wr hmod) (i := j) (u := .int .i64 k) (by rw [List.getElem?_map, hk]; rfl)
    cases hv;have lb := World.block_lt_of_cell? _ _ hc;have HTK : Hid ((ks.take (j + 1)).foldl (joinStep (p : Int)) xs = joinStep p ys k) := by
     unfold Hid;rw [List.take_add_one, hk, HY.out];simp
    have HAT := Bas.hid (at_any base g sv ys k wr hA);clear hA hys hyl hmod hk;go_wp2_with (fail);refine HAT.out.mono ?_;rintro e w3 ⟨rfl, hb3⟩;clear HAT;cases hgk : glAt ys k with
    | none =>
     have HJS : Hid (joinStep p ys k = ys) := by unfold Hid joinStep; rw [hgk]
     clear hgk hc lb;simp only [atV];have kN := Bas.heap_new w3 (.cells #[.int .i64 0, .int .i64 0] 47);have hbn := hb3.trans ((Below.refl w3.heap.size w3).alloc (Nat.le_refl _) (.cells #[.int .i64 0, .int .i64 0] 47) |>.mono hb3.size);go_wp2_with (fail);have HA4 := Bas.hid (HA.out.below hbn);have HMD4 := Bas.hid (HMD.out.on hbn);have hl3 := hb3.size;clear hbn hb3;clear kN;go_roundw
     case rel => exact ⟨j + 1, ys, by omega, by go_num, HA4.out, by rw [HTK.out, HJS.out], HYL.out, HMD4.out⟩
     case measure => simp [intOf]; omega
    | some y =>
     clear hc lb;obtain ⟨y0, y1⟩ := y;have HGK := Bas.hid hgk;clear hgk;simp only [atV];have kN := Bas.heap_new w3 (.cells #[.int .i64 y0, .int .i64 y1] 47);have hbn := hb3.trans ((Below.refl w3.heap.size w3).alloc (Nat.le_refl _) (.cells #[.int .i64 y0, .int .i64 y1] 47) |>.mono hb3.size);go_wp2_with (fail);have HA4 := Bas.hid (HA.out.below hbn);have HMD4 := Bas.hid (HMD.out.on hbn);have hl3 := hb3.size;clear hbn hb3;generalize (w3.alloc (.cells #[.int .i64 y0, .int .i64 y1] 47)) = W4 at *;obtain ⟨⟨z0, z1⟩, hz⟩ : ∃ z, ys[p]? = some z := ⟨_, List.getElem?_eq_getElem (by rw [HYL.out]; exact hp)⟩
     have HZ := Bas.hid hz;obtain ⟨br, cq, rfl, hlt, hbr, hne, c0, c1, hfr⟩ := line_row HA4.out hz;have g0 := cell_of_heap (i := 0) HA4.out.head rfl;have lg := HA4.out.lt;rw [HYL.out] at g0;have n1 := cell_of_heap (i := 1) (v := .int .i64 y1) kN rfl;have lN := heap_lt kN;have fz := hfr (p * 2 + 1);have e5 : decide ((p : Int) < (m : Int)) = true := by simp; omega
     simp only at c0 c1;clear hz hfr kN;by_cases hzy : z1 ≤ y1
     ·have q1 : decide (y1 < z1) = false := by simpa using hzy
      have HV : Hid (joinStep p ys k = ys.set p (z0, z1)) := by
       unfold Hid joinStep setCl;have hg : glAt ys (p : Int) = some (z0, z1) := by unfold glAt; rw [if_pos (by omega), Int.toNat_natCast, HZ.out]
       rw [HGK.out];simp only [hg, Int.toNat_natCast];rw [show min z1 y1 = z1 by omega]
      refine' Pl.region_v0 46 [] [0, 1, 2, 3, 4, 5, 6, 7, 8, 9, 10, 11, 12, 13, 14, 15, 16, 17] [18] _ (by kernel_rfl) (by kernel_rfl) (by simp) (fun _ _ _ _ e h => ⟨e ▸ h.1, h.2⟩) ?_ ?_
      rotate_left
      ·intro I F hI hF;simp only [Pl.selN, List.nil_append, List.drop_succ_cons, List.drop_zero];have t0 := fun i => hF.cell lg g0 i
       have t1 := fun i => hF.cell hlt c1 i
       have t2 := fun i => hF.cell lN n1 i
       repeat (go_big_quiet_step (fail))
       refine wpQuiet_nil ?_;rfl
      intro w5 hw5;simp only [Pl.selN, List.drop_succ_cons, List.drop_zero];have HA5 := Bas.hid (HA4.out.below hw5);have HMD5 := Bas.hid (HMD4.out.on hw5);obtain ⟨br2, cq2, hsv, hlt5, _, _, d0, d1, hfr5⟩ := line_row HA5.out HZ.out;cases hsv;simp only at d1;have h0 := cell_of_heap (i := 0) HA5.out.head rfl;rw [HYL.out] at h0;have l5 := HA5.out.lt;have fz5 := hfr5 (p * 2 + 1);have HP := Bas.hid (line_put HA5.out hne (p * 2 + 1) (.int .i64 z1) _ (glC_set2 ys p z1 (z0, z1) HZ.out) (by simp))
      clear hw5 d0 hfr5 g0 c0 c1 n1 lg hlt lN fz;go_wp2_with (fail);go_roundw
      case rel => exact ⟨j + 1, ys.set p (z0, z1), by omega, by go_num, HP.out.1, by rw [HTK.out, HV.out], by rw [List.length_set]; exact HYL.out, HMD5.out.trans HP.out.2 (fun _ h _ => h)⟩
      case measure => simp [intOf]; omega
     ·have q1 : decide (y1 < z1) = true := by simp; omega
      have q2 : y1 < z1 := by omega
      have HV : Hid (joinStep p ys k = ys.set p (z0, y1)) := by
       unfold Hid joinStep setCl;have hg : glAt ys (p : Int) = some (z0, z1) := by unfold glAt; rw [if_pos (by omega), Int.toNat_natCast, HZ.out]
       rw [HGK.out];simp only [hg, Int.toNat_natCast];rw [show min z1 y1 = y1 by omega]
      refine' Pl.region_v0 46 [] [0, 1, 2, 3, 4, 5, 6, 7, 8, 9, 10, 11, 12, 13, 14, 15, 16, 17] [18] _ (by kernel_rfl) (by kernel_rfl) (by simp) (fun _ _ _ _ e h => ⟨e ▸ h.1, h.2⟩) ?_ ?_
      rotate_left
      ·intro I F hI hF;simp only [Pl.selN, List.nil_append, List.drop_succ_cons, List.drop_zero];have t0 := fun i => hF.cell lg g0 i
       have t1 := fun i => hF.cell hlt c1 i
       have t2 := fun i => hF.cell lN n1 i
       repeat (go_big_quiet_step (fail))
       refine wpQuiet_nil ?_;rfl
      intro w5 hw5;simp only [Pl.selN, List.drop_succ_cons, List.drop_zero];have HA5 := Bas.hid (HA4.out.below hw5);have HMD5 := Bas.hid (HMD4.out.on hw5);obtain ⟨br2, cq2, hsv, hlt5, _, _, d0, d1, hfr5⟩ := line_row HA5.out HZ.out;cases hsv;simp only at d1;have h0 := cell_of_heap (i := 0) HA5.out.head rfl;rw [HYL.out] at h0;have l5 := HA5.out.lt;have fz5 := hfr5 (p * 2 + 1);have HP := Bas.hid (line_put HA5.out hne (p * 2 + 1) (.int .i64 y1) _ (glC_set2 ys p y1 (z0, z1) HZ.out) (by simp))
      clear hw5 d0 hfr5 g0 c0 c1 n1 lg hlt lN fz;go_wp2_with (fail);go_roundw
      case rel => exact ⟨j + 1, ys.set p (z0, y1), by omega, by go_num, HP.out.1, by rw [HTK.out, HV.out], by rw [List.length_set]; exact HYL.out, HMD5.out.trans HP.out.2 (fun _ h _ => h)⟩
      case measure => simp [intOf]; omega
   ·have hin2 : j = n := by omega
    have e1 : decide ((j : Int) < (n : Int)) = false := by simp; omega
    have e2 : decide (j < n) = false := by simp; omega
    have e3 : ¬ (j : Int) < (n : Int) := by omega
    have HF : Hid (LnTo w base g sv (joinL xs (p : Int) ks) wr) := by
     unfold Hid;rw [HJ.out];rw [hin2, List.take_of_length_le (by rw [HN.out]; exact Nat.le_refl _)] at hys
     rw [← hys];exact ⟨sv, hA, hmod, fun _ h => .inl h⟩
    clear hin2 hA hys hyl hmod;go_wp2_with (fail)
    go_end0
    exact ⟨rfl, HF.out⟩
end Ln
namespace Lg
open Vw Ch Lk St Ln Dr
def storeL (lig : List Int) (xs : List Gl) (i sum : Int) (gone : List Int) : Option (List Gl) := (entL lig sum).map fun nid => gone.foldl (fun xs k => setId xs k 65535) (joinL (setId xs i nid) i gone)
theorem lnTo_onM {w w1 w2 : World} {base g : Nat} {sv : Value} {ys : List Gl} (h : LnTo w base g sv ys w1) (hb : Below w1.heap.size w1 w2) : LnTo w base g sv ys w2 := by
 obtain ⟨sv', h1, h2, h3⟩ := h;exact ⟨sv', h1.below hb, h2.on hb, h3⟩
theorem lnMod {w w2 w3 : World} {g : Nat} {sv sv' : Value} (h2 : Mod (blk g sv) w w2) (h3 : ∀ k, sv'.ownBlock = some k → sv.ownBlock = some k ∨ w.heap.size ≤ k) (hm : Mod (blk g sv') w2 w3) : Mod (blk g sv) w w3 :=
 h2.trans hm fun k hk hlt => by
  rcases hk with rfl | hk
  ·exact .inl rfl
  ·rcases h3 k hk with h | h
   ·exact .inr h
   ·omega
theorem foldl_take {α β : Type} (f : β → α → β) (b : β) {l : List α} {k : Nat} {x : α} (h : l[k]? = some x) : (l.take (k + 1)).foldl f b = f ((l.take k).foldl f b) x := by
 rw [List.take_add_one, h, List.foldl_append]; rfl
set_option maxRecDepth 100000 in
set_option maxHeartbeats 8000000 in
theorem store_any (base g : Nat) (sv v va : Value) (xs : List Gl) (T : LigD) (W0 w : World) (hT : LigAt W0 v T) (hb0 : Below W0.heap.size W0 w) (_hbase : W0.heap.size ≤ base) (hL : LineAt w base g sv xs) (i sum : Int) (ks : List Int) (n : Nat) (hn : ks.length = n) (hn2 : n ≤ 1000000)
  (hG : ∀ w', Mod (blk g sv) w w' → Row.Leads w' va n (ks.map (Value.int .i64))) :
  Calls Tryz.prog 115 #[v, .pointer (some ⟨g, 0, none⟩), .int .i64 i, .int .i64 sum, va] w fun e w' => e = .returned (.bool (storeL T.lig xs i sum ks).isSome) ∧ LnTo w base g sv ((storeL T.lig xs i sum ks).getD xs) w' := by
 obtain ⟨gt, gm, S1, l1, S2, l2, S3, l3, rfl, hgt, _, _, _, v3, e3, m3⟩ := hT;have kt := (hb0.block _ (heap_lt hgt)).trans hgt;have q3 := cell_of_heap (i := 3) kt rfl;have lt := heap_lt kt;have HL := Bas.hid hL;have HE := Bas.hid (entry_any S3 l3 T.lig sum w m3 (v3.below hb0) e3);have HG := Bas.hid hG;have HN := Bas.hid hn;have HLT := Bas.hid hL.lt;have hld := hG w (Mod.refl _ _);obtain ⟨ad, cp, rfl⟩ := Row.leads_slice hld;clear hL hG hn hgt kt hld v3;cases he : entL T.lig sum with
 | none =>
  rw [he] at HE;have HS : Hid (storeL T.lig xs i sum ks = none) := by unfold Hid storeL; rw [he]; rfl
  clear he;go_enter Tryz.func115, Tryz.ntmps115
  go_wp2_with (fail);refine HE.out.mono ?_;rintro e w2 ⟨rfl, hb2⟩;have HL2 := Bas.hid (lnTo_onM (LnTo.refl HL.out) hb2);clear hb2 q3 lt;simp only [entV];go_wp2_with (fail);go_ret;exact ⟨by rw [HS.out]; rfl, by rw [HS.out]; exact HL2.out⟩
 | some nid =>
  rw [he] at HE;have HS : Hid (storeL T.lig xs i sum ks = some (ks.foldl (fun xs k => setId xs k 65535) (joinL (setId xs i nid) i ks))) := by unfold Hid storeL; rw [he]; rfl
  clear he;go_enter Tryz.func115, Tryz.ntmps115
  go_wp2_with (fail);refine HE.out.mono ?_;rintro e w2 ⟨rfl, hb2⟩;have HL2 := Bas.hid (lnTo_onM (LnTo.refl HL.out) hb2);clear hb2 q3 lt;simp only [entV];go_wp2_with (fail);have hset : Calls Tryz.prog 91 #[.pointer (some ⟨g, 0, none⟩), .int .i64 i, .int .i64 nid] w2 fun e w' => e = .returned (.bool (inL xs.length i)) ∧ LnTo w base g sv (setId xs i nid) w' := by
   obtain ⟨sv', h1, h2, h3⟩ := id HL2.out;refine (set_any base g sv' xs i nid w2 h1).mono ?_;rintro e w' ⟨rfl, h4⟩;exact ⟨rfl, LnTo.step HLT.out h2 h3 h4⟩
  refine hset.mono ?_;rintro e w3 ⟨rfl, hl3⟩;have HL3 := Bas.hid hl3;clear hset hl3;go_wp2_with (fail);have hjoin : Calls Tryz.prog 138 #[.pointer (some ⟨g, 0, none⟩), .int .i64 i, .slice ad n cp] w3 fun e w' => e = .returned (.tuple #[]) ∧ LnTo w base g sv (joinL (setId xs i nid) i ks) w' := by
   obtain ⟨sv', h1, h2, h3⟩ := id HL3.out;refine (join_any base g sv' _ (setId xs i nid) i ks n w3 h1 (fun w' hm => HG.out w' (lnMod h2 h3 hm)) HN.out (by omega)).mono ?_
   rintro e w' ⟨rfl, h4⟩;exact ⟨rfl, LnTo.step HLT.out h2 h3 h4⟩
  refine hjoin.mono ?_;rintro e w4 ⟨rfl, hl4⟩;have HL4 := Bas.hid hl4;clear hjoin hl4;go_wp2_with (fail);go_loopw [36] (fun vi wr => ∃ k : Nat, k ≤ n ∧ vi = .int .i64 k ∧ LnTo w base g sv ((ks.take k).foldl (fun xs k => setId xs k 65535) (joinL (setId xs i nid) i ks)) wr) (fun vi _ => n - (intOf vi).toNat)
  case atStart => exact ⟨0, Nat.zero_le _, rfl, HL4.out⟩
  case round =>
   obtain ⟨k, hk, rfl, hl⟩ := hrel;have HLK := Bas.hid hl;by_cases hkn : k < n
   ·have e1 : decide ((k : Int) < (n : Int)) = true := by simp; omega
    have e2 : decide (k < n) = true := by simp; omega
    obtain ⟨y, hy⟩ : ∃ y, ks[k]? = some y := ⟨_, List.getElem?_eq_getElem (by rw [HN.out]; exact hkn)⟩
    have HF := Bas.hid (foldl_take (fun xs k => setId xs k 65535) (joinL (setId xs i nid) i ks) hy)
    have hld : Row.Leads wr (.slice ad n cp) n (ks.map (Value.int .i64)) := HG.out wr (by obtain ⟨_, _, h2, _⟩ := id hl; exact h2)
    obtain ⟨bo, oo, c2, hv, hc⟩ := St.leads_at hld (i := k) (u := .int .i64 y) (by rw [List.getElem?_map, hy]; rfl)
    cases hv;have lb := World.block_lt_of_cell? _ _ hc;generalize (ks.take k).foldl (fun xs k => setId xs k 65535) (joinL (setId xs i nid) i ks) = Y at *
    have hset : Calls Tryz.prog 91 #[.pointer (some ⟨g, 0, none⟩), .int .i64 y, .int .i64 65535] wr fun e w' => e = .returned (.bool (inL Y.length y)) ∧ LnTo w base g sv (setId Y y 65535) w' := by
     obtain ⟨sv', h1, h2, h3⟩ := id HLK.out;refine (set_any base g sv' Y y 65535 wr h1).mono ?_;rintro e w' ⟨rfl, h4⟩;exact ⟨rfl, LnTo.step HLT.out h2 h3 h4⟩
    have HSET := Bas.hid hset;clear hl hld hy hset;go_wp2_with (fail);refine HSET.out.mono ?_;rintro e w5 ⟨rfl, hl5⟩;have HL5 : Hid (LnTo w base g sv ((ks.take (k + 1)).foldl (fun xs k => setId xs k 65535) (joinL (setId xs i nid) i ks)) w5) := by unfold Hid; rw [HF.out]; exact hl5
    clear hl5 hc lb;go_wp2_with (fail);go_roundw
    case rel => exact ⟨k + 1, by omega, by go_num, HL5.out⟩
    case measure => simp [intOf]; omega
   ·have e1 : decide ((k : Int) < (n : Int)) = false := by simp; omega
    have e3 : ¬ (k : Int) < (n : Int) := by omega
    have HR : Hid (LnTo w base g sv (ks.foldl (fun xs k => setId xs k 65535) (joinL (setId xs i nid) i ks)) wr) := by
     unfold Hid;rw [List.take_of_length_le (by rw [HN.out]; omega)] at hl
     exact hl
    clear hl;go_wp2_with (fail);go_ret;exact ⟨by rw [HS.out]; rfl, by rw [HS.out]; exact HR.out⟩
def gidL (xs : List Gl) (i : Int) : Int := match glAt xs i with
 | some x => x.1
 | none => 0
def actL (T : LigD) (xs : List Gl) (i a s : Int) (gone : List Int) : Option (List Gl × List Int) :=
 if bits .and .i64 a 3221225472 = 0 then some (xs, gone) else (storeL T.lig xs i s gone).map fun ys => (ys, [])
def performL (T : LigD) : Nat → List Int → List Gl → Nat → Int → List Int → List Int × List Gl
 | 0, ps, xs, _, _, _ => (ps, xs)
 | f + 1, ps, xs, k, sum, gone => match popL ps with
  | none => (ps, xs)
  | some (i, ps') => match entL T.comp (wrap64 (gidL xs i + offA (be T.act (4 * k) 4))) with
   | none => (ps', xs)
   | some part => match actL T xs i (be T.act (4 * k) 4) (wrap64 (sum + part)) gone with
    | none => (ps', xs)
    | some (ys, gone') => if lastA T.act k then (pushL ps' i, ys) else performL T f ps' ys (k + 1) (wrap64 (sum + part)) (gone' ++ [i])
theorem PlV.apart {w : World} {PB base g : Nat} {rb : Option Nat} {ps : List Int} {sv : Value} {xs : List Gl} (h : PlV w PB rb ps) (hL : LineAt w base g sv xs) : ∀ k, plB PB rb k → ¬ blk g sv k := by
 obtain ⟨v, hv, ho⟩ := h;have hno : ∀ (k : Nat) (cs : Array Value) (t : TypeId), w.heap[k]? = some (.cells cs t (0, 0)) → t ≠ 76 → t ≠ 47 → ¬ blk g sv k := fun k cs t hk h1 h2 hb => by
  rcases hb with rfl | hb
  ·rw [hL.head] at hk;injection hk with hk
   injection hk with _ hk _
   exact h1 hk.symm
  ·exact own_ty hL.own hk h2.symm hb
 rintro k (rfl | hk)
 ·exact hno _ _ _ hv (by decide) (by decide)
 ·rcases ho with ⟨_, rfl, _⟩ | ⟨b, off, cap, cur, _, rfl, h3, _⟩
  ·cases hk
  ·cases hk; exact hno _ _ _ h3 (by decide) (by decide)
structure PfS (w : World) (base g : Nat) (sv : Value) (PB : Nat) (rb : Option Nat) (wr : World) (xs : List Gl) (ps : List Int) : Prop where
 line : ∃ sv', LineAt wr base g sv' xs ∧ ∀ k, sv'.ownBlock = some k → sv.ownBlock = some k ∨ w.heap.size ≤ k
 pl : PlV wr PB rb ps
 mod : Mod (fun k => blk g sv k ∨ plB PB rb k) w wr
theorem PfS.start {w : World} {base g : Nat} {sv : Value} {PB : Nat} {rb : Option Nat} {xs : List Gl} {ps : List Int} (hL : LineAt w base g sv xs) (hP : PlV w PB rb ps) : PfS w base g sv PB rb w xs ps :=
 ⟨⟨sv, hL, fun _ h => .inl h⟩, hP, Mod.refl _ _⟩
section
variable {w wr w' : World} {base g : Nat} {sv : Value} {PB : Nat} {rb : Option Nat} {xs ys : List Gl} {ps ps' : List Int}
theorem PfS.on (h : PfS w base g sv PB rb wr xs ps) (hb : Below wr.heap.size wr w') : PfS w base g sv PB rb w' xs ps := by
 obtain ⟨⟨sv', h1, h2⟩, h3, h4⟩ := h;exact ⟨⟨sv', h1.below hb, h2⟩, h3.keep fun k hk => hb.block k (h3.lt k hk), h4.on hb⟩
theorem PfS.pop (h : PfS w base g sv PB rb wr xs ps) (hP : PlV w' PB rb ps') (hm : Mod (fun k => k = PB) wr w') : PfS w base g sv PB rb w' xs ps' := by
 obtain ⟨⟨sv', h1, h2⟩, h3, h4⟩ := h;refine ⟨⟨sv', h1.mod hm fun k hk e => h3.apart h1 k (.inl e) hk, h2⟩, hP, h4.trans hm fun k hk _ => .inr (.inl hk)⟩
theorem PfS.step (h : PfS w base g sv PB rb wr xs ps) (hs : ∀ sv', LineAt wr base g sv' xs → (∀ k, sv'.ownBlock = some k → sv.ownBlock = some k ∨ w.heap.size ≤ k) → LnTo wr base g sv' ys w') : PfS w base g sv PB rb w' ys ps := by
 obtain ⟨⟨sv', h1, h2⟩, h3, h4⟩ := h;obtain ⟨sv2, k1, k2, k3⟩ := hs sv' h1 h2;refine ⟨⟨sv2, k1, fun k hk => ?_⟩, h3.keep fun k hk => k2.block k (h3.lt k hk) (h3.apart h1 k hk), h4.trans k2 fun k hk hlt => ?_⟩
 ·rcases k3 k hk with h | h
  ·exact h2 k h
  ·exact .inr (Nat.le_trans h4.size h)
 ·rcases hk with rfl | hk
  ·exact .inl (.inl rfl)
  ·rcases h2 k hk with h | h
   ·exact .inl (.inr h)
   ·omega
theorem PfS.step' {sv' : Value} (h : PfS w base g sv PB rb wr xs ps) (h1 : LineAt wr base g sv' xs) (h2 : ∀ k, sv'.ownBlock = some k → sv.ownBlock = some k ∨ w.heap.size ≤ k) (hto : LnTo wr base g sv' ys w') : PfS w base g sv PB rb w' ys ps := by
 obtain ⟨_, h3, h4⟩ := h;obtain ⟨sv2, k1, k2, k3⟩ := hto;refine ⟨⟨sv2, k1, fun k hk => ?_⟩, h3.keep fun k hk => k2.block k (h3.lt k hk) (h3.apart h1 k hk), h4.trans k2 fun k hk hlt => ?_⟩
 ·rcases k3 k hk with h | h
  ·exact h2 k h
  ·exact .inr (Nat.le_trans h4.size h)
 ·rcases hk with rfl | hk
  ·exact .inl (.inl rfl)
  ·rcases h2 k hk with h | h
   ·exact .inl (.inr h)
   ·omega
theorem PfS.row {size n : Nat} {v : Value} {us : List Value} (h : PfS w base g sv PB rb wr xs ps) (hP0 : ∀ k, plB PB rb k → k < w.heap.size) (ho : wr.ownsRow w.heap.size 3 size v n us) (hg : wr.grownBy w' v.ownBlock) : PfS w base g sv PB rb w' xs ps := by
 obtain ⟨⟨sv', h1, h2⟩, h3, h4⟩ := h;have hm : Mod (fun k => v.ownBlock = some k) wr w' := Mod.of_grown hg fun k hk => hk
 refine ⟨⟨sv', h1.mod hm fun k hk e => ?_, h2⟩, h3.keep fun k hk => hm.block k (h3.lt k hk) fun e => ?_, h4.trans hm fun k hk hlt => ?_⟩
 ·rcases hk with rfl | hk
  ·exact own_ty ho h1.head (by decide) e
  ·exact own_rows_ne h1.own ho (by decide) hk e
 ·have := (Row.own_block ho e).1; have := hP0 k hk; omega
 ·have := (Row.own_block ho hk).1; omega
theorem PfS.below {W0 : World} (h : PfS w base g sv PB rb wr xs ps) (hb : Below W0.heap.size W0 w) (hs : ∀ k, blk g sv k ∨ plB PB rb k → W0.heap.size ≤ k) : Below W0.heap.size W0 wr := h.mod.below hb hs hb.size
end
def PfTo (w : World) (base g : Nat) (sv : Value) (PB : Nat) (rb : Option Nat) (R : List Int × List Gl) (w' : World) : Prop :=
 ∃ sv' rb', LineAt w' base g sv' R.2 ∧ PlV w' PB rb' R.1 ∧ Mod (fun k => blk g sv k ∨ plB PB rb k) w w' ∧ (∀ k, sv'.ownBlock = some k → sv.ownBlock = some k ∨ w.heap.size ≤ k) ∧ ∀ k, rb' = some k → rb = some k ∨ w.heap.size ≤ k
theorem PfS.fin {w wr : World} {base g : Nat} {sv : Value} {PB : Nat} {rb : Option Nat} {xs : List Gl} {ps : List Int} (h : PfS w base g sv PB rb wr xs ps) : PfTo w base g sv PB rb (ps, xs) wr := by
 obtain ⟨⟨sv', h1, h2⟩, h3, h4⟩ := h;exact ⟨sv', rb, h1, h3, h4, h2, fun k hk => .inl hk⟩
theorem PfS.push {w wr w' : World} {base g : Nat} {sv : Value} {PB : Nat} {rb : Option Nat} {xs : List Gl} {ps ps' : List Int} (h : PfS w base g sv PB rb wr xs ps) (hp : PlTo wr PB rb ps' w') : PfTo w base g sv PB rb (ps', xs) w' := by
 obtain ⟨⟨sv', h1, h2⟩, h3, h4⟩ := h;obtain ⟨rb', k1, k2, k3⟩ := hp;exact ⟨sv', rb', h1.mod k2 (fun k hk e => h3.apart h1 k e hk), k1, h4.trans k2 (fun k hk _ => .inr hk), h2, fun k hk => (k3 k hk).imp id (fun h => Nat.le_trans h4.size h)⟩
theorem popL_len {ps ps' : List Int} {i : Int} (h : popL ps = some (i, ps')) : ps'.length + 1 = ps.length := by
 unfold popL at h;cases hg : ps[ps.length - 1]? with
 | none => rw [hg] at h; cases h
 | some x =>
  rw [hg] at h; cases h;have := (List.getElem?_eq_some_iff.1 hg).1;rw [List.length_dropLast]; omega
theorem atV_gid (xs : List Gl) (i : Int) : ∃ c b, atV (glAt xs i) = .tuple #[.agg #[.int .i64 (gidL xs i), .int .i64 c], .bool b] := by
 unfold gidL;cases glAt xs i with
 | none => exact ⟨0, false, rfl⟩
 | some x => exact ⟨x.2, true, rfl⟩
set_option maxRecDepth 100000 in
set_option maxHeartbeats 16000000 in
theorem perform_any (base g : Nat) (sv v : Value) (xs0 : List Gl) (T : LigD) (W0 w : World) (PB : Nat) (rb : Option Nat) (ps0 : List Int) (k0 f0 : Nat) (hT : LigAt W0 v T) (hok : LigOk T) (hb0 : Below W0.heap.size W0 w) (hbase : W0.heap.size ≤ base) (hL : LineAt w base g sv xs0) (hP : PlV w PB rb ps0) (hps : ps0.length ≤ 64) (hlow : ∀ k, plB PB rb k → W0.heap.size ≤ k)
  (hk0 : k0 ≤ 65535) (hends : endsL T.act f0 k0 = true) :
  Calls Tryz.prog 89 #[v, .pointer (some ⟨g, 0, none⟩), .pointer (some ⟨PB, 0, none⟩), .int .i64 k0] w fun e w' => e = .returned (.tuple #[]) ∧ PfTo w base g sv PB rb (performL T 65 ps0 xs0 k0 0 []) w' := by
 obtain ⟨R, hR⟩ : ∃ R, performL T 65 ps0 xs0 k0 0 [] = R := ⟨_, rfl⟩;rw [hR];have HR := Bas.hid hR;have HT := Bas.hid hT;obtain ⟨gt, gm, S1, l1, S2, l2, S3, l3, rfl, hgt, hmm, ⟨v1, n1, m1⟩, ⟨v2, n2, m2⟩, v3, n3, m3⟩ := hT;have hal : T.act.length ≤ 140737488355328 := v1.len;have HGT := Bas.hid hgt;have HV1 := Bas.hid v1;have HV2 := Bas.hid v2;have HN1 := Bas.hid n1;have HN2 := Bas.hid n2;have HM1 := Bas.hid m1;have HM2 := Bas.hid m2;have HB0 := Bas.hid hb0;have hset : ∀ k, blk g sv k ∨ plB PB rb k → W0.heap.size ≤ k := fun k hk => by
  rcases hk with hk | hk
  ·exact Nat.le_trans hbase (hL.blk_low k hk).1
  ·exact hlow k hk
 have HSET := Bas.hid hset;have HPLT := Bas.hid hP.lt;have HST := Bas.hid (PfS.start hL hP);have HEN := Bas.hid hends;clear hR hgt hmm v1 v2 v3 n1 n2 m1 m2 n3 m3 hb0 hset hL hP hends hlow;go_enter Tryz.func89, Tryz.ntmps89
 go_wp2_with (fail);go_loopw [3, 8, 9] (fun v3 v8 v9 wr => ∃ (f f2 k : Nat) (ps : List Int) (xs : List Gl) (sum : Int) (gone : List Int), v3 = .int .i64 k ∧ v8 = .int .i64 sum ∧ wr.ownsRow w.heap.size 3 1 v9 gone.length (gone.map (Value.int .i64)) ∧ PfS w base g sv PB rb wr xs ps ∧ ps.length ≤ 64 ∧ ps.length < f ∧ gone.length + ps.length ≤ 130 ∧ endsL T.act f2 k = true ∧ k ≤ T.act.length + 65535 ∧ performL T f ps xs k sum gone = R) (fun v3 _ _ _ => T.act.length + 65536 - (intOf v3).toNat)
 case atStart => exact ⟨65, f0, k0, ps0, xs0, 0, [], rfl, rfl, Row.owned_nil _ _ _ _, HST.out, hps, by omega, by simp; omega, HEN.out, by omega, HR.out⟩
 case round =>
  obtain ⟨f, f2, k, ps, xs, sum, gone, rfl, rfl, hown, hS, hp64, hpf, hg130, hend, hkb, hrun⟩ := hrel;have HOWN := Bas.hid hown;have HS := Bas.hid hS;obtain ⟨ag, cg, rfl⟩ := own_slice hown;have hbw := hS.below HB0.out HSET.out
  -- the action's own number
  obtain ⟨f2, rfl⟩ : ∃ q, f2 = q + 1 := by
   cases f2 with
   | zero => simp [endsL] at hend
   | succ q => exact ⟨q, rfl⟩
  obtain ⟨f, rfl⟩ : ∃ q, f = q + 1 := ⟨f - 1, by omega⟩
  rw [endsL] at hend;have hk4 : 4 * k + 4 ≤ T.act.length := by
   by_cases h : 4 * k + 4 ≤ T.act.length
   ·exact h
   ·rw [if_neg h] at hend; cases hend
  rw [if_pos hk4] at hend;have HEND := Bas.hid hend;have HRUN := Bas.hid hrun;have HPOP := Bas.hid (pop_any PB rb ps wr hS.pl hp64);obtain ⟨m, hm⟩ : ∃ m, gone.length = m := ⟨_, rfl⟩;have HM := Bas.hid hm;rw [hm] at HOWN hg130;clear hown hS hbw hend hrun hm;rw [HM.out];go_wp2_with (fail);refine HPOP.out.mono ?_;rintro e w2 hpop;unfold PopP at hpop;cases hpl : popL ps with
  | none =>
   rw [hpl] at hpop;obtain ⟨rfl, rfl⟩ := hpop;have HRES : Hid ((ps, xs) = R) := by have h := HRUN.out; rw [performL, hpl] at h; exact h
   clear hpl HPOP;go_wp2_with (fail);exact bodyPost_ret (v := .tuple #[]) (by simp [results, Tryz.results89, go_sem]) rfl ⟨rfl, by rw [← HRES.out]; exact HS.out.fin⟩
  | some q =>
   obtain ⟨i, ps'⟩ := q;rw [hpl] at hpop;obtain ⟨rfl, hP2, hm2⟩ := hpop;have HS2 := Bas.hid (HS.out.pop hP2 hm2);have hlen := popL_len hpl;have HRUN2 : Hid (_ = R) := (by have h := HRUN.out; rw [performL, hpl] at h; exact Bas.hid h)
   have hb2 := HS2.out.below HB0.out HSET.out;have kt2 := (hb2.block _ (heap_lt HGT.out)).trans HGT.out;have q1 := cell_of_heap (i := 1) kt2 rfl;have lt2 := heap_lt kt2;have hown2 : w2.ownsRow w.heap.size 3 1 (.slice ag m cg) m (gone.map (Value.int .i64)) := hm2.owned HOWN.out fun b hb e => by
    have h1 := (Row.own_block HOWN.out hb).1;have h2 := HPLT.out PB (.inl rfl);omega
   have HOWN2 := Bas.hid hown2;have hkl : 4 * (k : Int) + 4 ≤ (l1 : Int) := by rw [← HN1.out]; omega
   have hl1m : (l1 : Int) ≤ 9223372036854775807 := by have := HM1.out; unfold maxLen at this; omega
   have hw4 : wrap64 (4 * (k : Int)) = 4 * (k : Int) := by simp only [wrap64]; omega
   have HU := Bas.hid (u32_ok S1 l1 l1 T.act (4 * (k : Int)) w2 (Nat.le_refl _) HM1.out (HV1.out.below hb2) HN1.out (by omega) hkl)
   clear hpl hP2 hm2 HPOP hb2 kt2 hown2 HOWN
   -- GENERATED FROM HERE
   have htn : (4 * (k : Int)).toNat = 4 * k := by omega
   rw [htn] at HU;obtain ⟨a, ha⟩ : ∃ a, be T.act (4 * k) 4 = a := ⟨_, rfl⟩;have har := be_rng4 hok.bact (4 * k) 4 (by omega)
   rw [ha] at HU har HRUN2;have HA := Bas.hid ha;have HA0 := Bas.hid har.1;have HA1 := Bas.hid har.2;clear ha har htn;go_wp2_with (fail);refine HU.out.mono ?_;rintro e w3 ⟨rfl, hb3⟩;have HS3 := Bas.hid (HS2.out.on hb3);have HO3 := Bas.hid (Row.owned_below HOWN2.out hb3);clear hb3 q1 lt2 hkl hl1m hw4 HU;obtain ⟨gcl, gok, hat⟩ := atV_gid xs i;obtain ⟨gid, hgid⟩ : ∃ x, gidL xs i = x := ⟨_, rfl⟩;rw [hgid] at hat HRUN2;have hAT : Calls Tryz.prog 111 #[.pointer (some ⟨g, 0, none⟩), .int .i64 i] w3 fun e w' => e = .returned (.tuple #[.agg #[.int .i64 gid, .int .i64 gcl], .bool gok]) ∧ Below w3.heap.size w3 w' := by
    obtain ⟨sv', h1, _⟩ := HS3.out.line;rw [← hat];exact at_any base g sv' xs i w3 h1
   have HAT := Bas.hid hAT;clear hat hgid hAT;go_wp2_with (fail);refine HAT.out.mono ?_;rintro e w4 ⟨rfl, hb4⟩;have HS4 := Bas.hid (HS3.out.on hb4);have HO4 := Bas.hid (Row.owned_below HO3.out hb4);have hb5 := (Below.refl w4.heap.size w4).alloc (Nat.le_refl _) (.cells #[.int .i64 gid, .int .i64 gcl] 47);have HS5 := Bas.hid (HS4.out.on hb5);have HO5 := Bas.hid (Row.owned_below HO4.out hb5);have HK13 := Bas.hid (Bas.heap_new w4 (.cells #[.int .i64 gid, .int .i64 gcl] 47));have kt5 := ((HS5.out.below HB0.out HSET.out).block _ (heap_lt HGT.out)).trans HGT.out;have HKT5 := Bas.hid kt5;clear hb4 hb5 kt5 HAT;go_wp2_with (fail);generalize (w4.alloc (.cells #[.int .i64 gid, .int .i64 gcl] 47)) = W5 at *;obtain ⟨T13, hT13⟩ : ∃ T13, w4.heap.size = T13 := ⟨_, rfl⟩;rw [hT13] at HK13 ⊢;clear hT13;obtain ⟨RI, RF, Ri, RF0, RFk, RFw⟩ := Pl.fam_of W5 (fun u => u.heap[gt]? = some (.cells #[.pointer (some ⟨gm, 0, none⟩), .slice S1 l1 l1, .slice S2 l2 l2, .slice S3 l3 l3] 176 (0, 0)) ∧ u.heap[T13]? = some (.cells #[.int .i64 gid, .int .i64 gcl] 47 (0, 0))) ⟨HKT5.out, HK13.out⟩
   have RFH := Bas.hid RF0;have RhI : Nonempty RI := ⟨Ri⟩;have RFW := Bas.hid RFw;have z2 := fun i => cell_of_heap (i := 2) (v := .slice S2 l2 l2) (RFk i).1 rfl
   have z0 := fun i => cell_of_heap (i := 0) (v := .int .i64 gid) (RFk i).2 rfl
   have zt := fun i => heap_lt (RFk i).1
   have zg := fun i => heap_lt (RFk i).2
   clear RF0 RFw RFk;refine Pl.region_plan0 Ri [(true, 0), (true, 1), (true, 2), (true, 3), (true, 4), (true, 5), (true, 6), (false, 7), (true, 8), (false, 9), (true, 10), (true, 11), (true, 12), (true, 13), (true, 14)] [] (by kernel_rfl) (by kernel_rfl) (fun _ _ _ _ e h => ⟨e ▸ h.1, h.2⟩) RFH.out ?_
   refine Pl.head_sel0 [(true, 0), (true, 1), (true, 2), (true, 3), (true, 4), (true, 5), (true, 6)] (by kernel_rfl) (by kernel_rfl) ?_
   simp only [Pl.sel, List.drop_succ_cons, List.drop_zero];repeat (go_big_quiet_step (fail))
   refine wpQuiet_nil ?_;rw [← RFH.out];clear z0 z2 zt zg;have hbd : Below W5.heap.size W5 W5.drew := Bas.below_drewN (Below.refl W5.heap.size W5) 1;have HBD := Bas.hid hbd;have HS6 := Bas.hid (HS5.out.on hbd);have HO6 := Bas.hid (Row.owned_below HO5.out hbd);have HFX : Hid (∀ u, Below W5.drew.heap.size W5.drew u → ∃ i, u = RF i) := fun u hu => RFW.out u ⟨(hu.block _ (heap_lt HKT5.out)).trans HKT5.out, (hu.block _ (heap_lt HK13.out)).trans HK13.out⟩
   clear hbd;refine Pl.one_sel (by kernel_rfl) ?_
   intro Q' hQ' hP';simp only [Pl.sel, List.drop_succ_cons, List.drop_zero];go_wp2_with (fail);refine (offset_any a W5.drew HA0.out HA1.out).mono ?_;rintro e w6 ⟨rfl, rfl⟩;go_wp2_with (fail);refine hQ' _ _ (fun _ _ => HFX.out _ (Below.refl _ _)) ?_
   clear hQ' hP' Q';refine Pl.head_sel0 [(true, 8)] (by kernel_rfl) (by kernel_rfl) ?_
   simp only [Pl.sel, List.drop_succ_cons, List.drop_zero];repeat (go_big_quiet_step (fail))
   refine wpQuiet_nil ?_;refine Pl.one_sel (by kernel_rfl) ?_
   intro Q' hQ' hP';simp only [Pl.sel, List.drop_succ_cons, List.drop_zero];go_wp2_with (fail);refine (entry_any S2 l2 T.comp (wrap64 (gid + offA a)) W5.drew HM2.out (HV2.out.below (HS6.out.below HB0.out HSET.out)) HN2.out).mono ?_;rintro e w7 ⟨rfl, hb7⟩;have HS7 := Bas.hid (HS6.out.on hb7);have HO7 := Bas.hid (Row.owned_below HO6.out hb7);have hf7 := HFX.out w7 hb7;clear hb7;cases hent : entL T.comp (wrap64 (gid + offA a)) with
   | none =>
    rw [hent] at HRUN2;have HRES : Hid ((ps', xs) = R) := HRUN2.out;clear hent;simp only [entV];go_wp2_with (fail);refine hQ' _ _ (fun _ _ => hf7) ?_
    clear hQ' hP' Q' hf7;refine Pl.head_sel0 (rest := []) [(true, 10), (true, 11), (true, 12), (true, 13), (true, 14)] (by kernel_rfl) (by kernel_rfl) ?_
    simp only [Pl.sel, List.drop_succ_cons, List.drop_zero];repeat (go_big_quiet_step (fail))
    refine wpQuiet_nil ?_;simp only [Pl.walkM];go_wp2_with (fail);exact bodyPost_ret (v := .tuple #[]) (by simp [results, Tryz.results89, go_sem]) rfl ⟨rfl, by rw [← HRES.out]; exact HS7.out.fin⟩
   | some part =>
    rw [hent] at HRUN2;have HRUN3 : Hid (_ = R) := (by have h := HRUN2.out; simp only at h; exact Bas.hid h)
    clear hent;simp only [entV];go_wp2_with (fail);refine hQ' _ _ (fun _ _ => hf7) ?_
    clear hQ' hP' Q' hf7;refine Pl.head_sel0 (rest := []) [(true, 10), (true, 11), (true, 12), (true, 13), (true, 14)] (by kernel_rfl) (by kernel_rfl) ?_
    simp only [Pl.sel, List.drop_succ_cons, List.drop_zero];repeat (go_big_quiet_step (fail))
    refine wpQuiet_nil ?_;simp only [Pl.walkM];obtain ⟨z, hz⟩ : ∃ z, bits .and .i64 a 3221225472 = z := ⟨_, rfl⟩;have HZ := Bas.hid hz;by_cases hz0 : z = 0
    ·have HRX : Hid ((if lastA T.act k then (pushL ps' i, xs) else performL T f ps' xs (k + 1) (wrap64 (sum + part)) (gone ++ [i])) = R) := by
      have h := HRUN3.out;unfold actL at h;rw [if_pos (HZ.out.trans hz0)] at h;exact h
     have HSX := Bas.hid HS7.out;have HOX := Bas.hid HO7.out;have HMX := Bas.hid HM.out;subst hz0;by_cases hla : lastA T.act k
     ·have hbt : bits .and .i64 a 2147483648 = 2147483648 := by rw [flag_32 a 31 2147483648 rfl (by omega) HA0.out HA1.out]; exact if_pos (by have h := hla; unfold lastA at h; rw [HA.out] at h; exact h)
      have HR2 : Hid ((pushL ps' i, xs) = R) := (by have h := HRX.out; rw [if_pos hla] at h; exact h)
      have HPU := Bas.hid (push_any PB rb ps' i w7 HSX.out.pl (by omega))
      go_wp2_with (fail);refine HPU.out.mono ?_;rintro e w9 ⟨rfl, hto⟩;have HFIN := Bas.hid (HSX.out.push hto);clear hto;go_wp2_with (fail);exact bodyPost_ret (v := .tuple #[]) (by simp [results, Tryz.results89, go_sem]) rfl ⟨rfl, by rw [← HR2.out]; exact HFIN.out⟩
     ·have hbt : bits .and .i64 a 2147483648 = 0 := by rw [flag_32 a 31 2147483648 rfl (by omega) HA0.out HA1.out]; exact if_neg (fun h2 => hla (by unfold lastA; rw [HA.out]; exact h2))
      have HEN2 : Hid (endsL T.act f2 (k + 1) = true) := (by have h := HEND.out; rw [if_neg hla] at h; exact h)
      have HRN : Hid (performL T f ps' xs (k + 1) (wrap64 (sum + part)) (gone ++ [i]) = R) := (by have h := HRX.out; rw [if_neg hla] at h; exact h)
      go_wp2_with (at_builtin; refine Row.fence ?_);refine Row.unfence ?_;have q9 := Bas.heap_new w7 (.cells #[.int .i64 i] 3);have hb9 := (Below.refl w7.heap.size w7).alloc (Nat.le_refl _) (.cells #[.int .i64 i] 3);have HS9 := Bas.hid (HSX.out.on hb9);have HO9 := Bas.hid (Row.owned_below HOX.out hb9);have hbase9 : w.heap.size ≤ (w7.alloc (.cells #[.int .i64 i] 3)).heap.size := Nat.le_trans HSX.out.mod.size hb9.size;clear hb9;generalize (w7.alloc (.cells #[.int .i64 i] 3)) = W9 at *;refine Row.append_any rfl _ _ 23 3 rfl (.int .i64 0) 1 8 Tryz.underlying23 infoIn rfl (by decide) w.heap.size _ m _ rfl HO9.out (.slice (some ⟨w7.heap.size, 0, none⟩) 1 1) 1 [.int .i64 i] rfl (leads_heap q9) rfl (by simp; rfl) (by unfold maxLen; omega) (by omega) hbase9 ?_
      intro v10 w10 ho10 hg10 _;have HS10 := Bas.hid (HS9.out.row HPLT.out HO9.out hg10);have HO10 : Hid (w10.ownsRow w.heap.size 3 1 v10 (gone ++ [i]).length ((gone ++ [i]).map (Value.int .i64))) := by unfold Hid; rw [List.length_append, HMX.out, List.map_append]; exact ho10
      have hgl : (gone ++ [i]).length = m + 1 := by rw [List.length_append, HMX.out]; rfl
      have HGL := Bas.hid hgl;clear ho10 hg10 q9 hgl hbase9;go_wp2_with (fail);go_roundw
      case rel => exact ⟨f, f2, k + 1, ps', xs, _, gone ++ [i], by go_num, rfl, HO10.out, HS10.out, by omega, by omega, by rw [HGL.out]; omega, HEN2.out, by omega, HRN.out⟩
      case measure => simp [intOf]; omega
    ·have hz1 : (z == 0) = false := by simpa using hz0
     have hz2 : decide (z = 0) = false := by simpa using hz0
     have hz3 : (z != 0) = true := by simpa using hz0
     have hSTO : Calls Tryz.prog 115 #[.pointer (some ⟨gt, 0, none⟩), .pointer (some ⟨g, 0, none⟩), .int .i64 i, .int .i64 (wrap64 (sum + part)), .slice ag m cg] w7 fun e w' => e = .returned (.bool (storeL T.lig xs i (wrap64 (sum + part)) gone).isSome) ∧ PfS w base g sv PB rb w' ((storeL T.lig xs i (wrap64 (sum + part)) gone).getD xs) ps' ∧ w'.ownsRow w.heap.size 3 1 (.slice ag m cg) m (gone.map (Value.int .i64)) := by
      obtain ⟨sv', h1, h2⟩ := HS7.out.line;have hdis : ∀ b, Value.ownBlock (.slice ag m cg) = some b → ¬ blk g sv' b := fun b hb hk => by
       rcases hk with rfl | hk
       ·exact own_ty HO7.out h1.head (by decide) hb
       ·exact own_rows_ne h1.own HO7.out (by decide) hk hb
      refine (store_any base g sv' (.pointer (some ⟨gt, 0, none⟩)) (.slice ag m cg) xs T W0 w7 HT.out (HS7.out.below HB0.out HSET.out) hbase h1 i _ gone m HM.out (by omega) (fun w' hm => Row.leads_owned (hm.owned HO7.out hdis))).mono ?_
      rintro e w' ⟨rfl, hto⟩;refine ⟨rfl, ?_, ?_⟩
      ·exact HS7.out.step' h1 h2 hto
      ·obtain ⟨_, _, hm, _⟩ := hto;exact hm.owned HO7.out hdis
     have HSTO := Bas.hid hSTO;clear hSTO;cases hst : storeL T.lig xs i (wrap64 (sum + part)) gone with
     | none =>
      rw [hst] at HSTO;have HRES : Hid ((ps', xs) = R) := by
       have h := HRUN3.out;unfold actL at h;rw [if_neg (by rw [HZ.out]; exact hz0), hst] at h
       exact h
      clear hst;go_wp2_with (fail);refine HSTO.out.mono ?_;rintro e w8 ⟨rfl, hs8, ho8⟩;have HS8 := Bas.hid hs8;clear hs8 ho8;simp only [Option.isSome];go_wp2_with (fail);exact bodyPost_ret (v := .tuple #[]) (by simp [results, Tryz.results89, go_sem]) rfl ⟨rfl, by rw [← HRES.out]; exact HS8.out.fin⟩
     | some ys =>
      rw [hst] at HSTO;have HRX : Hid ((if lastA T.act k then (pushL ps' i, ys) else performL T f ps' ys (k + 1) (wrap64 (sum + part)) (([] : List Int) ++ [i])) = R) := by
       have h := HRUN3.out;unfold actL at h;rw [if_neg (by rw [HZ.out]; exact hz0), hst] at h
       exact h
      clear hst;go_wp2_with (fail);refine HSTO.out.mono ?_;rintro e w8 ⟨rfl, hs8, ho8⟩;have HSX := Bas.hid hs8;have HOX : Hid (w8.ownsRow w.heap.size 3 1 (.slice none 0 0) 0 (([] : List Int).map (Value.int .i64))) := Row.owned_nil _ _ _ _;have HMX : Hid (([] : List Int).length = 0) := rfl;clear hs8 ho8 hz hz0 hz1 hz2 hz3;simp only [Option.isSome];by_cases hla : lastA T.act k
      ·have hbt : bits .and .i64 a 2147483648 = 2147483648 := by rw [flag_32 a 31 2147483648 rfl (by omega) HA0.out HA1.out]; exact if_pos (by have h := hla; unfold lastA at h; rw [HA.out] at h; exact h)
       have HR2 : Hid ((pushL ps' i, ys) = R) := (by have h := HRX.out; rw [if_pos hla] at h; exact h)
       have HPU := Bas.hid (push_any PB rb ps' i w8 HSX.out.pl (by omega))
       go_wp2_with (fail);refine HPU.out.mono ?_;rintro e w9 ⟨rfl, hto⟩;have HFIN := Bas.hid (HSX.out.push hto);clear hto;go_wp2_with (fail);exact bodyPost_ret (v := .tuple #[]) (by simp [results, Tryz.results89, go_sem]) rfl ⟨rfl, by rw [← HR2.out]; exact HFIN.out⟩
      ·have hbt : bits .and .i64 a 2147483648 = 0 := by rw [flag_32 a 31 2147483648 rfl (by omega) HA0.out HA1.out]; exact if_neg (fun h2 => hla (by unfold lastA; rw [HA.out]; exact h2))
       have HEN2 : Hid (endsL T.act f2 (k + 1) = true) := (by have h := HEND.out; rw [if_neg hla] at h; exact h)
       have HRN : Hid (performL T f ps' ys (k + 1) (wrap64 (sum + part)) (([] : List Int) ++ [i]) = R) := (by have h := HRX.out; rw [if_neg hla] at h; exact h)
       go_wp2_with (at_builtin; refine Row.fence ?_);refine Row.unfence ?_;have q9 := Bas.heap_new w8 (.cells #[.int .i64 i] 3);have hb9 := (Below.refl w8.heap.size w8).alloc (Nat.le_refl _) (.cells #[.int .i64 i] 3);have HS9 := Bas.hid (HSX.out.on hb9);have HO9 := Bas.hid (Row.owned_below HOX.out hb9);have hbase9 : w.heap.size ≤ (w8.alloc (.cells #[.int .i64 i] 3)).heap.size := Nat.le_trans HSX.out.mod.size hb9.size;clear hb9;generalize (w8.alloc (.cells #[.int .i64 i] 3)) = W9 at *;refine Row.append_any rfl _ _ 23 3 rfl (.int .i64 0) 1 8 Tryz.underlying23 infoIn rfl (by decide) w.heap.size _ 0 _ rfl HO9.out (.slice (some ⟨w8.heap.size, 0, none⟩) 1 1) 1 [.int .i64 i] rfl (leads_heap q9) rfl (by simp; rfl) (by unfold maxLen; omega) (by omega) hbase9 ?_
       intro v10 w10 ho10 hg10 _;have HS10 := Bas.hid (HS9.out.row HPLT.out HO9.out hg10);have HO10 : Hid (w10.ownsRow w.heap.size 3 1 v10 (([] : List Int) ++ [i]).length ((([] : List Int) ++ [i]).map (Value.int .i64))) := by unfold Hid; rw [List.length_append, HMX.out, List.map_append]; exact ho10
       have hgl : (([] : List Int) ++ [i]).length = 0 + 1 := by rw [List.length_append, HMX.out]; rfl
       have HGL := Bas.hid hgl;clear ho10 hg10 q9 hgl hbase9;go_wp2_with (fail);go_roundw
       case rel => exact ⟨f, f2, k + 1, ps', ys, _, ([] : List Int) ++ [i], by go_num, rfl, HO10.out, HS10.out, by omega, by omega, by rw [HGL.out]; omega, HEN2.out, by omega, HRN.out⟩
       case measure => simp [intOf]; omega
def ligF (T : LigD) : PlF (List Int) := fun ps xs i e =>
 if e.flags / 8192 % 2 = 1 then performL T 65 (if e.flags / 32768 % 2 = 1 ∧ i < xs.length then pushL ps i else ps) xs e.a.toNat 0 []
 else (if e.flags / 32768 % 2 = 1 ∧ i < xs.length then pushL ps i else ps, xs)
theorem PfTo.behind {u wX w' : World} {base g : Nat} {sv : Value} {PB : Nat} {rb rbX : Option Nat} {R : List Int × List Gl} (hm : Mod (fun k => blk g sv k ∨ plB PB rb k) u wX) (hr : ∀ k, rbX = some k → rb = some k ∨ u.heap.size ≤ k) (h : PfTo wX base g sv PB rbX R w') : PfTo u base g sv PB rb R w' := by
 obtain ⟨sv2, rb2, h1, h2, h3, h4, h5⟩ := h;refine ⟨sv2, rb2, h1, h2, hm.trans h3 fun k hk hlt => ?_, fun k hk => (h4 k hk).imp id (Nat.le_trans hm.size), fun k hk => ?_⟩
 ·rcases hk with hk | rfl | hk
  ·exact .inl hk
  ·exact .inr (.inl rfl)
  ·rcases hr k hk with h | h
   ·exact .inr (.inr h)
   ·omega
 ·rcases h5 k hk with h | h
  ·exact hr k h
  ·exact .inr (Nat.le_trans hm.size h)
set_option maxRecDepth 100000 in
set_option maxHeartbeats 16000000 in
theorem lig1_any (base g gt BT BL PB : Nat) (sv : Value) (xs : List Gl) (ps : List Int) (T : LigD) (W0 u : World) (rb : Option Nat) (pl en0 en1 en3 : Int) (k0 : Nat) (hT : LigAt W0 (.pointer (some ⟨gt, 0, none⟩)) T) (hok : LigOk T) (hb0 : Below W0.heap.size W0 u) (hbase : W0.heap.size ≤ base) (hL : LineAt u base g sv xs) (hP : PlV u PB rb ps) (hps : ps.length ≤ 64) (hlow : ∀ k, plB PB rb k → W0.heap.size ≤ k)
  (hbt : u.heap[BT]? = some (.cells #[.pointer (some ⟨gt, 0, none⟩)] 130 (0, 0))) (hbl : u.heap[BL]? = some (.cells #[.pointer (some ⟨g, 0, none⟩)] 32 (0, 0)))
  (hfl : 0 ≤ en1 ∧ en1 ≤ 65535) (hk0 : k0 ≤ 65535) (hen : en1 / 8192 % 2 = 1 → endsL T.act (T.act.length + 1) k0 = true) (_hpl : 0 ≤ pl ∧ pl ≤ 4398046511104) :
  Calls Tryz.prog 87 (#[.int .i64 pl, .agg #[.int .i64 en0, .int .i64 en1, .int .i64 k0, .int .i64 en3]] ++ #[.pointer (some ⟨BL, 0, none⟩), .pointer (some ⟨PB, 0, none⟩), .pointer (some ⟨BT, 0, none⟩)]) u fun en u' => en = .returned (.tuple #[]) ∧ PfTo u base g sv PB rb (ligF T ps xs pl ⟨en0, en1, k0, en3⟩) u' := by
 have k1 := Bas.heap_new u (.cells #[.int .i64 en0, .int .i64 en1, .int .i64 k0, .int .i64 en3] 162);have hb1 := (Below.refl u.heap.size u).alloc (Nat.le_refl _) (.cells #[.int .i64 en0, .int .i64 en1, .int .i64 k0, .int .i64 en3] 162);have HB1 := Bas.hid hb1;have HB0 := Bas.hid hb0;have HT := Bas.hid hT;have HEN := Bas.hid hen;have HE1 := Bas.hid k1;have HL1 := Bas.hid (hL.below hb1);have HP1 := Bas.hid (hP.keep fun k hk => hb1.block k (hP.lt k hk))
 have HBT1 := Bas.hid ((hb1.block _ (heap_lt hbt)).trans hbt);have HBL1 := Bas.hid ((hb1.block _ (heap_lt hbl)).trans hbl);have q1 := cell_of_heap (i := 1) k1 rfl;have lq := heap_lt k1;have l0 := cell_of_heap (i := 0) (v := .pointer (some ⟨g, 0, none⟩)) HBL1.out rfl;have ll := heap_lt HBL1.out;clear hb1 hb0 hT hen k1 hL hP hbt hbl;by_cases hf1 : en1 / 32768 % 2 = 1
 ·have hq1 : bits .and .i64 en1 32768 = 32768 := by rw [flag_32 en1 15 32768 rfl (by omega) hfl.1 (by omega)]; exact if_pos hf1
  by_cases hlt : pl < xs.length
  ·have e1 : decide (pl < (xs.length : Int)) = true := by simpa using hlt
   have HPS : Hid ((if en1 / 32768 % 2 = 1 ∧ pl < xs.length then pushL ps pl else ps) = pushL ps pl) := if_pos ⟨hf1, hlt⟩
   go_enter Tryz.func87, Tryz.ntmps87
   go_wp2_with (fail);generalize (u.alloc (.cells #[.int .i64 en0, .int .i64 en1, .int .i64 k0, .int .i64 en3] 162)) = W1 at *;refine (Ln.len_any base g sv xs W1 HL1.out).mono ?_;rintro e w2 ⟨rfl, rfl⟩;go_wp2_with (fail);refine (push_any PB rb ps pl W1 HP1.out hps).mono ?_;rintro e w3 ⟨rfl, hto⟩;obtain ⟨rbX, hpx, hmx, hrx⟩ := hto;have HPX := Bas.hid hpx;have HLX := Bas.hid (HL1.out.mod hmx (fun k hk hb => HP1.out.apart HL1.out k hb hk))
   have HMX : Hid (Mod (fun k => blk g sv k ∨ plB PB rb k) u w3) := (Mod.of_below (S := fun k => blk g sv k ∨ plB PB rb k) HB1.out).trans hmx (fun k hk _ => .inr hk)
   have HRX : Hid (∀ k, rbX = some k → rb = some k ∨ u.heap.size ≤ k) := fun k hk => (hrx k hk).imp id (Nat.le_trans HB1.out.size)
   have HLOX : Hid (∀ k, plB PB rbX k → W0.heap.size ≤ k) := fun k hk => by
    rcases hk with rfl | hk
    ·exact hlow _ (.inl rfl)
    ·rcases HRX.out k hk with h | h
     ·exact hlow k (.inr h)
     ·exact Nat.le_trans HB0.out.size h
   have HB0X := Bas.hid (hmx.below (HB0.out.trans (HB1.out.mono HB0.out.size)) hlow (Nat.le_trans HB0.out.size HB1.out.size));have hno : ∀ (k : Nat) (cs : Array Value) (t : TypeId), W1.heap[k]? = some (.cells cs t (0, 0)) → t ≠ 177 → t ≠ 3 → w3.heap[k]? = some (.cells cs t (0, 0)) := fun k cs t hk h1 h2 => by
    refine (hmx.block k (heap_lt hk) fun hb => ?_).trans hk
    obtain ⟨v, hv, ho⟩ := HP1.out;rcases hb with rfl | hb
    ·rw [hv] at hk; injection hk with hk; injection hk with _ hk _; exact h1 hk.symm
    ·rcases ho with ⟨_, rfl, _⟩ | ⟨b, off, cap, cur, _, rfl, h3, _⟩
     ·cases hb
     ·cases hb; rw [h3] at hk; injection hk with hk; injection hk with _ hk _; exact h2 hk.symm
   have HEX := Bas.hid (hno _ _ _ HE1.out (by decide) (by decide))
   have HBT := Bas.hid (hno _ _ _ HBT1.out (by decide) (by decide))
   have HBL := Bas.hid (hno _ _ _ HBL1.out (by decide) (by decide))
   have HPN : Hid ((pushL ps pl).length ≤ 64) := pushL_len ps pl hps;clear hpx hmx hrx hno q1 lq l0 ll;have e0 := cell_of_heap (i := 1) (v := .int .i64 en1) HEX.out rfl;have e2 := cell_of_heap (i := 2) (v := .int .i64 k0) HEX.out rfl;have le := heap_lt HEX.out;by_cases hf2 : en1 / 8192 % 2 = 1
   ·have hq2 : bits .and .i64 en1 8192 = 8192 := by rw [flag_32 en1 13 8192 rfl (by omega) hfl.1 (by omega)]; exact if_pos hf2
    have HPF := Bas.hid (perform_any base g sv (.pointer (some ⟨gt, 0, none⟩)) xs T W0 w3 PB rbX (pushL ps pl) k0 (T.act.length + 1) HT.out hok HB0X.out hbase HLX.out HPX.out (by exact HPN.out) HLOX.out hk0 (HEN.out hf2))
    have HRES : Hid (ligF T ps xs pl ⟨en0, en1, k0, en3⟩ = performL T 65 (pushL ps pl) xs k0 0 []) := by
     unfold Hid ligF;simp only [Int.toNat_natCast];rw [if_pos hf2, HPS.out]
    have b0 := cell_of_heap (i := 0) (v := .pointer (some ⟨gt, 0, none⟩)) HBT.out rfl;have lb := heap_lt HBT.out;have b1 := cell_of_heap (i := 0) (v := .pointer (some ⟨g, 0, none⟩)) HBL.out rfl;have lb1 := heap_lt HBL.out;go_wp2_with (fail);refine HPF.out.mono ?_;rintro e w9 ⟨rfl, hto⟩;have HFIN := Bas.hid (PfTo.behind HMX.out HRX.out hto);clear hto;go_wp2_with (fail)
    go_end0
    exact ⟨rfl, by rw [HRES.out]; exact HFIN.out⟩
   ·have hq2 : bits .and .i64 en1 8192 = 0 := by rw [flag_32 en1 13 8192 rfl (by omega) hfl.1 (by omega)]; exact if_neg hf2
    have HRES : Hid (ligF T ps xs pl ⟨en0, en1, k0, en3⟩ = (pushL ps pl, xs)) := by
     unfold Hid ligF;simp only;rw [if_neg hf2, HPS.out]
    have HFIN : Hid (PfTo u base g sv PB rb (pushL ps pl, xs) w3) := ⟨sv, rbX, HLX.out, HPX.out, HMX.out, fun k hk => .inl hk, HRX.out⟩
    go_wp2_with (fail)
    go_end0
    exact ⟨rfl, by rw [HRES.out]; exact HFIN.out⟩
  ·have e1 : decide (pl < (xs.length : Int)) = false := by simpa using hlt
   have HPS : Hid ((if en1 / 32768 % 2 = 1 ∧ pl < xs.length then pushL ps pl else ps) = ps) := if_neg (fun h => hlt h.2)
   go_enter Tryz.func87, Tryz.ntmps87
   go_wp2_with (fail);generalize (u.alloc (.cells #[.int .i64 en0, .int .i64 en1, .int .i64 k0, .int .i64 en3] 162)) = W1 at *;refine (Ln.len_any base g sv xs W1 HL1.out).mono ?_;rintro e w2 ⟨rfl, rfl⟩;have HLX := Bas.hid HL1.out;have HPX := Bas.hid HP1.out;have HMX : Hid (Mod (fun k => blk g sv k ∨ plB PB rb k) u W1) := Mod.of_below HB1.out
   obtain ⟨rbX, hrbX⟩ : ∃ r, r = rb := ⟨_, rfl⟩;have HRX : Hid (∀ k, rbX = some k → rb = some k ∨ u.heap.size ≤ k) := fun k hk => .inl (by rw [← hrbX]; exact hk)
   have HLOX : Hid (∀ k, plB PB rbX k → W0.heap.size ≤ k) := by unfold Hid; rw [hrbX]; exact hlow
   rw [← hrbX] at HPX;have HB0X := Bas.hid (HB0.out.trans (HB1.out.mono HB0.out.size));have HEX := Bas.hid HE1.out;have HBT := Bas.hid HBT1.out;have HBL := Bas.hid HBL1.out;have HPN : Hid (ps.length ≤ 64) := hps;clear hrbX
   have e0 := cell_of_heap (i := 1) (v := .int .i64 en1) HEX.out rfl;have e2 := cell_of_heap (i := 2) (v := .int .i64 k0) HEX.out rfl;have le := heap_lt HEX.out;by_cases hf2 : en1 / 8192 % 2 = 1
   ·have hq2 : bits .and .i64 en1 8192 = 8192 := by rw [flag_32 en1 13 8192 rfl (by omega) hfl.1 (by omega)]; exact if_pos hf2
    have HPF := Bas.hid (perform_any base g sv (.pointer (some ⟨gt, 0, none⟩)) xs T W0 W1 PB rbX (ps) k0 (T.act.length + 1) HT.out hok HB0X.out hbase HLX.out HPX.out (by exact HPN.out) HLOX.out hk0 (HEN.out hf2))
    have HRES : Hid (ligF T ps xs pl ⟨en0, en1, k0, en3⟩ = performL T 65 (ps) xs k0 0 []) := by
     unfold Hid ligF;simp only [Int.toNat_natCast];rw [if_pos hf2, HPS.out]
    have b0 := cell_of_heap (i := 0) (v := .pointer (some ⟨gt, 0, none⟩)) HBT.out rfl;have lb := heap_lt HBT.out;have b1 := cell_of_heap (i := 0) (v := .pointer (some ⟨g, 0, none⟩)) HBL.out rfl;have lb1 := heap_lt HBL.out;go_wp2_with (fail);refine HPF.out.mono ?_;rintro e w9 ⟨rfl, hto⟩;have HFIN := Bas.hid (PfTo.behind HMX.out HRX.out hto);clear hto;go_wp2_with (fail)
    go_end0
    exact ⟨rfl, by rw [HRES.out]; exact HFIN.out⟩
   ·have hq2 : bits .and .i64 en1 8192 = 0 := by rw [flag_32 en1 13 8192 rfl (by omega) hfl.1 (by omega)]; exact if_neg hf2
    have HRES : Hid (ligF T ps xs pl ⟨en0, en1, k0, en3⟩ = (ps, xs)) := by
     unfold Hid ligF;simp only;rw [if_neg hf2, HPS.out]
    have HFIN : Hid (PfTo u base g sv PB rb (ps, xs) W1) := ⟨sv, rbX, HLX.out, HPX.out, HMX.out, fun k hk => .inl hk, HRX.out⟩
    go_wp2_with (fail)
    go_end0
    exact ⟨rfl, by rw [HRES.out]; exact HFIN.out⟩
 ·have hq1 : bits .and .i64 en1 32768 = 0 := by rw [flag_32 en1 15 32768 rfl (by omega) hfl.1 (by omega)]; exact if_neg hf1
  have HPS : Hid ((if en1 / 32768 % 2 = 1 ∧ pl < xs.length then pushL ps pl else ps) = ps) := if_neg (fun h => hf1 h.1)
  go_enter Tryz.func87, Tryz.ntmps87
  obtain ⟨W1, hW1⟩ : ∃ W1, u.alloc (.cells #[.int .i64 en0, .int .i64 en1, .int .i64 k0, .int .i64 en3] 162) = W1 := ⟨_, rfl⟩;have HW1 := Bas.hid hW1;have HLX := Bas.hid HL1.out;have HPX := Bas.hid HP1.out;have HMX : Hid (Mod (fun k => blk g sv k ∨ plB PB rb k) u (u.alloc (.cells #[.int .i64 en0, .int .i64 en1, .int .i64 k0, .int .i64 en3] 162))) := Mod.of_below HB1.out
  obtain ⟨rbX, hrbX⟩ : ∃ r, r = rb := ⟨_, rfl⟩;have HRX : Hid (∀ k, rbX = some k → rb = some k ∨ u.heap.size ≤ k) := fun k hk => .inl (by rw [← hrbX]; exact hk)
  have HLOX : Hid (∀ k, plB PB rbX k → W0.heap.size ≤ k) := by unfold Hid; rw [hrbX]; exact hlow
  rw [← hrbX] at HPX;have HB0X := Bas.hid (HB0.out.trans (HB1.out.mono HB0.out.size));have HEX := Bas.hid HE1.out;have HBT := Bas.hid HBT1.out;have HBL := Bas.hid HBL1.out;have HPN : Hid (ps.length ≤ 64) := hps;clear hrbX;clear hW1
  have e0 := cell_of_heap (i := 1) (v := .int .i64 en1) HEX.out rfl;have e2 := cell_of_heap (i := 2) (v := .int .i64 k0) HEX.out rfl;have le := heap_lt HEX.out;by_cases hf2 : en1 / 8192 % 2 = 1
  ·have hq2 : bits .and .i64 en1 8192 = 8192 := by rw [flag_32 en1 13 8192 rfl (by omega) hfl.1 (by omega)]; exact if_pos hf2
   have HPF := Bas.hid (perform_any base g sv (.pointer (some ⟨gt, 0, none⟩)) xs T W0 (u.alloc (.cells #[.int .i64 en0, .int .i64 en1, .int .i64 k0, .int .i64 en3] 162)) PB rbX (ps) k0 (T.act.length + 1) HT.out hok HB0X.out hbase HLX.out HPX.out (by exact HPN.out) HLOX.out hk0 (HEN.out hf2))
   have HRES : Hid (ligF T ps xs pl ⟨en0, en1, k0, en3⟩ = performL T 65 (ps) xs k0 0 []) := by
    unfold Hid ligF;simp only [Int.toNat_natCast];rw [if_pos hf2, HPS.out]
   have b0 := cell_of_heap (i := 0) (v := .pointer (some ⟨gt, 0, none⟩)) HBT.out rfl;have lb := heap_lt HBT.out;have b1 := cell_of_heap (i := 0) (v := .pointer (some ⟨g, 0, none⟩)) HBL.out rfl;have lb1 := heap_lt HBL.out;go_wp2_with (fail);refine HPF.out.mono ?_;rintro e w9 ⟨rfl, hto⟩;have HFIN := Bas.hid (PfTo.behind HMX.out HRX.out hto);clear hto;go_wp2_with (fail)
   go_end0
   exact ⟨rfl, by rw [HRES.out]; exact HFIN.out⟩
  ·have hq2 : bits .and .i64 en1 8192 = 0 := by rw [flag_32 en1 13 8192 rfl (by omega) hfl.1 (by omega)]; exact if_neg hf2
   have HRES : Hid (ligF T ps xs pl ⟨en0, en1, k0, en3⟩ = (ps, xs)) := by
    unfold Hid ligF;simp only;rw [if_neg hf2, HPS.out]
   have HFIN : Hid (PfTo u base g sv PB rb (ps, xs) (u.alloc (.cells #[.int .i64 en0, .int .i64 en1, .int .i64 k0, .int .i64 en3] 162))) := ⟨sv, rbX, HLX.out, HPX.out, HMX.out, fun k hk => .inl hk, HRX.out⟩
   go_wp2_with (fail)
   go_end0
   exact ⟨rfl, by rw [HRES.out]; exact HFIN.out⟩
def lgObj (K : Nat) (caps : Array Value) : Obj := .cells #[.func (.func K) #[] caps] 166 (0, 0)
def ligBox (BT BL PB B g gt : Nat) (ps : List Int) (Bx : Nat → Prop) (u : World) : Prop :=
 ∃ rb, (Bx = fun k => k = BT ∨ k = BL ∨ k = B ∨ plB PB rb k) ∧ u.heap[BT]? = some (.cells #[.pointer (some ⟨gt, 0, none⟩)] 130 (0, 0)) ∧ u.heap[BL]? = some (.cells #[.pointer (some ⟨g, 0, none⟩)] 32 (0, 0)) ∧
  u.heap[B]? = some (lgObj 87 #[.pointer (some ⟨BL, 0, none⟩), .pointer (some ⟨PB, 0, none⟩), .pointer (some ⟨BT, 0, none⟩)]) ∧ PlV u PB rb ps
theorem lig_boxes (BT BL PB B g gt : Nat) : BoxesV (ligBox BT BL PB B g gt) := by
 refine ⟨fun s Bx u h k hk => ?_, fun s Bx u u' S h hm hS => ?_⟩
 ·obtain ⟨rb, rfl, h1, h2, h3, h4⟩ := h;rcases hk with rfl | rfl | rfl | hk
  ·exact heap_lt h1
  ·exact heap_lt h2
  ·exact heap_lt h3
  ·exact h4.lt k hk
 ·obtain ⟨rb, rfl, h1, h2, h3, h4⟩ := h;exact ⟨rb, rfl, hm.heap h1 (fun hk => hS _ hk (.inl rfl)), hm.heap h2 (fun hk => hS _ hk (.inr (.inl rfl))), hm.heap h3 (fun hk => hS _ hk (.inr (.inr (.inl rfl)))), h4.keep fun k hk => hm.block k (h4.lt k hk) (fun hs => hS k hs (.inr (.inr (.inr hk))))⟩
def LigInv (s : List Int) (_ : List Gl) : Prop := s.length ≤ 64
theorem performL_len (T : LigD) : ∀ (f : Nat) (ps : List Int) (xs : List Gl) (k : Nat) (sum : Int) (gone : List Int), ps.length ≤ 64 → (performL T f ps xs k sum gone).1.length ≤ 64
 | 0, ps, xs, k, sum, gone, h => h
 | f + 1, ps, xs, k, sum, gone, h => by
  rw [performL];cases hp : popL ps with
  | none => exact h
  | some q =>
   obtain ⟨i, ps'⟩ := q;have hl := popL_len hp;simp only;cases entL T.comp (wrap64 (gidL xs i + offA (be T.act (4 * k) 4))) with
   | none => simp only; omega
   | some part =>
    simp only;cases actL T xs i (be T.act (4 * k) 4) (wrap64 (sum + part)) gone with
    | none => simp only; omega
    | some r =>
     obtain ⟨ys, gone'⟩ := r;simp only;split
     ·exact pushL_len ps' i (by omega)
     ·exact performL_len T f _ _ _ _ _ (by omega)
theorem ligF_inv (T : LigD) (ps : List Int) (xs : List Gl) (pl : Int) (e : EntD) (h : LigInv ps xs) : LigInv (ligF T ps xs pl e).1 (ligF T ps xs pl e).2 := by
 unfold LigInv at h ⊢;unfold ligF;have h1 : (if e.flags / 32768 % 2 = 1 ∧ pl < xs.length then pushL ps pl else ps).length ≤ 64 := by
  split
  ·exact pushL_len _ _ h
  ·exact h
 split
 ·exact performL_len _ _ _ _ _ _ _ h1
 ·exact h1
def ligRun (T : LigD) (xs : List Gl) : List Gl × Int := ((dall T.m (plF (ligF T)) [] xs).1.xs, (dall T.m (plF (ligF T)) [] xs).2)
theorem lig_act (base g gt BT BL PB B : Nat) (T : LigD) (W0 w : World) (hT : LigAt W0 (.pointer (some ⟨gt, 0, none⟩)) T) (hok : LigOk T) (hbase : W0.heap.size ≤ base) (hw : W0.heap.size ≤ w.heap.size) :
  ∀ s xs sv' Bx u (pl : Int) (e : EntD), LineAt u base g sv' xs → Below W0.heap.size W0 u → ligBox BT BL PB B g gt s Bx u → (∀ k, Bx k → w.heap.size ≤ k) → LigInv s xs → 0 ≤ pl → pl ≤ 4398046511104 → e ∈ T.m.ents → (∀ k, sv'.ownBlock = some k → ¬ Bx k) →
   Calls Tryz.prog 87 (#[.int .i64 pl, .agg #[.int .i64 e.next, .int .i64 e.flags, .int .i64 e.a, .int .i64 e.b]] ++ #[.pointer (some ⟨BL, 0, none⟩), .pointer (some ⟨PB, 0, none⟩), .pointer (some ⟨BT, 0, none⟩)]) u (ActV (ligF T) base g (ligBox BT BL PB B g gt) Bx LigInv s xs sv' u pl e) := by
 intro s xs sv' Bx u pl e hL hb hbox hBx hI hp1 hp2 he hown;obtain ⟨rb, rfl, h1, h2, h3, h4⟩ := hbox;obtain ⟨en0, en1, en2, en3⟩ := e;obtain ⟨_, hfl, ha, _⟩ := hok.m.ents _ he;simp only at hfl ha;obtain ⟨k0, rfl⟩ := Int.eq_ofNat_of_zero_le ha.1;refine (lig1_any base g gt BT BL PB sv' xs s T W0 u rb pl en0 en1 en3 k0 hT hok hb hbase hL h4 hI (fun k hk => Nat.le_trans hw (hBx k (.inr (.inr (.inr hk))))) h1 h2 hfl (by omega) (fun hf => ?_) ⟨hp1, hp2⟩).mono ?_
 ·have := hok.ents _ he hf;simpa using this
 ·rintro en u' ⟨rfl, sv2, rb2, k1, k2, k3, k4, k5⟩;have hno : ∀ (k : Nat) (cs : Array Value) (t : TypeId), u.heap[k]? = some (.cells cs t (0, 0)) → t ≠ 177 → t ≠ 3 → t ≠ 76 → t ≠ 47 → u'.heap[k]? = some (.cells cs t (0, 0)) := fun k cs t hk g1 g2 g3 g4 => by
   refine (k3.block k (heap_lt hk) fun hb => ?_).trans hk
   rcases hb with (rfl | hb) | rfl | hb
   ·rw [hL.head] at hk; injection hk with hk; injection hk with _ hk _; exact g3 hk.symm
   ·exact own_ty hL.own hk g4.symm hb
   ·obtain ⟨v, hv, _⟩ := h4;rw [hv] at hk; injection hk with hk; injection hk with _ hk _; exact g1 hk.symm
   ·obtain ⟨v, hv, ho⟩ := h4;rcases ho with ⟨_, rfl, _⟩ | ⟨b, off, cap, cur, _, rfl, h3, _⟩
    ·cases hb
    ·cases hb; rw [h3] at hk; injection hk with hk; injection hk with _ hk _; exact g2 hk.symm
  have n1 := hno _ _ _ h1 (by decide) (by decide) (by decide) (by decide)
  have n2 := hno _ _ _ h2 (by decide) (by decide) (by decide) (by decide)
  have n3 := hno _ _ _ h3 (by decide) (by decide) (by decide) (by decide)
  refine ⟨rfl, sv2, _, k1, ⟨rb2, rfl, n1, n2, n3, k2⟩, ligF_inv T s xs pl _ hI, k3.mono (fun k hk _ => hk.imp id (fun h => .inr (.inr (.inr h)))), k4, fun k hk => ?_, fun k hk hb => ?_⟩
  ·rcases hk with rfl | rfl | rfl | rfl | hk
   ·exact .inl (.inl rfl)
   ·exact .inl (.inr (.inl rfl))
   ·exact .inl (.inr (.inr (.inl rfl)))
   ·exact .inl (.inr (.inr (.inr (.inl rfl))))
   ·rcases k5 k hk with h | h
    ·exact .inl (.inr (.inr (.inr (.inr h))))
    ·exact .inr h
  ·rcases hb with rfl | rfl | rfl | hb
   ·exact own_ty k1.own n1 (by decide) hk
   ·exact own_ty k1.own n2 (by decide) hk
   ·exact own_ty k1.own n3 (by decide) hk
   ·exact k2.apart k1 k hb (.inr hk)
set_option maxRecDepth 100000 in
set_option maxHeartbeats 8000000 in
theorem ligRun_any (base g : Nat) (sv v : Value) (xs : List Gl) (T : LigD) (W0 w : World) (hT : LigAt W0 v T) (hok : LigOk T) (hb0 : Below W0.heap.size W0 w) (hbase : W0.heap.size ≤ base) (hL : LineAt w base g sv xs) (hlen : xs.length ≤ 1000000) :
  Calls Tryz.prog 60 #[v, .pointer (some ⟨g, 0, none⟩)] w fun e w' => e = .returned (.int .i64 (ligRun T xs).2) ∧ LnTo w base g sv (ligRun T xs).1 w' := by
 have hmf : ∀ (fn : Fn) (first cap : Array Value) (w : World), (Instr.makeFunc fn first cap).run Tryz.prog w = .ok (.func fn first cap) w := fun _ _ _ _ => rfl
 have HTT := Bas.hid hT;obtain ⟨gt, gm, S1, l1, S2, l2, S3, l3, rfl, hgt, hm, -⟩ := hT;have kt := (hb0.block _ (heap_lt hgt)).trans hgt;have HGT0 := Bas.hid (heap_lt hgt);have HCT0 := Bas.hid (cell_of_heap (i := 0) kt rfl);have HL := Bas.hid hL;have HM := Bas.hid hm;have HB0 := Bas.hid hb0;have HBA := Bas.hid hbase;have hb3 := ((((Below.refl w.heap.size w).alloc (Nat.le_refl _) (.cells #[.pointer (some ⟨gt, 0, none⟩)] 130)).alloc (by simp) (.cells #[.pointer (some ⟨g, 0, none⟩)] 32)).alloc (by simp; omega) (.cells #[.slice none 0 0] 177))
 have z1 := World.size_alloc w (.cells #[.pointer (some ⟨gt, 0, none⟩)] 130);have z2 := World.size_alloc (w.alloc (.cells #[.pointer (some ⟨gt, 0, none⟩)] 130)) (.cells #[.pointer (some ⟨g, 0, none⟩)] 32);have kb := (Below.heap_alloc ((w.alloc (.cells #[.pointer (some ⟨gt, 0, none⟩)] 130)).alloc (.cells #[.pointer (some ⟨g, 0, none⟩)] 32)) (.cells #[.slice none 0 0] 177) w.heap.size (by omega)).trans ((Below.heap_alloc (w.alloc (.cells #[.pointer (some ⟨gt, 0, none⟩)] 130)) (.cells #[.pointer (some ⟨g, 0, none⟩)] 32) w.heap.size (by omega)).trans (Bas.heap_new w (.cells #[.pointer (some ⟨gt, 0, none⟩)] 130)))
 have kF := (Below.heap_alloc ((w.alloc (.cells #[.pointer (some ⟨gt, 0, none⟩)] 130)).alloc (.cells #[.pointer (some ⟨g, 0, none⟩)] 32)) (.cells #[.slice none 0 0] 177) (w.heap.size + 1) (by omega)).trans (Bas.heap_new2 w (.cells #[.pointer (some ⟨gt, 0, none⟩)] 130) (.cells #[.pointer (some ⟨g, 0, none⟩)] 32))
 have kL := Bas.heap_new ((w.alloc (.cells #[.pointer (some ⟨gt, 0, none⟩)] 130)).alloc (.cells #[.pointer (some ⟨g, 0, none⟩)] 32)) (.cells #[.slice none 0 0] 177);rw [z2, z1] at kL;have kt1 := (hb3.block _ (heap_lt kt)).trans kt;clear hL hm hb0 hbase;go_enter Tryz.func60, Tryz.ntmps60
 go_wp2_with (fail);generalize (((w.alloc (.cells #[.pointer (some ⟨gt, 0, none⟩)] 130)).alloc (.cells #[.pointer (some ⟨g, 0, none⟩)] 32)).alloc (.cells #[.slice none 0 0] 177)) = W3 at *;clear z1 z2;have HB3 := Bas.hid hb3;have cb := cell_of_heap (i := 0) kb rfl;have lb := heap_lt kb;have cF := cell_of_heap (i := 0) kF rfl;have lF := heap_lt kF;have ct := cell_of_heap (i := 0) kt1 rfl;have lt := heap_lt kt1;have HKB := Bas.hid kb;have HKF := Bas.hid kF;have HKL := Bas.hid kL;clear hb3 kb kF kL kt kt1 hgt;obtain ⟨RI, RF, Ri, RF0, RFk, RFw⟩ := Pl.fam_of W3 (fun u => u.cell? ⟨gt, 0, none⟩ = some (.pointer (some ⟨gm, 0, none⟩)) ∧ u.cell? ⟨w.heap.size, 0, none⟩ = some (.pointer (some ⟨gt, 0, none⟩)) ∧ u.cell? ⟨w.heap.size + 1, 0, none⟩ = some (.pointer (some ⟨g, 0, none⟩))) ⟨ct, cb, cF⟩
 have RFH := Bas.hid RF0;have RhI : Nonempty RI := ⟨Ri⟩;have RFW := Bas.hid RFw;have z0 := fun i => (RFk i).1
 have z1 := fun i => (RFk i).2.1
 have z2 := fun i => (RFk i).2.2
 have y0 := fun i => World.block_lt_of_cell? _ _ (RFk i).1
 have y1 := fun i => World.block_lt_of_cell? _ _ (RFk i).2.1
 have y2 := fun i => World.block_lt_of_cell? _ _ (RFk i).2.2
 have HCT := Bas.hid ct;have HCB := Bas.hid cb;have HCF := Bas.hid cF;clear RF0 RFw RFk ct cb cF lb lt lF;refine Pl.region_plan0 Ri [(true, 0), (true, 1), (true, 2), (true, 3), (true, 4), (true, 5), (false, 6), (false, 7), (true, 8), (true, 9), (true, 10), (true, 11), (true, 12)] [] (by kernel_rfl) (by kernel_rfl) (fun _ _ _ _ e h => ⟨e ▸ h.1, h.2⟩) RFH.out ?_
 refine Pl.head_sel0 [(true, 0), (true, 1), (true, 2), (true, 3), (true, 4), (true, 5)] (by kernel_rfl) (by kernel_rfl) ?_
 simp only [Pl.sel, List.drop_succ_cons, List.drop_zero];repeat (go_big_quiet_step (fail))
 refine wpQuiet_nil ?_;rw [← RFH.out];clear z0 z1 z2 y0 y1 y2;refine Pl.one_sel (by kernel_rfl) ?_
 intro Q' hQ' hP';simp only [Pl.sel, List.drop_succ_cons, List.drop_zero];go_wp2_with (fail);refine (plain_any 87 _ W3.drew).mono ?_;rintro e w4 ⟨rfl, hb4, kB⟩;have hb4' : Below W3.heap.size W3 w4 := (Bas.below_drewN (Below.refl W3.heap.size W3) 1).trans hb4;have HB4 := Bas.hid hb4';have HKB4 := Bas.hid kB;have hct4 : w4.cell? ⟨gt, 0, none⟩ = some (.pointer (some ⟨gm, 0, none⟩)) := (hb4'.cell (p := ⟨gt, 0, none⟩) (World.block_lt_of_cell? _ _ HCT.out)).trans HCT.out;have hcb4 : w4.cell? ⟨w.heap.size, 0, none⟩ = some (.pointer (some ⟨gt, 0, none⟩)) := (hb4'.cell (p := ⟨w.heap.size, 0, none⟩) (World.block_lt_of_cell? _ _ HCB.out)).trans HCB.out;have hcf4 : w4.cell? ⟨w.heap.size + 1, 0, none⟩ = some (.pointer (some ⟨g, 0, none⟩)) := (hb4'.cell (p := ⟨w.heap.size + 1, 0, none⟩) (World.block_lt_of_cell? _ _ HCF.out)).trans HCF.out;have HX4 : Hid (ligBox w.heap.size (w.heap.size + 1) (w.heap.size + 1 + 1) W3.heap.size g gt [] (fun k => k = w.heap.size ∨ k = w.heap.size + 1 ∨ k = W3.heap.size ∨ plB (w.heap.size + 1 + 1) none k) w4) :=
  ⟨none, rfl, (hb4'.block _ (heap_lt HKB.out)).trans HKB.out, (hb4'.block _ (heap_lt HKF.out)).trans HKF.out, kB, _, (hb4'.block _ (heap_lt HKL.out)).trans HKL.out, .inl ⟨rfl, rfl, rfl⟩⟩
 clear hb4 hb4' kB;go_wp2_with (fail);refine hQ' _ _ (fun _ _ => RFW.out _ ⟨hct4, hcb4, hcf4⟩) ?_
 clear hct4 hcb4 hcf4 hQ' hP' Q';refine Pl.one_sel (by kernel_rfl) ?_
 intro Q' hQ' hP';simp only [Pl.sel, List.drop_succ_cons, List.drop_zero];go_wp2_with (fail);have hz3 := HB3.out.size;have HWAY := Bas.hid (plain_wayV T.m (ligF T) W0 w w4 base gm g sv xs 87 W3.heap.size #[.pointer (some ⟨w.heap.size + 1, 0, none⟩), .pointer (some ⟨w.heap.size + 1 + 1, 0, none⟩), .pointer (some ⟨w.heap.size, 0, none⟩)]
  (ligBox w.heap.size (w.heap.size + 1) (w.heap.size + 1 + 1) W3.heap.size g gt) _ LigInv [] hok.m HM.out HB0.out HBA.out HL.out (by omega) (lig_boxes _ _ _ _ _ _)
  (fun k hk => by rcases hk with h | h | h | h | h <;> first | omega | cases h) (fun s Bx u h => by obtain ⟨_, _, _, _, h, _⟩ := h; exact h) (fun args w => by simp [go_sem]) (HB3.out.trans (HB4.out.mono hz3)) HX4.out (by unfold LigInv; simp)
  (lig_act base g gt _ _ _ _ T W0 w HTT.out hok HBA.out HB0.out.size))
 clear hz3;refine HWAY.out.mono ?_;rintro e w5 ⟨rfl, hto, s', Bx', hx, hbx⟩;have HTO := Bas.hid hto;have hct5 : w5.cell? ⟨gt, 0, none⟩ = some (.pointer (some ⟨gm, 0, none⟩)) := by
  obtain ⟨sv', _, hm', _⟩ := hto;have hlt : gt < W0.heap.size := HGT0.out;refine hm'.cell HCT0.out (fun hk => ?_)
  have h1 := (HL.out.blk_low _ hk).1;have h2 := HBA.out;omega
 have hcb5 : w5.cell? ⟨w.heap.size, 0, none⟩ = some (.pointer (some ⟨gt, 0, none⟩)) := by obtain ⟨_, _, h, _⟩ := hx; exact cell_of_heap h rfl
 have hcf5 : w5.cell? ⟨w.heap.size + 1, 0, none⟩ = some (.pointer (some ⟨g, 0, none⟩)) := by obtain ⟨_, _, _, h, _⟩ := hx; exact cell_of_heap h rfl
 clear hto hx HWAY hbx;go_wp2_with (fail);refine hQ' _ _ (fun _ _ => RFW.out _ ⟨hct5, hcb5, hcf5⟩) ?_
 clear hct5 hcb5 hcf5 hQ' hP' Q';refine Pl.head_sel0 (rest := []) [(true, 8), (true, 9), (true, 10), (true, 11), (true, 12)] (by kernel_rfl) (by kernel_rfl) ?_
 simp only [Pl.sel, List.drop_succ_cons, List.drop_zero];repeat (go_big_quiet_step (fail))
 refine wpQuiet_nil ?_;simp only [Pl.walkM];go_wp2_with (fail);go_ret;exact ⟨rfl, HTO.out⟩
end Lg
end Go.Proofs.YtoncnjhhdlpliaaGreat
