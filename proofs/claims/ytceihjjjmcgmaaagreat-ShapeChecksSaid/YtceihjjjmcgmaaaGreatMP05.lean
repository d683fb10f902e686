/- Parts of a proof: texts ChainWr, TrakWrD, TrakDat, TrakWr, ShWrite. -/
import Derived.Test.YtceihjjjmcgmaaaGreatMP04
namespace Go.Proofs.YtceihjjjmcgmaaaGreat
open Go.RowKit
namespace Ch
open Vw Wr
set_option maxRecDepth 100000 in
set_option maxHeartbeats 16000000 in
theorem write_any (v : Value) (l : List WChain) (w : World) (hl : l.length ≤ 10) (hok : ∀ c ∈ l, okChain c) (hin : WChains w v l) :
  Calls Tryz.prog 15 #[v] w fun e w' => ∃ v', e = .returned v' ∧ w'.ownsRow w.heap.size 5 1 v' (writeB l).length ((writeB l).map (Value.int .u8)) ∧ Below w.heap.size w w' := by
 obtain ⟨rs, hrl, hlead, hel⟩ := hin;obtain ⟨ad, cap, rfl⟩ := Row.leads_slice hlead;obtain ⟨n, hn⟩ : ∃ n, n = l.length := ⟨_, rfl⟩;rw [← hn];have hn10 : n ≤ 10 := by omega
 have HN := Bas.hid hn;have HEL := Bas.hid hel;have HLD := Bas.hid hlead;have HOK := Bas.hid hok;have HRL := Bas.hid hrl;clear hrl hlead hel hok hn;have hemp : w.ownsRow w.heap.size 5 1 (.slice none 0 0) ([] : List Int).length (([] : List Int).map (Value.int .u8)) := Row.owned_nil _ _ _ _;have HE := Bas.hid hemp;clear hemp;go_enter Tryz.func15, Tryz.ntmps15
 go_wp2_with (fail);refine (put_any 2 2 w.heap.size _ [] w (by omega) (by omega) (by omega) (by simp) (Nat.le_refl _) HE.out).mono ?_
 rintro e w1 ⟨v1, rfl, hg1⟩;go_wp2_with (fail);refine (put_any 0 2 w.heap.size _ _ w1 (by omega) (by omega) (by omega) (by simp [putB_len]) hg1.grow.size hg1.own).mono ?_
 rintro e w2 ⟨v2, rfl, hg2⟩;have hg12 := hg1.trans hg2;go_wp2_with (fail);refine (put_any (n : Int) 4 w.heap.size _ _ w2 (by omega) (by omega) (by omega) (by simp [putB_len]) hg12.grow.size hg12.own).mono ?_
 rintro e w3 ⟨v3, rfl, hg3⟩;have hg123 := hg12.trans hg3;have HB3 := Bas.hid (hg123.below (Below.refl w.heap.size w) (Nat.le_refl _) (fun g h => by cases h))
 have HO3 := Bas.hid hg123.own;have hh : ([] ++ putB 2 2 ++ putB 0 2 ++ putB (n : Int) 4) = headB n := by simp [headB]
 rw [hh] at HO3;clear hg1 hg2 hg12 hg3 hg123 hh;go_wp2_with (fail);go_loopw [3, 5, 6, 8, 10, 18] (fun xb _ _ _ _ vi wr => ∃ (k : Nat) (vb : Value), k ≤ n ∧ vi = .int .i64 k ∧ vb = xb ∧ wr.ownsRow w.heap.size 5 1 vb (headB n ++ (l.take k).flatMap chainB).length ((headB n ++ (l.take k).flatMap chainB).map (Value.int .u8)) ∧ Below w.heap.size w wr) (fun _ _ _ _ _ vi _ => n - (intOf vi).toNat)
 case atStart => exact ⟨0, _, Nat.zero_le _, rfl, rfl, by simpa using HO3.out, HB3.out⟩
 case round =>
  obtain ⟨k, vb, hk, rfl, hvb, hown, hb⟩ := hrel;rw [← hvb];clear hvb;have HO := Bas.hid hown;have HB := Bas.hid hb;by_cases hkn : k < n
  ·have hlen := HN.out;obtain ⟨c, hc⟩ : ∃ c, l[k]? = some c := ⟨_, List.getElem?_eq_getElem (by omega)⟩
   obtain ⟨r, hr⟩ : ∃ r, rs[k]? = some r := ⟨_, List.getElem?_eq_getElem (by rw [HRL.out]; omega)⟩
   obtain ⟨hru, hsu⟩ := HEL.out k c r hc hr;have hokc := HOK.out c (List.mem_of_getElem? hc);have hz : (l.zip rs)[k]? = some (c, r) := List.getElem?_zip_eq_some.2 ⟨hc, hr⟩;obtain ⟨B0, O0, cp0, hv0, hcl⟩ := Row.leads_elem wChainC_len HLD.out hz (by omega)
   obtain ⟨vr, vs⟩ := r;obtain ⟨ds, hdl, hsl, hsd⟩ := hsu;obtain ⟨ar, cr, rfl⟩ := Row.leads_slice hru;obtain ⟨as', cs', rfl⟩ := Row.leads_slice hsl;cases hv0;have q0 := (hb.cell (p := ⟨B0, O0 + k * 4, none⟩) (World.block_lt_of_cell? _ _ (hcl 0 _ rfl))).trans (hcl 0 _ rfl);have q1 := (hb.cell (p := ⟨B0, O0 + k * 4 + 1, none⟩) (World.block_lt_of_cell? _ _ (hcl 1 _ rfl))).trans (hcl 1 _ rfl);have q2 := (hb.cell (p := ⟨B0, O0 + k * 4 + 2, none⟩) (World.block_lt_of_cell? _ _ (hcl 2 _ rfl))).trans (hcl 2 _ rfl);have q3 := (hb.cell (p := ⟨B0, O0 + k * 4 + 3, none⟩) (World.block_lt_of_cell? _ _ (hcl 3 _ rfl))).trans (hcl 3 _ rfl);have HRU := Bas.hid hru;have HCK := Bas.hid hc;have HSL := Bas.hid hsl;have HSD := Bas.hid hsd;have HDL := Bas.hid hdl;have HOKC := Bas.hid hokc;obtain ⟨nr, hnr⟩ : ∃ nr, nr = c.rules.length := ⟨_, rfl⟩;obtain ⟨ns, hns⟩ : ∃ ns, ns = c.subs.length := ⟨_, rfl⟩;simp only [← hnr, ← hns] at q0 q1 q2 q3 HRU HSL;have hnr40 : nr ≤ 40 := by rw [hnr]; exact hokc.2.2.2.2.1
   have hns10 : ns ≤ 10 := by rw [hns]; exact hokc.2.2.2.2.2
   have HNR := Bas.hid hnr;have HNS := Bas.hid hns;clear hcl hru hsl hsd hdl hokc hb hown hr hnr hns HO3 HB3 HE hlen;go_wp2_with (fail);have k5 := Bas.heap_new wr (.cells #[.int .u32 c.first, .slice ar nr cr, .slice as' ns cs', .int .u8 c.more] 92);have hbc := (Below.refl wr.heap.size wr).alloc (Nat.le_refl _) (.cells #[.int .u32 c.first, .slice ar nr cr, .slice as' ns cs', .int .u8 c.more] 92);have HOc := Bas.hid (Row.owned_below HO.out hbc);have HBc := Bas.hid (HB.out.trans (hbc.mono HB.out.size));have hlb : ∀ g, vb.ownBlock = some g → g < wr.heap.size := fun g hg => (Row.own_block HO.out hg).2
   generalize wr.alloc (.cells #[.int .u32 c.first, .slice ar nr cr, .slice as' ns cs', .int .u8 c.more] 92) = Wc at *;generalize wr.heap.size = T5 at k5 hlb ⊢;have hT5 : T5 < Wc.heap.size := heap_lt k5;have hsc := HBc.out.size;clear q0 q1 q2 q3 hbc HO HB;go_loopw [6, 8, 25] (fun xin _ vi wr => ∃ (i : Nat) (vin : Value), i ≤ nr ∧ vi = .int .i64 i ∧ vin = xin ∧ wr.ownsRow Wc.heap.size 5 1 vin ((c.rules.take i).flatMap ruleB).length (((c.rules.take i).flatMap ruleB).map (Value.int .u8)) ∧ Below Wc.heap.size Wc wr) (fun _ _ vi _ => nr - (intOf vi).toNat)
   case atStart => exact ⟨0, _, Nat.zero_le _, rfl, rfl, by simpa using Row.owned_nil _ _ _ _, Below.refl _ _⟩
   case round =>
    obtain ⟨i, vin, hi, rfl, hvin, hown, hb⟩ := hrel;rw [← hvin];clear hvin;by_cases hin : i < nr
    ·have hlen := HNR.out;obtain ⟨r, hr⟩ : ∃ r, c.rules[i]? = some r := ⟨_, List.getElem?_eq_getElem (by omega)⟩
     obtain ⟨B1, O1, cp1, hv1, hcl⟩ := Row.leads_elem wRuleC_len HRU.out hr (by omega)
     cases hv1;have HBw := HBc.out.trans (hb.mono hsc);have q0 := (HBw.cell (p := ⟨B1, O1 + i * 4, none⟩) (World.block_lt_of_cell? _ _ (hcl 0 _ rfl))).trans (hcl 0 _ rfl);have q1 := (HBw.cell (p := ⟨B1, O1 + i * 4 + 1, none⟩) (World.block_lt_of_cell? _ _ (hcl 1 _ rfl))).trans (hcl 1 _ rfl);have q2 := (HBw.cell (p := ⟨B1, O1 + i * 4 + 2, none⟩) (World.block_lt_of_cell? _ _ (hcl 2 _ rfl))).trans (hcl 2 _ rfl);have q3 := (HBw.cell (p := ⟨B1, O1 + i * 4 + 3, none⟩) (World.block_lt_of_cell? _ _ (hcl 3 _ rfl))).trans (hcl 3 _ rfl);obtain ⟨⟨o1, o2⟩, ⟨o3, o4⟩, ⟨o5, o6⟩, ⟨o7, o8⟩⟩ := HOKC.out.2.2.1 r (List.mem_of_getElem? hr);have hylen : ((c.rules.take i).flatMap ruleB).length ≤ 12 * i := Row.take_len_le ruleB 12 c.rules i (fun r _ => by rw [ruleB_len]; exact Nat.le_refl _) (by omega)
     have HNEW : Hid ((c.rules.take (i + 1)).flatMap ruleB = (c.rules.take i).flatMap ruleB ++ (putB r.type 2 ++ putB r.value 2 ++ putB r.enable 4 ++ putB r.disable 4)) := Row.take_flat ruleB c.rules i r hr;obtain ⟨r1, r2, r3, r4⟩ := r;simp only at q0 q1 q2 q3 o1 o2 o3 o4 o5 o6 o7 o8 HNEW;generalize (c.rules.take i).flatMap ruleB = ys at *;clear hcl HBw hr hlen;go_wp2_with (fail);have k8 := Bas.heap_new wr (.cells #[.int .u16 r1, .int .u16 r2, .int .u32 r3, .int .u32 r4] 130);have hbW := (Below.refl wr.heap.size wr).alloc (Nat.le_refl _) (.cells #[.int .u16 r1, .int .u16 r2, .int .u32 r3, .int .u32 r4] 130);have hO8 := Row.owned_below hown hbW;have HB8 := Bas.hid (hb.trans (hbW.mono hb.size));have hnl : vin.ownBlock ≠ some wr.heap.size := fun e => Nat.lt_irrefl _ (Row.own_block hown e).2
     generalize wr.alloc (.cells #[.int .u16 r1, .int .u16 r2, .int .u32 r3, .int .u32 r4] 130) = W8 at *;generalize wr.heap.size = T8 at k8 hnl ⊢;have Abase : Wc.heap.size ≤ W8.drew.heap.size := HB8.out.size;clear q0 q1 q2 q3 hown hb hbW;have Ad := Row.owned_keep hO8 (w' := W8.drew) (fun _ _ => rfl)
     obtain ⟨AI, AF, Ai, AF0, AFg, AFw, AFb⟩ := Pl.fam_g W8 (vin).ownBlock;have Ac0 := fun i => (Bas.gcell (AFb i) (b := T8) (o := 0) (heap_lt k8) hnl).trans (cell_of_heap (i := 0) (v := .int .u16 r1) k8 rfl)
     have Ac1 := fun i => (Bas.gcell (AFb i) (b := T8) (o := 1) (heap_lt k8) hnl).trans (cell_of_heap (i := 1) (v := .int .u16 r2) k8 rfl)
     have AFH := Bas.hid AF0;have AhI : Nonempty AI := ⟨Ai⟩;have AFW := Bas.hid AFw;clear AF0 AFw AFg AFb;refine Pl.region_plan0 Ai [(true, 0), (true, 1), (true, 2), (true, 3), (true, 5), (true, 6), (true, 7), (false, 4), (false, 8), (false, 9)] [8, 9] (by kernel_rfl) (by kernel_rfl) (fun _ _ _ _ e h => ⟨e ▸ h.1, h.2⟩) AFH.out ?_
     refine Pl.head_sel0 [(true, 0), (true, 1), (true, 2), (true, 3), (true, 5), (true, 6), (true, 7)] (by kernel_rfl) (by kernel_rfl) ?_
     simp only [Pl.sel, List.drop_succ_cons, List.drop_zero];repeat (go_big_quiet_step (fail))
     refine wpQuiet_nil ?_;rw [← AFH.out];clear Ac0 Ac1 AFH;refine Pl.one_sel (by kernel_rfl) ?_
     intro Q' hQ' hP';simp only [Pl.sel, List.drop_succ_cons, List.drop_zero];go_wp2_with (fail);refine (put_any r1 2 Wc.heap.size _ _ W8.drew (by omega) (by omega) (by omega) (by first | omega | (simp only [List.length_append, putB_len]; omega)) Abase Ad).mono ?_
     rintro e Aw1 ⟨Av1, rfl, Ag1⟩;have Agg := Bas.gtrans (Bas.gdrew (Bas.grefl W8 _)) Ag1.grow;go_wp2_with (fail);refine hQ' _ _ (fun _ _ => AFW.out _ Agg) ?_
     clear hQ' hP' Q' Agg AFW;refine Pl.tail_sel [(false, 8), (false, 9)] (by kernel_rfl) (by kernel_rfl) ?_
     simp only [Pl.sel, List.drop_succ_cons, List.drop_zero];go_wp2_with (fail);refine (put_any r2 2 Wc.heap.size _ _ Aw1 (by omega) (by omega) (by omega) (by first | omega | (simp only [List.length_append, putB_len]; omega)) (Nat.le_trans Abase Ag1.grow.size) Ag1.own).mono ?_
     rintro e Aw ⟨Av, rfl, Ag2⟩;have Ag := Ag1.trans Ag2;clear Ag1 Ag2;have Bne : Av.ownBlock ≠ some T8 := by
      intro e;rcases Ag.at' with h | ⟨g, h, h2⟩
      ·exact hnl (h ▸ e)
      ·rw [h] at e; cases e;exact absurd (heap_lt k8) (Nat.not_lt.2 h2)
     have Bk : Aw.heap[T8]? = _ := (Ag.grow.block T8 (heap_lt k8) (fun e => hnl e.symm)).trans k8
     have HBA := Bas.hid (Ag.below (HB8.out.drew) (by exact HB8.out.size) (fun g hg => (Row.own_block hO8 hg).1))
     have BO := Ag.own;have HAG := Bas.hid Ag;have Bbase : Wc.heap.size ≤ Aw.drew.heap.size := HBA.out.size;clear Ag k8 hnl hO8 HB8 Abase Ad;go_wp2_with (fail);have Bd := Row.owned_keep BO (w' := Aw.drew) (fun _ _ => rfl)
     obtain ⟨BI, BF, Bi, BF0, BFg, BFw, BFb⟩ := Pl.fam_g Aw (Av).ownBlock;have Bc0 := fun i => (Bas.gcell (BFb i) (b := T8) (o := 2) (heap_lt Bk) Bne).trans (cell_of_heap (i := 2) (v := .int .u32 r3) Bk rfl)
     have Bc1 := fun i => (Bas.gcell (BFb i) (b := T8) (o := 3) (heap_lt Bk) Bne).trans (cell_of_heap (i := 3) (v := .int .u32 r4) Bk rfl)
     have BFH := Bas.hid BF0;have BhI : Nonempty BI := ⟨Bi⟩;have BFW := Bas.hid BFw;clear BF0 BFw BFg BFb;refine Pl.region_plan0 Bi [(true, 0), (true, 1), (true, 2), (true, 3), (true, 5), (true, 6), (true, 7), (false, 4), (false, 8), (false, 9)] [8, 9] (by kernel_rfl) (by kernel_rfl) (fun _ _ _ _ e h => ⟨e ▸ h.1, h.2⟩) BFH.out ?_
     refine Pl.head_sel0 [(true, 0), (true, 1), (true, 2), (true, 3), (true, 5), (true, 6), (true, 7)] (by kernel_rfl) (by kernel_rfl) ?_
     simp only [Pl.sel, List.drop_succ_cons, List.drop_zero];repeat (go_big_quiet_step (fail))
     refine wpQuiet_nil ?_;rw [← BFH.out];clear Bc0 Bc1 BFH;refine Pl.one_sel (by kernel_rfl) ?_
     intro Q' hQ' hP';simp only [Pl.sel, List.drop_succ_cons, List.drop_zero];go_wp2_with (fail);refine (put_any r3 4 Wc.heap.size _ _ Aw.drew (by omega) (by omega) (by omega) (by first | omega | (simp only [List.length_append, putB_len]; omega)) Bbase Bd).mono ?_
     rintro e Bw1 ⟨Bv1, rfl, Bg1⟩;have Bgg := Bas.gtrans (Bas.gdrew (Bas.grefl Aw _)) Bg1.grow;go_wp2_with (fail);refine hQ' _ _ (fun _ _ => BFW.out _ Bgg) ?_
     clear hQ' hP' Q' Bgg BFW;refine Pl.tail_sel [(false, 8), (false, 9)] (by kernel_rfl) (by kernel_rfl) ?_
     simp only [Pl.sel, List.drop_succ_cons, List.drop_zero];go_wp2_with (fail);refine (put_any r4 4 Wc.heap.size _ _ Bw1 (by omega) (by omega) (by omega) (by first | omega | (simp only [List.length_append, putB_len]; omega)) (Nat.le_trans Bbase Bg1.grow.size) Bg1.own).mono ?_
     rintro e Bw ⟨Bv, rfl, Bg2⟩;have Bg := Bg1.trans Bg2;clear Bg1 Bg2;have HBB := Bas.hid (Bg.below (HBA.out.drew) (by exact HBA.out.size) (fun g hg => (Row.own_block BO hg).1))
     have HBO := Bas.hid Bg.own;clear Bg BO Bk Bne Bd;go_wp2_with (fail);go_roundw
     case rel => exact ⟨i + 1, _, by omega, by go_num, rfl, by rw [HNEW.out]; simpa only [List.append_assoc] using HBO.out, HBB.out⟩
     case measure => simp [intOf]; omega
    ·have hkn2 : i = nr := by omega
     subst hkn2;have hfl : (c.rules.take i).flatMap ruleB = c.rules.flatMap ruleB := by rw [HNR.out, List.take_length]
     rw [hfl] at hown;have hrl : (c.rules.flatMap ruleB).length ≤ 480 := by
      have := Row.flat_len_le ruleB 12 c.rules (fun r _ => by rw [ruleB_len]; exact Nat.le_refl _)
      have h2 := HNR.out;omega
     have HOI := Bas.hid hown;have HBI := Bas.hid hb;clear hown hb hfl;have kk5 := (HBI.out.block _ hT5).trans k5;have c52 := cell_of_heap (i := 2) (v := .slice as' ns cs') kk5 rfl;go_wp2_with (fail);obtain ⟨wo, hwo⟩ : ∃ wo : World, wo = wr := ⟨_, rfl⟩;rw [← hwo] at HBI HOI;rw [← hwo];clear hwo kk5 c52;go_loopw [6, 10, 51] (fun xin _ vi wr => ∃ (j : Nat) (vj : Value), j ≤ ns ∧ vi = .int .i64 j ∧ vj = xin ∧ wr.ownsRow Wc.heap.size 5 1 vj (c.rules.flatMap ruleB ++ (c.subs.take j).flatMap subB).length ((c.rules.flatMap ruleB ++ (c.subs.take j).flatMap subB).map (Value.int .u8)) ∧ Below Wc.heap.size Wc wr) (fun _ _ vi _ => ns - (intOf vi).toNat)
     case atStart => exact ⟨0, _, Nat.zero_le _, rfl, rfl, by simpa using HOI.out, HBI.out⟩
     case round =>
      obtain ⟨j, vj, hj, rfl, hvj, hown, hb⟩ := hrel;rw [← hvj];clear hvj;by_cases hjn : j < ns
      ·have hlen := HNS.out;obtain ⟨s, hs⟩ : ∃ s, c.subs[j]? = some s := ⟨_, List.getElem?_eq_getElem (by omega)⟩
       obtain ⟨d, hd⟩ : ∃ d, ds[j]? = some d := ⟨_, List.getElem?_eq_getElem (by rw [HDL.out]; omega)⟩
       have hz : (c.subs.zip ds)[j]? = some (s, d) := List.getElem?_zip_eq_some.2 ⟨hs, hd⟩;obtain ⟨B1, O1, cp1, hv1, hcl⟩ := Row.leads_elem wSubC_len HSL.out hz (by omega)
       cases hv1;obtain ⟨da, dcap, rfl, hdv, hdc, hdm, hdn⟩ := HSD.out j s d hs hd;have hB0 : w.heap.size ≤ Wc.heap.size := hsc;have HBw := HBc.out.trans (hb.mono hsc);have q0 := (HBw.cell (p := ⟨B1, O1 + j * 3, none⟩) (World.block_lt_of_cell? _ _ (hcl 0 _ rfl))).trans (hcl 0 _ rfl);have q1 := (HBw.cell (p := ⟨B1, O1 + j * 3 + 1, none⟩) (World.block_lt_of_cell? _ _ (hcl 1 _ rfl))).trans (hcl 1 _ rfl);have q2 := (HBw.cell (p := ⟨B1, O1 + j * 3 + 2, none⟩) (World.block_lt_of_cell? _ _ (hcl 2 _ rfl))).trans (hcl 2 _ rfl);obtain ⟨⟨o1, o2⟩, ⟨o3, o4⟩, -, o5⟩ := HOKC.out.2.2.2.1 s (List.mem_of_getElem? hs);have hylen : (c.rules.flatMap ruleB ++ (c.subs.take j).flatMap subB).length ≤ 480 + 412 * j := by
        have := Row.take_len_le subB 412 c.subs j (fun s hs => by rw [subB_len]; have := (HOKC.out.2.2.2.1 s hs).2.2.2; omega) (by omega)
        rw [List.length_append]; omega
       have HNEW : Hid (c.rules.flatMap ruleB ++ (c.subs.take (j + 1)).flatMap subB = (c.rules.flatMap ruleB ++ (c.subs.take j).flatMap subB) ++ (putB (12 + (s.data.length : Int)) 4 ++ putB s.cover 4 ++ putB s.flags 4 ++ s.data)) := by
        unfold Hid; rw [Row.take_flat subB c.subs j s hs, ← List.append_assoc]; rfl
       have hblk : s.data.map (Value.int .u8) ≠ [] → ∀ x, da = some x → x.block < w.heap.size := fun hne x hx => by
        have h0 : 0 < s.data.length := by
         rcases Nat.eq_zero_or_pos s.data.length with h | h
         ·exact absurd (List.map_eq_nil_iff.2 (List.length_eq_zero_iff.1 h)) hne
         ·exact h
        obtain ⟨b, o, h1, h2⟩ := hdv.cell 0 h0;rw [hx] at h1; cases h1;exact World.block_lt_of_cell? _ _ h2
       have HBLK := Bas.hid hblk;have HDV := Bas.hid (hdv.below HBw);obtain ⟨s1, s2, D⟩ := s;simp only at q0 q1 q2 o1 o2 o3 o4 o5 HNEW HBLK HDV hdc;obtain ⟨m, hm⟩ : ∃ m, m = D.length := ⟨_, rfl⟩;have HM := Bas.hid hm;simp only [← hm] at q2 o5 HNEW hdc;generalize c.rules.flatMap ruleB ++ (c.subs.take j).flatMap subB = ys at *;clear hcl HBw hs hd hz hlen hdv hblk hm;go_wp2_with (fail);have k8 := Bas.heap_new wr (.cells #[.int .u32 s1, .int .u32 s2, .slice da m dcap] 94);have hbW := (Below.refl wr.heap.size wr).alloc (Nat.le_refl _) (.cells #[.int .u32 s1, .int .u32 s2, .slice da m dcap] 94);have hO8 := Row.owned_below hown hbW;have HB8 := Bas.hid (hb.trans (hbW.mono hb.size));have HDV8 := Bas.hid (HDV.out.below hbW);have hnl : vj.ownBlock ≠ some wr.heap.size := fun e => Nat.lt_irrefl _ (Row.own_block hown e).2
       generalize wr.alloc (.cells #[.int .u32 s1, .int .u32 s2, .slice da m dcap] 94) = W8 at *;generalize wr.heap.size = T8 at k8 hnl ⊢;have Abase : Wc.heap.size ≤ W8.drew.heap.size := HB8.out.size;clear q0 q1 q2 hown hb hbW HDV;have Ad := Row.owned_keep hO8 (w' := W8.drew) (fun _ _ => rfl)
       obtain ⟨AI, AF, Ai, AF0, AFg, AFw, AFb⟩ := Pl.fam_g W8 (vj).ownBlock;have Ac0 := fun i => (Bas.gcell (AFb i) (b := T8) (o := 2) (heap_lt k8) hnl).trans (cell_of_heap (i := 2) (v := .slice da m dcap) k8 rfl)
       have Ac1 := fun i => (Bas.gcell (AFb i) (b := T8) (o := 0) (heap_lt k8) hnl).trans (cell_of_heap (i := 0) (v := .int .u32 s1) k8 rfl)
       have AFH := Bas.hid AF0;have AhI : Nonempty AI := ⟨Ai⟩;have AFW := Bas.hid AFw;clear AF0 AFw AFg AFb;refine Pl.region_plan0 Ai [(true, 0), (true, 1), (true, 2), (true, 3), (true, 4), (true, 6), (true, 7), (true, 8), (false, 5), (false, 9), (false, 10)] [9, 10] (by kernel_rfl) (by kernel_rfl) (fun _ _ _ _ e h => ⟨e ▸ h.1, h.2⟩) AFH.out ?_
       refine Pl.head_sel0 [(true, 0), (true, 1), (true, 2), (true, 3), (true, 4), (true, 6), (true, 7), (true, 8)] (by kernel_rfl) (by kernel_rfl) ?_
       simp only [Pl.sel, List.drop_succ_cons, List.drop_zero];repeat (go_big_quiet_step (fail))
       refine wpQuiet_nil ?_;rw [← AFH.out];clear Ac0 Ac1 AFH;refine Pl.one_sel (by kernel_rfl) ?_
       intro Q' hQ' hP';simp only [Pl.sel, List.drop_succ_cons, List.drop_zero];go_wp2_with (fail);refine (put_any (12 + (m : Int)) 4 Wc.heap.size _ _ W8.drew (by omega) (by omega) (by omega) (by first | omega | (simp only [List.length_append, putB_len]; omega)) Abase Ad).mono ?_
       rintro e Aw1 ⟨Av1, rfl, Ag1⟩;have Agg := Bas.gtrans (Bas.gdrew (Bas.grefl W8 _)) Ag1.grow;go_wp2_with (fail);refine hQ' _ _ (fun _ _ => AFW.out _ Agg) ?_
       clear hQ' hP' Q' Agg AFW;refine Pl.tail_sel [(false, 9), (false, 10)] (by kernel_rfl) (by kernel_rfl) ?_
       simp only [Pl.sel, List.drop_succ_cons, List.drop_zero];go_wp2_with (fail);refine (put_any s1 4 Wc.heap.size _ _ Aw1 (by omega) (by omega) (by omega) (by first | omega | (simp only [List.length_append, putB_len]; omega)) (Nat.le_trans Abase Ag1.grow.size) Ag1.own).mono ?_
       rintro e Aw ⟨Av, rfl, Ag2⟩;have Ag := Ag1.trans Ag2;clear Ag1 Ag2;have Bne : Av.ownBlock ≠ some T8 := by
        intro e;rcases Ag.at' with h | ⟨g, h, h2⟩
        ·exact hnl (h ▸ e)
        ·rw [h] at e; cases e;exact absurd (heap_lt k8) (Nat.not_lt.2 h2)
       have Bk : Aw.heap[T8]? = _ := (Ag.grow.block T8 (heap_lt k8) (fun e => hnl e.symm)).trans k8
       have HBA := Bas.hid (Ag.below (HB8.out.drew) (by exact HB8.out.size) (fun g hg => (Row.own_block hO8 hg).1))
       have BO := Ag.own;have Bbase : Wc.heap.size ≤ Aw.drew.heap.size := HBA.out.size;have Bld : Row.Leads Aw (.slice da m dcap) m (D.map (Value.int .u8)) := by
        have h := vb_leads (Vw.VB_apart HDV8.out (Bas.gtrans (Bas.gdrew (Bas.grefl W8 _)) Ag.grow) (fun g hg x hx hne => by
         have h1 := HBLK.out (fun e => hne (List.map_eq_nil_iff.1 e)) x hx
         have h2 := (Row.own_block hO8 hg).1;omega)) dcap hdn
        rw [← HM.out] at h;exact h
       have Blen : Hid (m = D.length) := HM;have Bsrc : ∀ g, Av.ownBlock = some g → ∀ ad len cap, Value.slice da m dcap = .slice (some ad) len cap → D.map (Value.int .u8) ≠ [] → ad.block ≠ g := fun g hg ad len cap he hne => by
        cases he;have h1 := HBLK.out hne _ rfl;have h2 := (Row.own_block BO hg).1;omega
       clear Ag k8 hnl hO8 HB8 Abase Ad HDV8;go_wp2_with (fail);have Bd := Row.owned_keep BO (w' := Aw.drew) (fun _ _ => rfl)
       obtain ⟨BI, BF, Bi, BF0, BFg, BFw, BFb⟩ := Pl.fam_g Aw (Av).ownBlock;have Bc0 := fun i => (Bas.gcell (BFb i) (b := T8) (o := 1) (heap_lt Bk) Bne).trans (cell_of_heap (i := 1) (v := .int .u32 s2) Bk rfl)
       have Bc1 := fun i => (Bas.gcell (BFb i) (b := T8) (o := 2) (heap_lt Bk) Bne).trans (cell_of_heap (i := 2) (v := .slice da m dcap) Bk rfl)
       have BFH := Bas.hid BF0;have BhI : Nonempty BI := ⟨Bi⟩;have BFW := Bas.hid BFw;clear BF0 BFw BFg BFb;refine Pl.region_plan0 Bi [(true, 0), (true, 1), (true, 2), (true, 3), (true, 5), (true, 6), (false, 4), (false, 7), (false, 8)] [7, 8] (by kernel_rfl) (by kernel_rfl) (fun _ _ _ _ e h => ⟨e ▸ h.1, h.2⟩) BFH.out ?_
       refine Pl.head_sel0 [(true, 0), (true, 1), (true, 2), (true, 3), (true, 5), (true, 6)] (by kernel_rfl) (by kernel_rfl) ?_
       simp only [Pl.sel, List.drop_succ_cons, List.drop_zero];repeat (go_big_quiet_step (fail))
       refine wpQuiet_nil ?_;rw [← BFH.out];clear Bc0 Bc1 BFH;refine Pl.one_sel (by kernel_rfl) ?_
       intro Q' hQ' hP';simp only [Pl.sel, List.drop_succ_cons, List.drop_zero];go_wp2_with (fail);refine (put_any s2 4 Wc.heap.size _ _ Aw.drew (by omega) (by omega) (by omega) (by first | omega | (simp only [List.length_append, putB_len]; omega)) Bbase Bd).mono ?_
       rintro e Bw1 ⟨Bv1, rfl, Bg1⟩;have Bgg := Bas.gtrans (Bas.gdrew (Bas.grefl Aw _)) Bg1.grow;have Bld := Row.leads_apart Bld Bgg Bsrc;go_wp2_with (fail);refine hQ' _ _ (fun _ _ => BFW.out _ Bgg) ?_
       clear hQ' hP' Q' Bgg BFW;refine Pl.tail_sel [(false, 7), (false, 8)] (by kernel_rfl) (by kernel_rfl) ?_
       simp only [Pl.sel, List.drop_succ_cons, List.drop_zero];refine Row.append_at rfl _ _ 47 5 rfl (.int .u8 0) 1 1 Tryz.underlying47 info8 rfl (by decide) Wc.heap.size Bv1 _ _ rfl Bg1.own (.slice da m dcap) m _ rfl Bld (by simp [← Blen.out]) (by simp; intros; rfl) (by unfold maxLen; simp only [List.length_append, putB_len]; omega) (by simp only [List.length_append, putB_len]; omega) (Nat.le_trans Bbase Bg1.grow.size) ?_
       intro Bv Bw Bh1 Bh2 _ Bh3;have Bg : Grown Aw.drew Wc.heap.size _ ((ys ++ putB (12 + (m : Int)) 4 ++ putB s1 4) ++ putB s2 4 ++ D) Bv Bw := Bg1.trans ⟨by simpa only [List.map_append, List.length_append, ← Blen.out, Nat.add_assoc] using Bh1, Bh2, Bh3.imp id fun h => ⟨_, h, Nat.le_refl _⟩⟩
       clear Bg1 Bh1 Bh2 Bh3 Bld Blen;have HBB := Bas.hid (Bg.below (HBA.out.drew) (by exact HBA.out.size) (fun g hg => (Row.own_block BO hg).1))
       have HBO := Bas.hid Bg.own;clear Bg BO Bk Bne Bd Bsrc;go_wp2_with (fail);go_roundw
       case rel => exact ⟨j + 1, _, by omega, by go_num, rfl, by rw [HNEW.out]; simpa only [List.append_assoc] using HBO.out, HBB.out⟩
       case measure => simp [intOf]; omega
      ·have hkn3 : j = ns := by omega
       subst hkn3;have hfl : (c.subs.take j).flatMap subB = c.subs.flatMap subB := by rw [HNS.out, List.take_length]
       rw [hfl] at hown;have hil := inB_len_le c HOKC.out;have HINB : Hid (inB c = c.rules.flatMap ruleB ++ c.subs.flatMap subB ++ List.replicate (c.more % 8).toNat 0) := rfl;have hrsl : (c.rules.flatMap ruleB ++ c.subs.flatMap subB).length ≤ 4607 := by
        rw [HINB.out, List.length_append] at hil; omega
       have hm8 : c.more % 8 = ((c.more % 8).toNat : Int) := by have := HOKC.out.2.1; omega
       have hz8 : (c.more % 8).toNat ≤ 7 := by omega
       obtain ⟨⟨of1, of2⟩, ⟨om1, om2⟩, -⟩ := HOKC.out;have HOJ := Bas.hid hown;have HBJ := Bas.hid hb;have kk5 := (HBJ.out.block _ hT5).trans k5;have c50 := cell_of_heap (i := 0) (v := .int .u32 c.first) kk5 rfl;have c53 := cell_of_heap (i := 3) (v := .int .u8 c.more) kk5 rfl;have HM8 := Bas.hid hm8;have HCH : Hid (chainB c = putB c.first 4 ++ putB (16 + ((inB c).length : Int)) 4 ++ putB (c.rules.length : Int) 4 ++ putB (c.subs.length : Int) 4 ++ inB c) := rfl;have HPRE : Hid ((headB n ++ (l.take k).flatMap chainB).length ≤ 8 + 4623 * k) := by
        unfold Hid;have := Row.take_len_le chainB 4623 l k (fun x hx => chainB_len_le x (HOK.out x hx)) (by have := HN.out; omega)
        rw [List.length_append, headB_len]; omega
       clear hown hb hfl hm8 hil;go_wp2_with (at_builtin; refine Row.fence ?_);refine Row.unfence ?_;rw [HM8.out];refine Row.append_zeros rfl _ _ 47 5 5 rfl (.int .u8 0) 1 .u8 .u8 Tryz.underlying47 Tryz.underlying5 info8 rfl rfl Wc.heap.size vj _ _ rfl HOJ.out (c.more % 8).toNat rfl (by unfold maxLen; omega) (by omega) HBJ.out.size ?_
       intro v18 w18 hown18 hg18 _ hat18;have hown18' : w18.ownsRow Wc.heap.size 5 1 v18 (inB c).length ((inB c).map (Value.int .u8)) := by
        rw [HINB.out];simpa only [List.map_append, List.length_append, List.length_replicate, List.map_replicate, List.append_assoc, Nat.add_assoc] using hown18
       have HB18 := Bas.hid (HBJ.out.grown hg18 HBJ.out.size (fun g hg => (Row.own_block HOJ.out hg).1))
       have kk5 := (HB18.out.block _ hT5).trans k5;have c50 := cell_of_heap (i := 0) (v := .int .u32 c.first) kk5 rfl;have HO18 := Bas.hid hown18';have hil2 := inB_len_le c (HOK.out c (List.mem_of_getElem? HCK.out));obtain ⟨IL, hIL⟩ : ∃ IL, IL = (inB c).length := ⟨_, rfl⟩;have HIL := Bas.hid hIL;rw [← hIL] at hil2;obtain ⟨ad18, cp18, rfl⟩ := own_slice hown18';rw [← hIL];have hbO := Row.owned_keep HOc.out (w' := w18) (fun g hg => HB18.out.block g (Nat.lt_trans (hlb g hg) hT5))
       have HBW18 := Bas.hid (HBc.out.trans (HB18.out.mono hsc));have Abase : w.heap.size ≤ w18.heap.size := HBW18.out.size;have hpre := HPRE.out;clear hown18 hown18' hg18 hat18 c53 hIL;go_wp2_with (fail);refine (put_any c.first 4 w.heap.size _ _ w18 (by omega) (by omega) (by omega) (by omega) Abase hbO).mono ?_
       rintro e wP ⟨vP, rfl, gP⟩;go_wp2_with (fail);refine (put_any (16 + (IL : Int)) 4 w.heap.size _ _ wP (by omega) (by omega) (by omega) (by simp only [List.length_append, putB_len]; simp only [List.length_append] at hpre; omega) (Nat.le_trans Abase gP.grow.size) gP.own).mono ?_
       rintro e wQ ⟨vQ, rfl, gQ⟩;have gPQ := gP.trans gQ;have hvin : ∀ g, vb.ownBlock = some g → g < Wc.heap.size := fun g hg => Nat.lt_trans (hlb g hg) hT5
       have kQ : wQ.heap[T5]? = _ := (gPQ.grow.block T5 (Nat.lt_of_lt_of_le hT5 HB18.out.size) (fun e => Nat.lt_irrefl _ (hlb _ e.symm))).trans kk5
       have inQ := Row.owned_keep HO18.out (w' := wQ) (fun g hg => gPQ.grow.block g (Row.own_block HO18.out hg).2 (fun e => Nat.lt_irrefl _ (Nat.lt_of_lt_of_le (hvin _ e.symm) (Row.own_block HO18.out hg).1)))
       have neQ5 : vQ.ownBlock ≠ some T5 := by
        intro e;rcases gPQ.at' with h | ⟨g, h, h2⟩
        ·exact Nat.lt_irrefl _ (hlb _ (h ▸ e))
        ·rw [h] at e; cases e;exact absurd (Nat.lt_of_lt_of_le hT5 HB18.out.size) (Nat.not_lt.2 h2)
       have neQi : ∀ g, Value.ownBlock (.slice ad18 (inB c).length cp18) = some g → vQ.ownBlock ≠ some g := by
        intro g hg e;rcases gPQ.at' with h | ⟨g', h, h2⟩
        ·exact Nat.lt_irrefl _ (Nat.lt_of_lt_of_le (hvin _ (h ▸ e)) (Row.own_block HO18.out hg).1)
        ·rw [h] at e; cases e;exact absurd (Row.own_block HO18.out hg).2 (Nat.not_lt.2 h2)
       have HBQ := Bas.hid (gPQ.below HBW18.out Abase (fun g hg => (Row.own_block hbO hg).1))
       have Bbase : w.heap.size ≤ wQ.drew.heap.size := HBQ.out.size;have BO := gPQ.own;have HINQ := Bas.hid inQ;have HNEI := Bas.hid neQi;rw [← HIL.out] at HINQ HNEI;clear gP gQ gPQ kk5 c50 hbO inQ neQi HB18 HO18 HBW18 Abase HOc;go_wp2_with (fail);have Bd := Row.owned_keep BO (w' := wQ.drew) (fun _ _ => rfl)
       obtain ⟨BI, BF, Bi, BF0, BFg, BFw, BFb⟩ := Pl.fam_g wQ vQ.ownBlock;have Bc0 := fun q => (Bas.gcell (BFb q) (b := T5) (o := 1) (heap_lt kQ) neQ5).trans (cell_of_heap (i := 1) (v := .slice ar i cr) kQ rfl)
       have Bc1 := fun q => (Bas.gcell (BFb q) (b := T5) (o := 2) (heap_lt kQ) neQ5).trans (cell_of_heap (i := 2) (v := .slice as' j cs') kQ rfl)
       have BFH := Bas.hid BF0;have BhI : Nonempty BI := ⟨Bi⟩;have BFW := Bas.hid BFw;clear BF0 BFw BFg BFb;refine Pl.region_plan0 Bi [(true, 0), (true, 1), (true, 2), (true, 3), (true, 5), (true, 6), (true, 7), (true, 9), (false, 4), (false, 8), (false, 10), (false, 11)] [8, 10, 11] (by kernel_rfl) (by kernel_rfl) (fun _ _ _ _ e h => ⟨e ▸ h.1, h.2⟩) BFH.out ?_
       refine Pl.head_sel0 [(true, 0), (true, 1), (true, 2), (true, 3), (true, 5), (true, 6), (true, 7), (true, 9)] (by kernel_rfl) (by kernel_rfl) ?_
       simp only [Pl.sel, List.drop_succ_cons, List.drop_zero];repeat (go_big_quiet_step (fail))
       refine wpQuiet_nil ?_;rw [← BFH.out];clear Bc0 Bc1 BFH;refine Pl.one_sel (by kernel_rfl) ?_
       intro Q' hQ' hP';simp only [Pl.sel, List.drop_succ_cons, List.drop_zero];go_wp2_with (fail);refine (put_any (i : Int) 4 w.heap.size _ _ wQ.drew (by omega) (by omega) (by omega) (by simp only [List.length_append, putB_len]; simp only [List.length_append] at hpre; omega) Bbase Bd).mono ?_
       rintro e Bw1 ⟨Bv1, rfl, Bg1⟩;have Bgg := Bas.gtrans (Bas.gdrew (Bas.grefl wQ _)) Bg1.grow;go_wp2_with (fail);refine hQ' _ _ (fun _ _ => BFW.out _ Bgg) ?_
       clear hQ' hP' Q' Bgg BFW;refine Pl.tail_sel [(false, 8), (false, 10), (false, 11)] (by kernel_rfl) (by kernel_rfl) ?_
       simp only [Pl.sel, List.drop_succ_cons, List.drop_zero];go_wp2_with (fail);refine (put_any (j : Int) 4 w.heap.size _ _ Bw1 (by omega) (by omega) (by omega) (by simp only [List.length_append, putB_len]; simp only [List.length_append] at hpre; omega) (Nat.le_trans Bbase Bg1.grow.size) Bg1.own).mono ?_
       rintro e Bw2 ⟨Bv2, rfl, Bg2⟩;have Bg := Bg1.trans Bg2;have inB2 := Row.owned_keep HINQ.out (w' := Bw2) (fun g hg => Bg.grow.block g (Row.own_block HINQ.out hg).2 (fun e => HNEI.out g hg e.symm))
       clear Bg1 Bg2;go_wp2_with (at_builtin; refine Row.fence ?_);refine Row.unfence ?_;refine Row.append_at rfl _ _ 47 5 rfl (.int .u8 0) 1 1 Tryz.underlying47 info8 rfl (by decide) w.heap.size Bv2 _ _ rfl Bg.own (.slice ad18 IL cp18) IL _ rfl (Row.leads_owned inB2) (by simp [← HIL.out]) (by simp; intros; rfl) (by unfold maxLen; simp only [List.length_append, putB_len]; simp only [List.length_append] at hpre; omega) (by simp only [List.length_append, putB_len]; simp only [List.length_append] at hpre; omega) (Nat.le_trans Bbase Bg.grow.size) ?_
       intro v9 w9 h91 h92 _ h93;have g9 : Grown wQ.drew w.heap.size vQ (headB n ++ (l.take (k + 1)).flatMap chainB) v9 w9 := by
        have hx : headB n ++ (l.take (k + 1)).flatMap chainB = headB n ++ (l.take k).flatMap chainB ++ putB c.first 4 ++ putB (16 + (IL : Int)) 4 ++ putB (i : Int) 4 ++ putB (j : Int) 4 ++ inB c := by
         rw [Row.take_flat chainB l k c HCK.out, HCH.out, ← HIL.out, ← HNR.out, ← HNS.out];simp only [List.append_assoc]
        rw [hx];exact Bg.trans ⟨by simpa only [List.map_append, List.length_append, HIL.out, Nat.add_assoc] using h91, h92, h93.imp id fun h => ⟨_, h, Nat.le_refl _⟩⟩
       have HBF := Bas.hid (g9.below (HBQ.out.drew) (by exact HBQ.out.size) (fun g hg => (Row.own_block BO hg).1))
       have HOF := Bas.hid g9.own;clear g9 Bg h91 h92 h93 inB2 BO kQ neQ5 Bd;go_wp2_with (fail);go_roundw
       case rel => exact ⟨k + 1, _, by omega, by go_num, rfl, HOF.out, HBF.out⟩
       case measure => simp [intOf]; omega
  ·have hkn2 : k = n := by omega
   have hfin : headB n ++ (l.take k).flatMap chainB = writeB l := by
    unfold writeB; rw [hkn2, HN.out, List.take_length]
   rw [hfin] at HO;obtain ⟨ad9, cp9, rfl⟩ := own_slice HO.out;clear hown hb hfin;go_wp2_with (fail);go_ret;exact ⟨_, rfl, HO.out, HB.out⟩
end Ch
namespace Tk
open Vw Wr
structure PTrack where
 of : Int
 vals : List Int
def wTC (x : PTrack × Value) : List Value := [.int .i32 x.1.of, x.2]
def wI32 (x : Int) : List Value := [.int .i32 x]
def wI16 (x : Int) : List Value := [.int .i16 x]
theorem wTC_len (x : PTrack × Value) : (wTC x).length = 2 := rfl
theorem wI32_len (x : Int) : (wI32 x).length = 1 := rfl
theorem wI16_len (x : Int) : (wI16 x).length = 1 := rfl
def PTracks (w : World) (v : Value) (l : List PTrack) : Prop := ∃ rs : List Value, rs.length = l.length ∧ Row.Leads w v l.length ((l.zip rs).flatMap wTC) ∧
 ∀ (i : Nat) (c : PTrack) (r : Value), l[i]? = some c → rs[i]? = some r → Row.Leads w r c.vals.length (c.vals.flatMap wI16)
theorem PTracks.below {w w' : World} {v : Value} {l : List PTrack} (h : PTracks w v l) (hb : Below w.heap.size w w') : PTracks w' v l := by
 obtain ⟨rs, h1, h2, h3⟩ := h;exact ⟨rs, h1, Row.leads_below h2 hb, fun i c r hc hr => Row.leads_below (h3 i c r hc hr) hb⟩
def PSizes (w : World) (v : Value) (l : List Int) : Prop := Row.Leads w v l.length (l.flatMap wI32)
def rgTrack (p : PTrack) : Prop := (-2147483648 ≤ p.of ∧ p.of ≤ 2147483647) ∧ ∀ s ∈ p.vals, -32768 ≤ s ∧ s ≤ 32767
def rgSizes (l : List Int) : Prop := ∀ s ∈ l, -2147483648 ≤ s ∧ s ≤ 2147483647
def valN (t : PTrack) (i : Nat) : Int := if i < t.vals.length then t.vals.getD i 0 % 65536 else 0
def rowT (off : Nat) (t : PTrack) : List Int := putB (t.of % 4294967296) 4 ++ putB 7 2 ++ putB (off : Int) 2
def rowsT (m : Nat) : Nat → List PTrack → List Int
 | _, [] => []
 | off, t :: l => rowT off t ++ rowsT m (off + 2 * m) l
def valsTo (t : PTrack) (m : Nat) : List Int := (List.range m).flatMap fun i => putB (valN t i) 2
def insT (m : Nat) (l : List PTrack) : List Int := l.flatMap fun t => valsTo t m
def szB (s : Int) : List Int := putB (s % 4294967296) 4
def headT (n m at' : Nat) : List Int := putB (n : Int) 2 ++ putB (m : Int) 2 ++ putB ((at' + 8 + 8 * n : Nat) : Int) 4
def dataW (S : List Int) (l : List PTrack) (at' : Nat) : List Int :=
 headT l.length S.length at' ++ rowsT S.length (at' + 8 + 8 * l.length + 4 * S.length) l ++ S.flatMap szB ++ insT S.length l
theorem headT_len (n m a : Nat) : (headT n m a).length = 8 := by simp [headT, putB_len]
theorem rowT_len (off : Nat) (t : PTrack) : (rowT off t).length = 8 := by simp [rowT, putB_len]
theorem rowsT_len (m : Nat) : ∀ (l : List PTrack) (off : Nat), (rowsT m off l).length = 8 * l.length
 | [], _ => rfl
 | p :: l, off => by rw [rowsT, List.length_append, rowT_len, rowsT_len m l, List.length_cons]; omega
theorem flat_len {α : Type} (f : α → List Int) (c : Nat) (hf : ∀ x, (f x).length = c) : ∀ (l : List α), (l.flatMap f).length = c * l.length
 | [] => by simp
 | x :: l => by rw [List.flatMap_cons, List.length_append, hf, flat_len f c hf l, List.length_cons, Nat.mul_succ]; omega
theorem valsTo_len (t : PTrack) (m : Nat) : (valsTo t m).length = 2 * m := by
 unfold valsTo; rw [flat_len _ 2 (fun i => by simp [putB_len]), List.length_range]
theorem insT_len (m : Nat) (l : List PTrack) : (insT m l).length = 2 * m * l.length := flat_len _ (2 * m) (fun t => valsTo_len t m) l
theorem szB_len (s : Int) : (szB s).length = 4 := by simp [szB, putB_len]
theorem sizeB_len (l : List Int) : (l.flatMap szB).length = 4 * l.length := flat_len _ 4 szB_len l
theorem dataW_len (S : List Int) (l : List PTrack) (a : Nat) : (dataW S l a).length = 8 + 8 * l.length + 4 * S.length + 2 * S.length * l.length := by
 simp only [dataW, List.length_append, headT_len, rowsT_len, sizeB_len, insT_len]
theorem rowsT_snoc (m : Nat) (p : PTrack) : ∀ (l : List PTrack) (off : Nat), rowsT m off (l ++ [p]) = rowsT m off l ++ rowT (off + 2 * m * l.length) p
 | [], off => by simp [rowsT]
 | q :: l, off => by
  rw [List.cons_append, rowsT, rowsT_snoc m p l, rowsT, List.length_cons, Nat.mul_succ, List.append_assoc, Nat.add_assoc, Nat.add_comm (2 * m)]
theorem rowsT_take (m off : Nat) (l : List PTrack) (k : Nat) (p : PTrack) (h : l[k]? = some p) : rowsT m off (l.take (k + 1)) = rowsT m off (l.take k) ++ rowT (off + 2 * m * k) p := by
 have hk : k < l.length := (List.getElem?_eq_some_iff.1 h).1;rw [List.take_add_one, h];have := rowsT_snoc m p (l.take k) off;rw [List.length_take, Nat.min_eq_left (Nat.le_of_lt hk)] at this;exact this
theorem insT_take (m : Nat) (l : List PTrack) (k : Nat) (p : PTrack) (h : l[k]? = some p) : insT m (l.take (k + 1)) = insT m (l.take k) ++ valsTo p m := Row.take_flat _ l k p h
theorem valsTo_succ (t : PTrack) (j : Nat) : valsTo t (j + 1) = valsTo t j ++ putB (valN t j) 2 := by
 unfold valsTo; rw [List.range_succ, List.flatMap_append]; simp
theorem u16_of_i16 (s : Int) : wrap64 (IntKind.u16.wrap s) = s % 65536 := by
 have h : IntKind.u16.wrap s = s % 65536 := by simp [IntKind.wrap, IntKind.bits, IntKind.signed]
 rw [h]; unfold wrap64; omega
set_option maxRecDepth 100000 in
set_option maxHeartbeats 16000000 in
theorem wdata_any (sv tv : Value) (S : List Int) (l : List PTrack) (at' : Nat) (w : World) (hS : S.length ≤ 20) (hl : l.length ≤ 10) (hat : at' ≤ 10000) (hrg : ∀ p ∈ l, rgTrack p) (hrs : rgSizes S) (hin : PTracks w tv l) (hsz : PSizes w sv S) :
  Calls Tryz.prog 31 #[sv, tv, .int .i64 at'] w fun e w' => ∃ v', e = .returned v' ∧ w'.ownsRow w.heap.size 5 1 v' (dataW S l at').length ((dataW S l at').map (Value.int .u8)) ∧ Below w.heap.size w w' := by
 obtain ⟨rs, hrl, hlead, hel⟩ := hin;obtain ⟨ad, cap, rfl⟩ := Row.leads_slice hlead;obtain ⟨sad, scap, rfl⟩ := Row.leads_slice hsz;obtain ⟨n, hn⟩ : ∃ n, n = l.length := ⟨_, rfl⟩;obtain ⟨m, hm⟩ : ∃ m, m = S.length := ⟨_, rfl⟩;have HDW : Hid (dataW S l at' = headT n m at' ++ rowsT m (at' + 8 + 8 * n + 4 * m) l ++ S.flatMap szB ++ insT m l) := by unfold Hid dataW; rw [hn, hm]
 have HDL := Bas.hid (dataW_len S l at');rw [← hn, ← hm] at HDL;rw [← hn, ← hm];have hn10 : n ≤ 10 := by omega
 have hm20 : m ≤ 20 := by omega
 have HN := Bas.hid hn;have HM := Bas.hid hm;have HEL := Bas.hid hel;have HLD := Bas.hid hlead;have HSZ := Bas.hid hsz;have HRG := Bas.hid hrg;have HRS := Bas.hid hrs;have HRL := Bas.hid hrl;clear hrl hlead hel hrg hrs hsz hn hm hl hS;have hemp : w.ownsRow w.heap.size 5 1 (.slice none 0 0) ([] : List Int).length (([] : List Int).map (Value.int .u8)) := Row.owned_nil _ _ _ _;have HE := Bas.hid hemp;clear hemp;go_enter Tryz.func31, Tryz.ntmps31
 go_wp2_with (fail);refine (put_any (n : Int) 2 w.heap.size _ [] w (by omega) (by omega) (by omega) (by simp) (Nat.le_refl _) HE.out).mono ?_
 rintro e w1 ⟨v1, rfl, hg1⟩;go_wp2_with (fail);refine (put_any (m : Int) 2 w.heap.size _ _ w1 (by omega) (by omega) (by omega) (by simp [putB_len]) hg1.grow.size hg1.own).mono ?_
 rintro e w2 ⟨v2, rfl, hg2⟩;have hg12 := hg1.trans hg2;go_wp2_with (fail);refine (put_any _ 4 w.heap.size _ _ w2 (by omega) (by omega) (by omega) (by simp [putB_len]) hg12.grow.size hg12.own).mono ?_
 rintro e w3 ⟨v3, rfl, hg3⟩;have hg13 := hg12.trans hg3;have eh : [] ++ putB (n : Int) 2 ++ putB (m : Int) 2 ++ putB ((at' : Int) + 8 + 8 * (n : Int)) 4 = headT n m at' := by
  unfold headT;rw [List.nil_append, show ((at' : Int) + 8 + 8 * (n : Int)) = ((at' + 8 + 8 * n : Nat) : Int) by omega]
 rw [eh] at hg13;have HB3 := Bas.hid (hg13.below (Below.refl w.heap.size w) (Nat.le_refl _) (fun g h => by cases h))
 have HT3 : Hid (TwoRows w3 w.heap.size v3 (headT n m at' ++ rowsT m (at' + 8 + 8 * n + 4 * m) (l.take 0)) (.slice none 0 0) (insT m (l.take 0))) :=
  ⟨by simpa [rowsT] using hg13.own, Row.owned_nil _ _ _ _, fun g _ h => by cases h⟩
 clear hg1 hg2 hg12 hg3 hg13 eh HE;go_wp2_with (fail);go_loopw [8, 9, 11, 12, 13, 41] (fun xb xs _ _ _ vi wr => ∃ (k : Nat) (vb vs : Value), k ≤ n ∧ vi = .int .i64 k ∧ vb = xb ∧ vs = xs ∧ TwoRows wr w.heap.size vb (headT n m at' ++ rowsT m (at' + 8 + 8 * n + 4 * m) (l.take k)) vs (insT m (l.take k)) ∧ Below w.heap.size w wr) (fun _ _ _ _ _ vi _ => n - (intOf vi).toNat)
 case atStart => exact ⟨0, _, _, Nat.zero_le _, rfl, rfl, rfl, HT3.out, HB3.out⟩
 case round =>
  obtain ⟨k, vb, vs, hk, rfl, hvb, hvs, htw, hb⟩ := hrel;rw [← hvb, ← hvs];clear hvb hvs;have HT := Bas.hid htw;have HB := Bas.hid hb;by_cases hkn : k < n
  ·have hlen := HN.out;obtain ⟨c, hc⟩ : ∃ c, l[k]? = some c := ⟨_, List.getElem?_eq_getElem (by omega)⟩
   obtain ⟨r, hr⟩ : ∃ r, rs[k]? = some r := ⟨_, List.getElem?_eq_getElem (by rw [HRL.out]; omega)⟩
   have hse := HEL.out k c r hc hr;obtain ⟨⟨ot1, ot2⟩, hss⟩ := HRG.out c (List.mem_of_getElem? hc);have hz : (l.zip rs)[k]? = some (c, r) := List.getElem?_zip_eq_some.2 ⟨hc, hr⟩;obtain ⟨B0, O0, cp0, hv0, hcl⟩ := Row.leads_elem wTC_len HLD.out hz (by omega)
   obtain ⟨as', cs', rfl⟩ := Row.leads_slice hse;cases hv0;have q0 := (hb.cell (p := ⟨B0, O0 + k * 2, none⟩) (World.block_lt_of_cell? _ _ (hcl 0 _ rfl))).trans (hcl 0 _ rfl);have q1 := (hb.cell (p := ⟨B0, O0 + k * 2 + 1, none⟩) (World.block_lt_of_cell? _ _ (hcl 1 _ rfl))).trans (hcl 1 _ rfl);have HSE := Bas.hid hse;have HSS := Bas.hid hss;have HRW := Bas.hid (rowsT_take m (at' + 8 + 8 * n + 4 * m) l k c hc);have HSW := Bas.hid (insT_take m l k c hc);have hbl : (headT n m at' ++ rowsT m (at' + 8 + 8 * n + 4 * m) (l.take k)).length = 8 + 8 * k := by rw [List.length_append, headT_len, rowsT_len, List.length_take, Nat.min_eq_left (by omega)]
   have hil : (insT m (l.take k)).length = 2 * m * k := by rw [insT_len, List.length_take, Nat.min_eq_left (by omega)]
   have hmk : m * k ≤ 20 * 10 := Nat.mul_le_mul hm20 (by omega)
   obtain ⟨ct, cv⟩ := c;simp only at q0 q1 HSE HSS HRW HSW ot1 ot2;obtain ⟨nv, hnv⟩ : ∃ nv, nv = cv.length := ⟨_, rfl⟩;have HNV := Bas.hid hnv;rw [← hnv] at q1 HSE;obtain ⟨bb, hbb⟩ : ∃ bb, bb = headT n m at' ++ rowsT m (at' + 8 + 8 * n + 4 * m) (l.take k) := ⟨_, rfl⟩;have HBBX := Bas.hid hbb.symm;rw [← hbb] at HT hbl;generalize insT m (l.take k) = sw at *;obtain ⟨sl, hsl⟩ : ∃ sl, sl = sw.length := ⟨_, rfl⟩;have HSLN := Bas.hid hsl;have hslb : sl = 2 * (m * k) := by rw [hsl, hil, Nat.mul_assoc]
   have HSLB := Bas.hid hslb;have hslc : sl ≤ 400 := by omega
   clear hcl hse hss hb htw hr hz hlen hc hnv hsl HT3 HB3 hbb hil hslb hmk;go_wp2_with (fail);have k8 := Bas.heap_new wr (.cells #[.int .i32 ct, .slice as' nv cs'] 252);have hbW := (Below.refl wr.heap.size wr).alloc (Nat.le_refl _) (.cells #[.int .i32 ct, .slice as' nv cs'] 252);have HT8 := Bas.hid (HT.out.below hbW);have HB8 := Bas.hid (HB.out.trans (hbW.mono HB.out.size));have hnl : vb.ownBlock ≠ some wr.heap.size := fun e => Nat.lt_irrefl _ (Row.own_block HT.out.l e).2
   have hnr : vs.ownBlock ≠ some wr.heap.size := fun e => Nat.lt_irrefl _ (Row.own_block HT.out.r e).2
   generalize wr.alloc (.cells #[.int .i32 ct, .slice as' nv cs'] 252) = W8 at *;generalize wr.heap.size = T8 at k8 hnl hnr ⊢;have c8 := cell_of_heap (i := 0) (v := .int .i32 ct) k8 rfl;have hO8 := HT8.out.l;clear q0 q1 hbW HT HB;have hnl8 := hnl;refine (put_any (ct % 4294967296) 4 w.heap.size _ _ W8 (by omega) (by omega) (by omega) (by omega) HB8.out.size HT8.out.l).mono ?_
   rintro e wA ⟨vA, rfl, gA⟩;have HTA := Bas.hid (HT8.out.growL gA);have HBA := Bas.hid (gA.below HB8.out HB8.out.size (fun g hg => (Row.own_block HT8.out.l hg).1))
   have kA := (gA.grow.block T8 (heap_lt k8) (fun e => hnl8 e.symm)).trans k8
   have hnlA : vA.ownBlock ≠ some T8 := by
    intro e;rcases gA.at' with h | ⟨g, h, h2⟩
    ·exact hnl8 (h ▸ e)
    ·rw [h] at e; cases e;exact absurd (heap_lt k8) (Nat.not_lt.2 h2)
   obtain ⟨ads, cps, hvs⟩ := row_slice HTA.out.r;have hsl2 := HSLN.out;rw [← hsl2] at hvs;clear gA k8 c8 hnl hnl8 hO8 HT8 HB8 hsl2;rw [hvs];go_wp2_with (fail);refine (put_any 7 2 w.heap.size _ _ wA (by omega) (by omega) (by omega) (by simp only [List.length_append, putB_len]; omega) HBA.out.size HTA.out.l).mono ?_
   rintro e wB ⟨vB, rfl, gB⟩;have HTB := Bas.hid (HTA.out.growL gB);have HBB := Bas.hid (gB.below HBA.out HBA.out.size (fun g hg => (Row.own_block HTA.out.l hg).1))
   have kB := (gB.grow.block T8 (heap_lt kA) (fun e => hnlA e.symm)).trans kA
   have hnlB : vB.ownBlock ≠ some T8 := by
    intro e;rcases gB.at' with h | ⟨g, h, h2⟩
    ·exact hnlA (h ▸ e)
    ·rw [h] at e; cases e;exact absurd (heap_lt kA) (Nat.not_lt.2 h2)
   clear gB kA hnlA HTA HBA;go_wp2_with (fail);refine (put_any _ 2 w.heap.size _ _ wB (by omega) (by omega) (by omega) (by simp only [List.length_append, putB_len]; omega) HBB.out.size HTB.out.l).mono ?_
   rintro e wC ⟨vC, rfl, gC⟩;have HTC := Bas.hid (HTB.out.growL gC);have HBC := Bas.hid (gC.below HBB.out HBB.out.size (fun g hg => (Row.own_block HTB.out.l hg).1))
   have kC := (gC.grow.block T8 (heap_lt kB) (fun e => hnlB e.symm)).trans kB
   have hnlC : vC.ownBlock ≠ some T8 := by
    intro e;rcases gC.at' with h | ⟨g, h, h2⟩
    ·exact hnlB (h ▸ e)
    ·rw [h] at e; cases e;exact absurd (heap_lt kB) (Nat.not_lt.2 h2)
   clear gC kB hnlB HTB HBB;rw [← hvs];clear hvs;have HTC2 : Hid (TwoRows wC w.heap.size vC (headT n m at' ++ rowsT m (at' + 8 + 8 * n + 4 * m) (l.take (k + 1))) vs (sw ++ valsTo ⟨ct, cv⟩ 0)) := by
    have h := HTC.out;have e1 : bb ++ putB (ct % 4294967296) 4 ++ putB 7 2 ++ putB ((at' : Int) + 8 + 8 * (n : Int) + 4 * (m : Int) + (sl : Int)) 2 = headT n m at' ++ rowsT m (at' + 8 + 8 * n + 4 * m) (l.take (k + 1)) := by
     rw [HRW.out, ← List.append_assoc, HBBX.out];unfold rowT;rw [show ((at' : Int) + 8 + 8 * (n : Int) + 4 * (m : Int) + (sl : Int)) = ((at' + 8 + 8 * n + 4 * m + 2 * m * k : Nat) : Int) by have := HSLB.out; rw [Nat.mul_assoc]; omega]
     simp only [List.append_assoc]
    rw [e1] at h;have e0 : sw ++ valsTo ⟨ct, cv⟩ 0 = sw := by simp [valsTo]
    rw [e0];exact h
   obtain ⟨bb2, hbb2⟩ : ∃ x, x = headT n m at' ++ rowsT m (at' + 8 + 8 * n + 4 * m) (l.take (k + 1)) := ⟨_, rfl⟩;have HBB2 := Bas.hid hbb2;rw [← hbb2] at HTC2;clear hbb2;have n8 := kC;clear HTC hnlC HRW HBBX kC;go_wp2_with (fail);go_loopw [9, 12, 13, 59] (fun xs _ _ vi wr => ∃ (j : Nat) (vt : Value), j ≤ m ∧ vi = .int .i64 j ∧ vt = xs ∧ TwoRows wr w.heap.size vC bb2 vt (sw ++ valsTo ⟨ct, cv⟩ j) ∧ Below w.heap.size w wr ∧ wr.heap[T8]? = some (.cells #[.int .i32 ct, .slice as' nv cs'] 252 (0, 0))) (fun _ _ _ vi _ => m - (intOf vi).toNat)
   case atStart => exact ⟨0, _, Nat.zero_le _, rfl, rfl, HTC2.out, HBC.out, n8⟩
   case round =>
    obtain ⟨j, vt, hj, rfl, hvt, htw, hb, y8⟩ := hrel;rw [← hvt];clear hvt n8 HTC2 HBC;have HT := Bas.hid htw;have HB := Bas.hid hb;by_cases hjm : j < m
    ·have HTK : Hid (sw ++ valsTo ⟨ct, cv⟩ (j + 1) = sw ++ valsTo ⟨ct, cv⟩ j ++ putB (valN ⟨ct, cv⟩ j) 2) := by
      unfold Hid;rw [valsTo_succ, List.append_assoc]
     have hyl : (sw ++ valsTo ⟨ct, cv⟩ j).length ≤ 440 := by
      rw [List.length_append, valsTo_len, ← HSLN.out]; omega
     have cA := cell_of_heap (i := 1) (v := .slice as' nv cs') y8 rfl;have f8 : vt.ownBlock ≠ some T8 := own_ty HT.out.r y8 (by decide)
     by_cases hjv : j < nv
     ·obtain ⟨s, hs⟩ : ∃ s, cv[j]? = some s := ⟨_, List.getElem?_eq_getElem (by have := HNV.out; omega)⟩
      obtain ⟨B1, O1, cp1, hv1, hcl⟩ := Row.leads_elem wI16_len HSE.out hs (by omega)
      cases hv1;have hc0 : w.cell? ⟨B1, O1 + j, none⟩ = some (.int .i16 s) := by
       have h := hcl 0 (.int .i16 s) rfl;simpa using h
      have q0 := (hb.cell (p := ⟨B1, O1 + j, none⟩) (World.block_lt_of_cell? _ _ hc0)).trans hc0;obtain ⟨os1, os2⟩ := HSS.out s (List.mem_of_getElem? hs);have HVN : Hid (valN ⟨ct, cv⟩ j = s % 65536) := by
       unfold Hid valN;rw [if_pos (by have := HNV.out; show j < cv.length; omega)]
       show cv.getD j 0 % 65536 = _
       rw [List.getD_eq_getElem?_getD, hs]; rfl
      generalize sw ++ valsTo ⟨ct, cv⟩ j = ys at *;clear hcl hs htw hb hc0;go_wp2_with (fail);rw [u16_of_i16 s];refine (put_any (s % 65536) 2 w.heap.size _ _ wr (by omega) (by omega) (by omega) (by omega) HB.out.size HT.out.r).mono ?_
      rintro e wF ⟨vF, rfl, gF⟩;have HTF := Bas.hid (HT.out.growR gF);have HBF := Bas.hid (gF.below HB.out HB.out.size (fun g hg => (Row.own_block HT.out.r hg).1))
      have z8 := (gF.grow.block T8 (heap_lt y8) (fun e => f8 e.symm)).trans y8
      clear gF HT HB q0 y8 f8;go_wp2_with (fail);go_roundw
      case rel => exact ⟨j + 1, _, by omega, by go_num, rfl, by rw [HTK.out, HVN.out]; exact HTF.out, HBF.out, z8⟩
      case measure => simp [intOf]; omega
     ·have HVN : Hid (valN ⟨ct, cv⟩ j = 0) := by
       unfold Hid valN;rw [if_neg (by have := HNV.out; show ¬ j < cv.length; omega)]
      generalize sw ++ valsTo ⟨ct, cv⟩ j = ys at *;clear htw hb;go_wp2_with (fail);refine (put_any 0 2 w.heap.size _ _ wr (by omega) (by omega) (by omega) (by omega) HB.out.size HT.out.r).mono ?_
      rintro e wF ⟨vF, rfl, gF⟩;have HTF := Bas.hid (HT.out.growR gF);have HBF := Bas.hid (gF.below HB.out HB.out.size (fun g hg => (Row.own_block HT.out.r hg).1))
      have z8 := (gF.grow.block T8 (heap_lt y8) (fun e => f8 e.symm)).trans y8
      clear gF HT HB y8 f8;go_wp2_with (fail);go_roundw
      case rel => exact ⟨j + 1, _, by omega, by go_num, rfl, by rw [HTK.out, HVN.out]; exact HTF.out, HBF.out, z8⟩
      case measure => simp [intOf]; omega
    ·have hjn2 : j = m := by omega
     have hfl : sw ++ valsTo ⟨ct, cv⟩ j = insT m (l.take (k + 1)) := by rw [HSW.out, hjn2]
     rw [hfl] at htw;have HTF := Bas.hid htw;have HBF := Bas.hid hb;clear htw hb hfl;go_wp2_with (fail);go_roundw
     case rel => exact ⟨k + 1, _, _, by omega, by go_num, rfl, rfl, HBB2.out ▸ HTF.out, HBF.out⟩
     case measure => simp [intOf]; omega
  ·have hkn2 : k = n := by omega
   have h := HT.out;rw [hkn2, HN.out, List.take_length] at h;rw [← HN.out] at h;have hbl : (headT n m at' ++ rowsT m (at' + 8 + 8 * n + 4 * m) l).length = 8 + 8 * n := by rw [List.length_append, headT_len, rowsT_len, ← HN.out]
   have hsl : (insT m l).length = 2 * m * n := by rw [insT_len, ← HN.out]
   have hmk : m * n ≤ 20 * 10 := Nat.mul_le_mul hm20 hn10;have HLL : Hid ((dataW S l at').length = 8 + 8 * n + 4 * m + 2 * m * n) := by unfold Hid; rw [dataW_len, ← HN.out, ← HM.out]
   generalize headT n m at' ++ rowsT m (at' + 8 + 8 * n + 4 * m) l = bb at *;generalize insT m l = sw at *;have hF0 : Hid (TwoRows wr w.heap.size vb (bb ++ (S.take 0).flatMap szB) vs sw) := by
    unfold Hid;simpa using h
   clear h htw HT hkn2;have HBL := Bas.hid hb;clear hb;go_wp2_with (fail);go_loopw [8, 15, 81] (fun xb _ vi wr => ∃ (j : Nat) (vt : Value), j ≤ m ∧ vi = .int .i64 j ∧ vt = xb ∧ TwoRows wr w.heap.size vt (bb ++ (S.take j).flatMap szB) vs sw ∧ Below w.heap.size w wr) (fun _ _ vi _ => m - (intOf vi).toNat)
   case atStart => exact ⟨0, _, Nat.zero_le _, rfl, rfl, hF0.out, HBL.out⟩
   case round =>
    obtain ⟨j, vt, hj, rfl, hvt, htw, hb⟩ := hrel;rw [← hvt];clear hvt hF0 HBL;have HT := Bas.hid htw;have HB := Bas.hid hb;by_cases hjm : j < m
    ·obtain ⟨s, hs⟩ : ∃ s, S[j]? = some s := ⟨_, List.getElem?_eq_getElem (by have := HM.out; omega)⟩
     have hszz := HSZ.out;unfold PSizes at hszz;rw [← HM.out] at hszz;obtain ⟨B1, O1, cp1, hv1, hcl⟩ := Row.leads_elem wI32_len hszz hs (by omega)
     cases hv1;have hc0 : w.cell? ⟨B1, O1 + j, none⟩ = some (.int .i32 s) := by
      have h := hcl 0 (.int .i32 s) rfl;simpa using h
     have q0 := (hb.cell (p := ⟨B1, O1 + j, none⟩) (World.block_lt_of_cell? _ _ hc0)).trans hc0;obtain ⟨os1, os2⟩ := HRS.out s (List.mem_of_getElem? hs);have HTK : Hid (bb ++ (S.take (j + 1)).flatMap szB = bb ++ (S.take j).flatMap szB ++ putB (s % 4294967296) 4) := by
      unfold Hid;rw [Row.take_flat szB S j s hs, ← List.append_assoc];rfl
     have hyl : (bb ++ (S.take j).flatMap szB).length ≤ 8 + 80 + 80 := by
      rw [List.length_append, sizeB_len, List.length_take, hbl]; omega
     generalize bb ++ (S.take j).flatMap szB = ys at *;clear hcl hs htw hb hc0 hszz;go_wp2_with (fail);refine (put_any (s % 4294967296) 4 w.heap.size _ _ wr (by omega) (by omega) (by omega) (by omega) HB.out.size HT.out.l).mono ?_
     rintro e wF ⟨vF, rfl, gF⟩;have HTF := Bas.hid (HT.out.growL gF);have HBF := Bas.hid (gF.below HB.out HB.out.size (fun g hg => (Row.own_block HT.out.l hg).1))
     clear gF HT HB q0;go_wp2_with (fail);go_roundw
     case rel => exact ⟨j + 1, _, by omega, by go_num, rfl, by rw [HTK.out]; exact HTF.out, HBF.out⟩
     case measure => simp [intOf]; omega
    ·have hjm2 : j = m := by omega
     have h := HT.out;rw [hjm2, HM.out, List.take_length] at h;have HF := Bas.hid h;obtain ⟨ad8, cp8, rfl⟩ := row_slice h.r;have hbl2 : (bb ++ S.flatMap szB).length = 8 + 8 * n + 4 * m := by rw [List.length_append, sizeB_len, hbl, ← HM.out]
     have HDX : Hid (bb ++ S.flatMap szB ++ sw = dataW S l at') := by unfold Hid; rw [HDW.out]
     obtain ⟨sl, hsl2⟩ : ∃ sl, sl = sw.length := ⟨_, rfl⟩;have HSL := Bas.hid hsl2;have hslb : sl ≤ 400 := by rw [hsl2, hsl, Nat.mul_assoc]; omega
     rw [← hsl2];generalize bb ++ S.flatMap szB = bbx at *;clear hb htw h hsl2 HT hsl hbl;go_wp2_with (at_builtin; refine Row.fence ?_);refine Row.unfence ?_;refine Row.append_at rfl _ _ 47 5 rfl (.int .u8 0) 1 1 Tryz.underlying47 info8 rfl (by decide) w.heap.size vt _ _ rfl HF.out.l (.slice ad8 sl cp8) sl _ rfl (by rw [HSL.out]; exact Row.leads_owned HF.out.r) (by simp [HSL.out]) (by simp; intros; rfl) (by unfold maxLen; omega) (by omega) HB.out.size ?_
     intro v9 w9 h91 h92 _ h93;have h91' : w9.ownsRow w.heap.size 5 1 v9 (dataW S l at').length ((dataW S l at').map (Value.int .u8)) := by
      rw [← HDX.out];simpa only [List.map_append, List.length_append, HSL.out, Nat.add_assoc, List.append_assoc] using h91
     have HB9 := Bas.hid (HB.out.grown h92 HB.out.size (fun g hg => (Row.own_block HF.out.l hg).1))
     have HO9 := Bas.hid h91';obtain ⟨ad9, cp9, rfl⟩ := row_slice h91';clear h91 h92 h93 h91' HF;go_wp2_with (fail);go_ret;exact ⟨_, rfl, HO9.out, HB9.out⟩
structure WPlanT where
 s0 : List Int
 s1 : List Int
 t0 : List PTrack
 t1 : List PTrack
def PPlan (w : World) (a b c d : Value) (p : WPlanT) : Prop := PSizes w a p.s0 ∧ PSizes w b p.s1 ∧ PTracks w c p.t0 ∧ PTracks w d p.t1
def smallP (p : WPlanT) : Prop := (p.s0.length ≤ 20 ∧ p.t0.length ≤ 10) ∧ p.s1.length ≤ 20 ∧ p.t1.length ≤ 10
def rgPlan (p : WPlanT) : Prop := (rgSizes p.s0 ∧ ∀ t ∈ p.t0, rgTrack t) ∧ rgSizes p.s1 ∧ ∀ t ∈ p.t1, rgTrack t
def d0 (p : WPlanT) : List Int := if p.t0.length = 0 then [] else dataW p.s0 p.t0 12
def a0 (p : WPlanT) : Nat := if p.t0.length = 0 then 0 else 12
def a1 (p : WPlanT) : Nat := if p.t1.length = 0 then 0 else 12 + (d0 p).length
def d1 (p : WPlanT) : List Int := if p.t1.length = 0 then [] else dataW p.s1 p.t1 (12 + (d0 p).length)
def stB (p : WPlanT) : Nat → List Int
 | 0 => putB 65536 4 ++ putB 0 2
 | 1 => putB 65536 4 ++ putB 0 2 ++ putB (a0 p : Int) 2
 | _ => putB 65536 4 ++ putB 0 2 ++ putB (a0 p : Int) 2 ++ putB (a1 p : Int) 2
def stI (p : WPlanT) : Nat → List Int
 | 0 => []
 | 1 => d0 p
 | _ => d0 p ++ d1 p
def writeT (p : WPlanT) : List Int := stB p 2 ++ [0, 0] ++ stI p 2
theorem d0_len (p : WPlanT) (h : smallP p) : (d0 p).length ≤ 600 := by
 unfold d0;split
 ·simp
 ·rw [dataW_len];have : p.s0.length * p.t0.length ≤ 20 * 10 := Nat.mul_le_mul h.1.1 h.1.2;have := h.1.1; have := h.1.2;rw [Nat.mul_assoc]; omega
theorem d1_len (p : WPlanT) (h : smallP p) : (d1 p).length ≤ 600 := by
 unfold d1;split
 ·simp
 ·rw [dataW_len];have : p.s1.length * p.t1.length ≤ 20 * 10 := Nat.mul_le_mul h.2.1 h.2.2;have := h.2.1; have := h.2.2;rw [Nat.mul_assoc]; omega
theorem stB_len (p : WPlanT) (k : Nat) : (stB p k).length ≤ 10 := by
 match k with
 | 0 => simp [stB, putB_len]
 | 1 => simp [stB, putB_len]
 | _ + 2 => simp [stB, putB_len]
theorem stI_len (p : WPlanT) (h : smallP p) (k : Nat) : (stI p k).length ≤ 1200 := by
 have := d0_len p h;have := d1_len p h
 match k with
 | 0 => simp [stI]
 | 1 => simp only [stI]; omega
 | _ + 2 => simp only [stI, List.length_append]; omega
theorem two_set {w : World} {base : Nat} {v u : Value} {xs ys : List Int} (h : TwoRows w base v xs u ys) {T i : Nat} {cs : Array Value} {t : TypeId} (hT : w.heap[T]? = some (.cells cs t (0, 0))) (ht : 5 ≠ t) (x : Value) : TwoRows (w.setCell ⟨T, i, none⟩ x) base v xs u ys :=
 ⟨Row.owned_keep h.l fun g hg => Below.heap_setCell _ _ _ _ (fun e => own_ty h.l hT ht (by rw [hg, e])), Row.owned_keep h.r fun g hg => Below.heap_setCell _ _ _ _ (fun e => own_ty h.r hT ht (by rw [hg, e])), h.apart⟩
set_option maxRecDepth 100000 in
set_option maxHeartbeats 16000000 in
theorem twrite_any (sa sb ta tb : Value) (p : WPlanT) (w : World) (hsm : smallP p) (hrg : rgPlan p) (hin : PPlan w sa sb ta tb p) :
    Calls Tryz.prog 18 #[.agg #[sa, sb, ta, tb]] w fun e w' => ∃ v', e = .returned v' ∧ w'.ownsRow w.heap.size 5 1 v' (writeT p).length ((writeT p).map (Value.int .u8)) ∧ Below w.heap.size w w' := by
  obtain ⟨hs0, hs1, ⟨rs0, hrl0, hlead0, hel0⟩, ⟨rs1, hrl1, hlead1, hel1⟩⟩ := hin
  have HS0 := Bas.hid hs0
  have HS1 := Bas.hid hs1
  have HT0 : Hid (PTracks w ta p.t0) := ⟨rs0, hrl0, hlead0, hel0⟩
  have HT1 : Hid (PTracks w tb p.t1) := ⟨rs1, hrl1, hlead1, hel1⟩
  obtain ⟨sad0, scap0, rfl⟩ := Row.leads_slice hs0
  obtain ⟨sad1, scap1, rfl⟩ := Row.leads_slice hs1
  obtain ⟨tad0, tcap0, rfl⟩ := Row.leads_slice hlead0
  obtain ⟨tad1, tcap1, rfl⟩ := Row.leads_slice hlead1
  have HSM := Bas.hid hsm
  have HRG := Bas.hid hrg
  obtain ⟨n0, hn0⟩ : ∃ n, n = p.t0.length := ⟨_, rfl⟩
  obtain ⟨n1, hn1⟩ : ∃ n, n = p.t1.length := ⟨_, rfl⟩
  obtain ⟨m0, hm0⟩ : ∃ n, n = p.s0.length := ⟨_, rfl⟩
  obtain ⟨m1, hm1⟩ : ∃ n, n = p.s1.length := ⟨_, rfl⟩
  have HD0 := Bas.hid fun w' (hb : Below w.heap.size w w') => wdata_any (.slice sad0 m0 scap0) (.slice tad0 n0 tcap0) p.s0 p.t0 12 w' hsm.1.1 hsm.1.2 (by omega) hrg.1.2 hrg.1.1 (by rw [hn0]; exact HT0.out.below hb) (by rw [hm0]; exact Row.leads_below HS0.out hb)
  have HD1 := Bas.hid fun w' (hb : Below w.heap.size w w') => wdata_any (.slice sad1 m1 scap1) (.slice tad1 n1 tcap1) p.s1 p.t1 (12 + (d0 p).length) w' hsm.2.1 hsm.2.2 (by have := d0_len p hsm; omega) hrg.2.2 hrg.2.1 (by rw [hn1]; exact HT1.out.below hb) (by rw [hm1]; exact Row.leads_below HS1.out hb)
  rw [← hn0, ← hn1, ← hm0, ← hm1]
  have hn0b : n0 ≤ 10 := hn0 ▸ hsm.1.2
  have hn1b : n1 ≤ 10 := hn1 ▸ hsm.2.2
  have HN0 := Bas.hid hn0
  have HN1 := Bas.hid hn1
  clear hs0 hs1 hrl0 hlead0 hel0 hrl1 hlead1 hel1 HS0 HS1 HT0 HT1 hsm hrg hn0 hn1 hm0 hm1
  have HE : Hid (w.ownsRow w.heap.size 5 1 (.slice none 0 0) ([] : List Int).length (([] : List Int).map (Value.int .u8))) := Row.owned_nil _ _ _ _
  go_enter Tryz.func18, Tryz.ntmps18
  go_wp2_with (fail)
  have k1 := Bas.heap_new w (.cells #[.slice sad0 m0 scap0, .slice sad1 m1 scap1, .slice tad0 n0 tcap0, .slice tad1 n1 tcap1] 42)
  have HB1 := Bas.hid ((Below.refl w.heap.size w).alloc (Nat.le_refl _) (.cells #[.slice sad0 m0 scap0, .slice sad1 m1 scap1, .slice tad0 n0 tcap0, .slice tad1 n1 tcap1] 42))
  generalize w.alloc (.cells #[.slice sad0 m0 scap0, .slice sad1 m1 scap1, .slice tad0 n0 tcap0, .slice tad1 n1 tcap1] 42) = W1 at *
  have hem : W1.ownsRow w.heap.size 5 1 (.slice none 0 0) ([] : List Int).length (([] : List Int).map (Value.int .u8)) := Row.owned_nil _ _ _ _
  refine (put_any 65536 4 w.heap.size _ [] W1 (by omega) (by omega) (by omega) (by simp) HB1.out.size hem).mono ?_
  rintro e w2 ⟨v2, rfl, hg2⟩
  go_wp2_with (fail)
  refine (put_any 0 2 w.heap.size _ _ w2 (by omega) (by omega) (by omega) (by simp [putB_len]) (Nat.le_trans HB1.out.size hg2.grow.size) hg2.own).mono ?_
  rintro e w3 ⟨v3, rfl, hg3⟩
  have hg := hg2.trans hg3
  have HB3 := Bas.hid (hg.below HB1.out HB1.out.size (fun g h => by cases h))
  have k3 := (hg.grow.block _ (heap_lt k1) (by simp [Value.ownBlock])).trans k1
  have HO3 := Bas.hid hg.own
  clear hg2 hg3 hg k1 HB1 HE hem
  go_wp2_with (fail)
  have k4 := Bas.heap_new w3 (.cells #[.int .i64 0, .int .i64 0] 133)
  have hb4 := (Below.refl w3.heap.size w3).alloc (Nat.le_refl _) (.cells #[.int .i64 0, .int .i64 0] 133)
  have HB4 := Bas.hid (HB3.out.trans (hb4.mono HB3.out.size))
  have j1 := (hb4.block _ (heap_lt k3)).trans k3
  have hT4 : w.heap.size < w3.heap.size := heap_lt k3
  have HT4 : Hid (TwoRows (w3.alloc (.cells #[.int .i64 0, .int .i64 0] 133)) w.heap.size v3 (stB p 0) (.slice none 0 0) (stI p 0)) :=
    ⟨by simpa [stB] using Row.owned_below HO3.out hb4, Row.owned_nil _ _ _ _, fun g _ h => by cases h⟩
  generalize w3.alloc (.cells #[.int .i64 0, .int .i64 0] 133) = W4 at *
  generalize w3.heap.size = T4 at *
  clear hb4 HB3 k3 HO3
  go_loopw [3, 5, 6, 9] (fun xb xs _ vi wr => ∃ (k : Nat) (vb vs : Value) (x0 x1 : Int), k ≤ 2 ∧ vi = .int .i64 k ∧ vb = xb ∧ vs = xs ∧ TwoRows wr w.heap.size vb (stB p k) vs (stI p k) ∧ Below w.heap.size w wr ∧
      wr.heap[w.heap.size]? = some (.cells #[.slice sad0 m0 scap0, .slice sad1 m1 scap1, .slice tad0 n0 tcap0, .slice tad1 n1 tcap1] 42 (0, 0)) ∧ wr.heap[T4]? = some (.cells #[.int .i64 x0, .int .i64 x1] 133 (0, 0)) ∧ (k = 0 → x0 = 0) ∧ (k ≤ 1 → x1 = 0)) (fun _ _ _ vi _ => 2 - (intOf vi).toNat)
  case atStart => exact ⟨0, _, _, 0, 0, by omega, rfl, rfl, rfl, HT4.out, HB4.out, j1, k4, fun _ => rfl, fun _ => rfl⟩
  case round =>
    obtain ⟨k, vb, vs, x0, x1, hk, rfl, hvb, hvs, htw, hb, y1, y4, hx⟩ := hrel
    rw [← hvb, ← hvs]
    clear hvb hvs HT4 HB4 j1 k4
    have HT := Bas.hid htw
    have HB := Bas.hid hb
    have hlb := stB_len p k
    have hli := stI_len p HSM.out k
    obtain ⟨sl, hsl⟩ : ∃ sl, sl = (stI p k).length := ⟨_, rfl⟩
    have HSL := Bas.hid hsl
    rw [← hsl] at hli
    clear hsl
    have q0 := cell_of_heap (i := 0) (v := .slice sad0 m0 scap0) y1 rfl
    have q1 := cell_of_heap (i := 1) (v := .slice sad1 m1 scap1) y1 rfl
    have q2 := cell_of_heap (i := 2) (v := .slice tad0 n0 tcap0) y1 rfl
    have q3 := cell_of_heap (i := 3) (v := .slice tad1 n1 tcap1) y1 rfl
    have c0 := cell_of_heap (i := 0) (v := .int .i64 x0) y4 rfl
    have c1 := cell_of_heap (i := 1) (v := .int .i64 x1) y4 rfl
    have f4 := fun i => free_of_heap (i := i) y4
    have e1 : vb.ownBlock ≠ some w.heap.size := own_ty HT.out.l y1 (by decide)
    have e4 : vb.ownBlock ≠ some T4 := own_ty HT.out.l y4 (by decide)
    rcases (by omega : k = 0 ∨ k = 1 ∨ k = 2) with rfl | rfl | rfl
    · have hx0 : x0 = 0 := hx.1 rfl
      have hx1 : x1 = 0 := hx.2 (by omega)
      subst hx0 hx1
      by_cases hz : n0 = 0
      · have hd : decide ((0 : Int) < (n0 : Int)) = false := by simp; omega
        have hd2 : decide (0 < n0) = false := by simp; omega
        have HA : Hid (stB p 1 = stB p 0 ++ putB 0 2) := by
          have : a0 p = 0 := by unfold a0; rw [if_pos (HN0.out ▸ hz)]
          unfold Hid
          show stB p 0 ++ putB (a0 p : Int) 2 = _
          rw [this]; rfl
        have HI : Hid (stI p 1 = stI p 0) := by
          have : d0 p = [] := by unfold d0; rw [if_pos (HN0.out ▸ hz)]
          unfold Hid
          simp [stI, this]
        clear hz htw hb
        go_wp2_with (fail)
        refine (put_any 0 2 w.heap.size _ _ wr (by omega) (by omega) (by omega) (by omega) HB.out.size HT.out.l).mono ?_
        rintro e wF ⟨vF, rfl, gF⟩
        have HTF := Bas.hid (HT.out.growL gF)
        have HBF := Bas.hid (gF.below HB.out HB.out.size (fun g hg => (Row.own_block HT.out.l hg).1))
        have z1 := (gF.grow.block _ (heap_lt y1) (fun e => e1 e.symm)).trans y1
        have z4 := (gF.grow.block _ (heap_lt y4) (fun e => e4 e.symm)).trans y4
        clear gF HT HB y1 y4 c0 c1 q0 q1 q2 q3 f4 e1 e4
        go_wp2_with (fail)
        go_roundw
        case rel => exact ⟨1, _, _, 0, 0, by omega, by go_num, rfl, rfl, by rw [HA.out, HI.out]; exact HTF.out, HBF.out, z1, z4, ⟨fun h => by omega, fun _ => rfl⟩⟩
        case measure => simp [intOf]
      · have hd : decide ((0 : Int) < (n0 : Int)) = true := by simp; omega
        have hd2 : decide (0 < n0) = true := by simp; omega
        have HA : Hid (stB p 1 = stB p 0 ++ putB (12 + (sl : Int)) 2) := by
          have : a0 p = 12 + sl := by unfold a0; rw [if_neg (HN0.out ▸ hz), HSL.out]; rfl
          unfold Hid
          show stB p 0 ++ putB (a0 p : Int) 2 = _
          rw [this]; rfl
        have HI : Hid (stI p 1 = stI p 0 ++ dataW p.s0 p.t0 (12 + sl)) := by
          have : d0 p = dataW p.s0 p.t0 (12 + sl) := by unfold d0; rw [if_neg (HN0.out ▸ hz), HSL.out]; rfl
          unfold Hid
          rw [← this]; rfl
        have HDK : Hid (∀ w', Below w.heap.size w w' → Calls Tryz.prog 31 #[.slice sad0 m0 scap0, .slice tad0 n0 tcap0, .int .i64 (12 + (sl : Int))] w' fun e w'' => ∃ v', e = .returned v' ∧ w''.ownsRow w'.heap.size 5 1 v' (dataW p.s0 p.t0 (12 + sl)).length ((dataW p.s0 p.t0 (12 + sl)).map (Value.int .u8)) ∧ Below w'.heap.size w' w'') := by
          intro w' hb
          have h := HD0.out w' hb
          have e2 : 12 + (stI p 0).length = 12 + sl := by rw [HSL.out]
          simp only [stI, List.length_nil, Nat.add_zero] at e2
          first | rw [e2] at h | (have e3 : sl = 0 := by omega
                                  rw [e3])
          simpa using h
        have hdl : (dataW p.s0 p.t0 (12 + sl)).length ≤ 600 := by
          have h := d0_len p HSM.out
          have : d0 p = dataW p.s0 p.t0 (12 + sl) := by unfold d0; rw [if_neg (HN0.out ▸ hz), HSL.out]; rfl
          rwa [this] at h
        generalize dataW p.s0 p.t0 (12 + sl) = D at *
        obtain ⟨ads, cps, hvs⟩ := row_slice HT.out.r
        rw [← HSL.out] at hvs
        rw [hvs]
        clear hz htw hb
        go_wp2_with (fail)
        have HT5 := Bas.hid (two_set HT.out y4 (by decide) (i := 0) (.int .i64 (12 + (sl : Int))))
        have HB5 := Bas.hid (HB.out.setCell (p := ⟨T4, 0, none⟩) (Nat.le_of_lt hT4) (.int .i64 (12 + (sl : Int))))
        have z4 : (wr.setCell ⟨T4, 0, none⟩ (.int .i64 (12 + (sl : Int)))).heap[T4]? = some (.cells #[.int .i64 (12 + (sl : Int)), .int .i64 0] 133 (0, 0)) := heap_set (i := 0) y4 (.int .i64 (12 + (sl : Int)))
        have z1 := (Below.heap_setCell wr ⟨T4, 0, none⟩ (.int .i64 (12 + (sl : Int))) w.heap.size (by show w.heap.size ≠ T4; omega)).trans y1
        generalize wr.setCell ⟨T4, 0, none⟩ (.int .i64 (12 + (sl : Int))) = W5 at *
        clear y1 y4 c0 c1 q0 q1 q2 q3 f4 e1 e4 HT HB
        refine' Pl.region_v0 48 [0] [1, 2, 3, 4, 5, 6, 7, 8, 9, 10, 11] [12, 13, 14] _ (by kernel_rfl) (by kernel_rfl) (by simp) (fun _ _ _ _ e h => ⟨e ▸ h.1, h.2⟩) ?_ ?_
        rotate_left
        · intro I F hI hF
          simp only [Pl.selN, List.cons_append, List.nil_append, List.drop_succ_cons, List.drop_zero]
          have x0 := fun i => hF.cell (heap_lt z1) (cell_of_heap (i := 0) (v := .slice sad0 m0 scap0) z1 rfl) i
          have x1 := fun i => hF.cell (heap_lt z1) (cell_of_heap (i := 2) (v := .slice tad0 n0 tcap0) z1 rfl) i
          have x2 := fun i => hF.cell (heap_lt z4) (cell_of_heap (i := 0) (v := .int .i64 (12 + (sl : Int))) z4 rfl) i
          repeat (go_big_quiet_step (fail))
          refine wpQuiet_nil ?_
          rfl
        intro u hu
        simp only [Pl.selN, List.drop_succ_cons, List.drop_zero]
        have HTU := Bas.hid (HT5.out.below hu)
        have HBU := Bas.hid (HB5.out.trans (hu.mono HB5.out.size))
        have u1 := (hu.block _ (heap_lt z1)).trans z1
        have u4 := (hu.block _ (heap_lt z4)).trans z4
        clear hu HT5 HB5 z1 z4
        go_wp2_with (fail)
        refine (HDK.out _ HBU.out).mono ?_
        rintro e W6 ⟨vd, rfl, hod, hb6⟩
        have HT6 := Bas.hid (HTU.out.below hb6)
        have HB6 := Bas.hid (HBU.out.trans (hb6.mono HBU.out.size))
        have w1 := (hb6.block _ (heap_lt u1)).trans u1
        have w4 := (hb6.block _ (heap_lt u4)).trans u4
        have HOD := Bas.hid hod
        obtain ⟨dad, dcp, rfl⟩ := row_slice hod
        obtain ⟨dl, hdl2⟩ : ∃ dl, dl = D.length := ⟨_, rfl⟩
        have HDL := Bas.hid hdl2
        have f1 : (Value.slice ads sl cps).ownBlock ≠ some w.heap.size := by rw [← hvs]; exact own_ty HT6.out.r w1 (by decide)
        have f4 : (Value.slice ads sl cps).ownBlock ≠ some T4 := by rw [← hvs]; exact own_ty HT6.out.r w4 (by decide)
        have HVS := Bas.hid hvs
        rw [← hdl2] at hdl ⊢
        clear hb6 u1 u4 HTU HBU HDK hod hdl2 hvs
        go_wp2_with (at_builtin; refine Row.fence ?_)
        refine Row.unfence ?_
        refine Row.append_at rfl _ _ 47 5 rfl (.int .u8 0) 1 1 Tryz.underlying47 info8 rfl (by decide) w.heap.size (.slice ads sl cps) sl _ rfl (by have h := HT6.out.r; rw [HVS.out, ← HSL.out] at h; exact h) (.slice dad dl dcp) dl _ rfl (by rw [HDL.out]; exact Row.leads_owned HOD.out) (by simp [HDL.out]) (by simp; intros; rfl) (by unfold maxLen; omega) (by omega) HB6.out.size ?_
        intro v9 w9 h91 h92 _ h93
        have g9 : Grown W6 w.heap.size (.slice ads sl cps) (stI p 0 ++ D) v9 w9 :=
          ⟨by simpa only [List.map_append, List.length_append, HDL.out, HSL.out] using h91, h92, h93.imp id fun h => ⟨_, h, Nat.le_refl _⟩⟩
        have HT9 : Hid (TwoRows w9 w.heap.size vb (stB p 0) v9 (stI p 1)) := by
          unfold Hid
          rw [HI.out]
          have h := HT6.out
          rw [HVS.out] at h
          exact h.growR g9
        have HB9 := Bas.hid (HB6.out.grown h92 HB6.out.size (fun g hg => (Row.own_block HT6.out.r (by rw [HVS.out]; exact hg)).1))
        have m1' := (h92.block _ (heap_lt w1) (fun e => f1 e.symm)).trans w1
        have m4' := (h92.block _ (heap_lt w4) (fun e => f4 e.symm)).trans w4
        have e1 : vb.ownBlock ≠ some w.heap.size := own_ty HT9.out.l m1' (by decide)
        have e4 : vb.ownBlock ≠ some T4 := own_ty HT9.out.l m4' (by decide)
        obtain ⟨ad9, cp9, rfl⟩ := row_slice HT9.out.r
        have cx := cell_of_heap (i := 0) (v := .int .i64 (12 + (sl : Int))) m4' rfl
        clear h91 h92 h93 g9 HT6 HB6 w1 w4 HOD f1 f4
        go_wp2_with (fail)
        refine (put_any _ 2 w.heap.size _ _ w9 (by omega) (by omega) (by omega) (by omega) HB9.out.size HT9.out.l).mono ?_
        rintro e wF ⟨vF, rfl, gF⟩
        have HTF := Bas.hid (HT9.out.growL gF)
        have HBF := Bas.hid (gF.below HB9.out HB9.out.size (fun g hg => (Row.own_block HT9.out.l hg).1))
        have z1 := (gF.grow.block _ (heap_lt m1') (fun e => e1 e.symm)).trans m1'
        have z4 := (gF.grow.block _ (heap_lt m4') (fun e => e4 e.symm)).trans m4'
        clear gF HT9 HB9 m1' m4' cx e1 e4
        go_wp2_with (fail)
        go_roundw
        case rel => exact ⟨1, _, _, _, _, by omega, by go_num, rfl, rfl, by rw [HA.out]; exact HTF.out, HBF.out, z1, z4, ⟨fun h => by omega, fun _ => rfl⟩⟩
        case measure => simp [intOf]
    · have hx1 : x1 = 0 := hx.2 (by omega)
      subst hx1
      by_cases hz : n1 = 0
      · have hd : decide ((0 : Int) < (n1 : Int)) = false := by simp; omega
        have hd2 : decide (0 < n1) = false := by simp; omega
        have HA : Hid (stB p 2 = stB p 1 ++ putB 0 2) := by
          have : a1 p = 0 := by unfold a1; rw [if_pos (HN1.out ▸ hz)]
          unfold Hid
          show stB p 1 ++ putB (a1 p : Int) 2 = _
          rw [this]; rfl
        have HI : Hid (stI p 2 = stI p 1) := by
          have : d1 p = [] := by unfold d1; rw [if_pos (HN1.out ▸ hz)]
          unfold Hid
          simp [stI, this]
        clear hz htw hb
        go_wp2_with (fail)
        refine (put_any 0 2 w.heap.size _ _ wr (by omega) (by omega) (by omega) (by omega) HB.out.size HT.out.l).mono ?_
        rintro e wF ⟨vF, rfl, gF⟩
        have HTF := Bas.hid (HT.out.growL gF)
        have HBF := Bas.hid (gF.below HB.out HB.out.size (fun g hg => (Row.own_block HT.out.l hg).1))
        have z1 := (gF.grow.block _ (heap_lt y1) (fun e => e1 e.symm)).trans y1
        have z4 := (gF.grow.block _ (heap_lt y4) (fun e => e4 e.symm)).trans y4
        clear gF HT HB y1 y4 c0 c1 q0 q1 q2 q3 f4 e1 e4
        go_wp2_with (fail)
        go_roundw
        case rel => exact ⟨2, _, _, x0, 0, by omega, by go_num, rfl, rfl, by rw [HA.out, HI.out]; exact HTF.out, HBF.out, z1, z4, ⟨fun h => by omega, fun h => by omega⟩⟩
        case measure => simp [intOf]
      · have hd : decide ((0 : Int) < (n1 : Int)) = true := by simp; omega
        have hd2 : decide (0 < n1) = true := by simp; omega
        have HA : Hid (stB p 2 = stB p 1 ++ putB (12 + (sl : Int)) 2) := by
          have : a1 p = 12 + sl := by unfold a1; rw [if_neg (HN1.out ▸ hz), HSL.out]; rfl
          unfold Hid
          show stB p 1 ++ putB (a1 p : Int) 2 = _
          rw [this]; rfl
        have HI : Hid (stI p 2 = stI p 1 ++ dataW p.s1 p.t1 (12 + sl)) := by
          have : d1 p = dataW p.s1 p.t1 (12 + sl) := by unfold d1; rw [if_neg (HN1.out ▸ hz), HSL.out]; rfl
          unfold Hid
          rw [← this]; rfl
        have HDK : Hid (∀ w', Below w.heap.size w w' → Calls Tryz.prog 31 #[.slice sad1 m1 scap1, .slice tad1 n1 tcap1, .int .i64 (12 + (sl : Int))] w' fun e w'' => ∃ v', e = .returned v' ∧ w''.ownsRow w'.heap.size 5 1 v' (dataW p.s1 p.t1 (12 + sl)).length ((dataW p.s1 p.t1 (12 + sl)).map (Value.int .u8)) ∧ Below w'.heap.size w' w'') := by
          intro w' hb
          have h := HD1.out w' hb
          have e2 : 12 + (stI p 1).length = 12 + sl := by rw [HSL.out]
          simp only [stI] at e2
          first | rw [e2] at h | (have e3 : sl = 0 := by omega
                                  rw [e3])
          simpa using h
        have hdl : (dataW p.s1 p.t1 (12 + sl)).length ≤ 600 := by
          have h := d1_len p HSM.out
          have : d1 p = dataW p.s1 p.t1 (12 + sl) := by unfold d1; rw [if_neg (HN1.out ▸ hz), HSL.out]; rfl
          rwa [this] at h
        generalize dataW p.s1 p.t1 (12 + sl) = D at *
        obtain ⟨ads, cps, hvs⟩ := row_slice HT.out.r
        rw [← HSL.out] at hvs
        rw [hvs]
        clear hz htw hb
        go_wp2_with (fail)
        have HT5 := Bas.hid (two_set HT.out y4 (by decide) (i := 1) (.int .i64 (12 + (sl : Int))))
        have HB5 := Bas.hid (HB.out.setCell (p := ⟨T4, 1, none⟩) (Nat.le_of_lt hT4) (.int .i64 (12 + (sl : Int))))
        have z4 : (wr.setCell ⟨T4, 1, none⟩ (.int .i64 (12 + (sl : Int)))).heap[T4]? = some (.cells #[.int .i64 x0, .int .i64 (12 + (sl : Int))] 133 (0, 0)) := heap_set (i := 1) y4 (.int .i64 (12 + (sl : Int)))
        have z1 := (Below.heap_setCell wr ⟨T4, 1, none⟩ (.int .i64 (12 + (sl : Int))) w.heap.size (by show w.heap.size ≠ T4; omega)).trans y1
        generalize wr.setCell ⟨T4, 1, none⟩ (.int .i64 (12 + (sl : Int))) = W5 at *
        clear y1 y4 c0 c1 q0 q1 q2 q3 f4 e1 e4 HT HB
        refine' Pl.region_v0 48 [0] [1, 2, 3, 4, 5, 6, 7, 8, 9, 10, 11] [12, 13, 14] _ (by kernel_rfl) (by kernel_rfl) (by simp) (fun _ _ _ _ e h => ⟨e ▸ h.1, h.2⟩) ?_ ?_
        rotate_left
        · intro I F hI hF
          simp only [Pl.selN, List.cons_append, List.nil_append, List.drop_succ_cons, List.drop_zero]
          have x0 := fun i => hF.cell (heap_lt z1) (cell_of_heap (i := 1) (v := .slice sad1 m1 scap1) z1 rfl) i
          have x1 := fun i => hF.cell (heap_lt z1) (cell_of_heap (i := 3) (v := .slice tad1 n1 tcap1) z1 rfl) i
          have x2 := fun i => hF.cell (heap_lt z4) (cell_of_heap (i := 1) (v := .int .i64 (12 + (sl : Int))) z4 rfl) i
          repeat (go_big_quiet_step (fail))
          refine wpQuiet_nil ?_
          rfl
        intro u hu
        simp only [Pl.selN, List.drop_succ_cons, List.drop_zero]
        have HTU := Bas.hid (HT5.out.below hu)
        have HBU := Bas.hid (HB5.out.trans (hu.mono HB5.out.size))
        have u1 := (hu.block _ (heap_lt z1)).trans z1
        have u4 := (hu.block _ (heap_lt z4)).trans z4
        clear hu HT5 HB5 z1 z4
        go_wp2_with (fail)
        refine (HDK.out _ HBU.out).mono ?_
        rintro e W6 ⟨vd, rfl, hod, hb6⟩
        have HT6 := Bas.hid (HTU.out.below hb6)
        have HB6 := Bas.hid (HBU.out.trans (hb6.mono HBU.out.size))
        have w1 := (hb6.block _ (heap_lt u1)).trans u1
        have w4 := (hb6.block _ (heap_lt u4)).trans u4
        have HOD := Bas.hid hod
        obtain ⟨dad, dcp, rfl⟩ := row_slice hod
        obtain ⟨dl, hdl2⟩ : ∃ dl, dl = D.length := ⟨_, rfl⟩
        have HDL := Bas.hid hdl2
        have f1 : (Value.slice ads sl cps).ownBlock ≠ some w.heap.size := by rw [← hvs]; exact own_ty HT6.out.r w1 (by decide)
        have f4 : (Value.slice ads sl cps).ownBlock ≠ some T4 := by rw [← hvs]; exact own_ty HT6.out.r w4 (by decide)
        have HVS := Bas.hid hvs
        rw [← hdl2] at hdl ⊢
        clear hb6 u1 u4 HTU HBU HDK hod hdl2 hvs
        go_wp2_with (at_builtin; refine Row.fence ?_)
        refine Row.unfence ?_
        refine Row.append_at rfl _ _ 47 5 rfl (.int .u8 0) 1 1 Tryz.underlying47 info8 rfl (by decide) w.heap.size (.slice ads sl cps) sl _ rfl (by have h := HT6.out.r; rw [HVS.out, ← HSL.out] at h; exact h) (.slice dad dl dcp) dl _ rfl (by rw [HDL.out]; exact Row.leads_owned HOD.out) (by simp [HDL.out]) (by simp; intros; rfl) (by unfold maxLen; omega) (by omega) HB6.out.size ?_
        intro v9 w9 h91 h92 _ h93
        have g9 : Grown W6 w.heap.size (.slice ads sl cps) (stI p 1 ++ D) v9 w9 :=
          ⟨by simpa only [List.map_append, List.length_append, HDL.out, HSL.out] using h91, h92, h93.imp id fun h => ⟨_, h, Nat.le_refl _⟩⟩
        have HT9 : Hid (TwoRows w9 w.heap.size vb (stB p 1) v9 (stI p 2)) := by
          unfold Hid
          rw [HI.out]
          have h := HT6.out
          rw [HVS.out] at h
          exact h.growR g9
        have HB9 := Bas.hid (HB6.out.grown h92 HB6.out.size (fun g hg => (Row.own_block HT6.out.r (by rw [HVS.out]; exact hg)).1))
        have m1' := (h92.block _ (heap_lt w1) (fun e => f1 e.symm)).trans w1
        have m4' := (h92.block _ (heap_lt w4) (fun e => f4 e.symm)).trans w4
        have e1 : vb.ownBlock ≠ some w.heap.size := own_ty HT9.out.l m1' (by decide)
        have e4 : vb.ownBlock ≠ some T4 := own_ty HT9.out.l m4' (by decide)
        obtain ⟨ad9, cp9, rfl⟩ := row_slice HT9.out.r
        have cx := cell_of_heap (i := 1) (v := .int .i64 (12 + (sl : Int))) m4' rfl
        clear h91 h92 h93 g9 HT6 HB6 w1 w4 HOD f1 f4
        go_wp2_with (fail)
        refine (put_any _ 2 w.heap.size _ _ w9 (by omega) (by omega) (by omega) (by omega) HB9.out.size HT9.out.l).mono ?_
        rintro e wF ⟨vF, rfl, gF⟩
        have HTF := Bas.hid (HT9.out.growL gF)
        have HBF := Bas.hid (gF.below HB9.out HB9.out.size (fun g hg => (Row.own_block HT9.out.l hg).1))
        have z1 := (gF.grow.block _ (heap_lt m1') (fun e => e1 e.symm)).trans m1'
        have z4 := (gF.grow.block _ (heap_lt m4') (fun e => e4 e.symm)).trans m4'
        clear gF HT9 HB9 m1' m4' cx e1 e4
        go_wp2_with (fail)
        go_roundw
        case rel => exact ⟨2, _, _, _, _, by omega, by go_num, rfl, rfl, by rw [HA.out]; exact HTF.out, HBF.out, z1, z4, ⟨fun h => by omega, fun h => by omega⟩⟩
        case measure => simp [intOf]
    · have h := htw
      obtain ⟨ads, cps, hvs⟩ := row_slice HT.out.r
      rw [← HSL.out] at hvs
      rw [hvs]
      have HVS := Bas.hid hvs
      clear htw hb h hvs y1 y4 c0 c1 q0 q1 q2 q3 f4 e1 e4 hx
      go_wp2_with (at_builtin; refine Row.fence ?_)
      refine Row.unfence ?_
      have k6 := Bas.heap_new wr (.cells #[.int .u8 0, .int .u8 0] 5)
      have hb6 := (Below.refl wr.heap.size wr).alloc (Nat.le_refl _) (.cells #[.int .u8 0, .int .u8 0] 5)
      have HT6 := Bas.hid (HT.out.below hb6)
      have HB6 := Bas.hid (HB.out.trans (hb6.mono HB.out.size))
      generalize wr.alloc (.cells #[.int .u8 0, .int .u8 0] 5) = W6 at *
      generalize wr.heap.size = T6 at *
      clear hb6 HT HB
      refine Row.append_at rfl _ _ 47 5 rfl (.int .u8 0) 1 1 Tryz.underlying47 info8 rfl (by decide) w.heap.size vb _ _ rfl HT6.out.l (.slice (some ⟨T6, 0, none⟩) 2 2) 2 [.int .u8 0, .int .u8 0] rfl (leads_heap k6) rfl (by simp; rfl) (by unfold maxLen; omega) (by omega) HB6.out.size ?_
      intro v7 w7 h71 h72 _ h73
      have g7 : Grown W6 w.heap.size vb (stB p 2 ++ [0, 0]) v7 w7 := ⟨by simpa using h71, h72, h73.imp id fun h => ⟨_, h, Nat.le_refl _⟩⟩
      have HT7 := Bas.hid (HT6.out.growL g7)
      have HB7 := Bas.hid (g7.below HB6.out HB6.out.size (fun g hg => (Row.own_block HT6.out.l hg).1))
      obtain ⟨ad7, cp7, rfl⟩ := row_slice HT7.out.l
      clear h71 h72 h73 g7 HT6 HB6 k6
      go_wp2_with (at_builtin; refine Row.fence ?_)
      refine Row.unfence ?_
      refine Row.append_at rfl _ _ 47 5 rfl (.int .u8 0) 1 1 Tryz.underlying47 info8 rfl (by decide) w.heap.size _ _ _ rfl HT7.out.l (.slice ads sl cps) sl _ rfl (by have h := Row.leads_owned HT7.out.r; rw [HVS.out, ← HSL.out] at h; exact h) (by simp [HSL.out]) (by simp; intros; rfl) (by unfold maxLen; simp only [List.length_append, List.length_cons, List.length_nil]; omega) (by simp only [List.length_append, List.length_cons, List.length_nil]; omega) HB7.out.size ?_
      intro v9 w9 h91 h92 _ h93
      have h91' : w9.ownsRow w.heap.size 5 1 v9 (writeT p).length ((writeT p).map (Value.int .u8)) := by
        unfold writeT
        simpa only [List.map_append, List.length_append, HSL.out, Nat.add_assoc, List.append_assoc] using h91
      have HB9 := Bas.hid (HB7.out.grown h92 HB7.out.size (fun g hg => (Row.own_block HT7.out.l hg).1))
      have HO9 := Bas.hid h91'
      obtain ⟨ad9, cp9, rfl⟩ := row_slice h91'
      clear h91 h92 h93 h91' HT7
      go_wp2_with (fail)
      go_ret
      exact ⟨_, rfl, HO9.out, HB9.out⟩
end Tk
namespace Sh
open Vw Wr Ch
abbrev planO (ad : Option Addr) (n cp : Nat) (more : Int) : Obj := .cells #[.slice ad n cp, .int .u8 more, .bool false, .bool false, .bool false, .bool false, .bool false, .slice none 0 0, .slice none 0 0, .slice none 0 0, .slice none 0 0, .slice none 0 0, .slice none 0 0, .slice none 0 0, .slice none 0 0] 44
def SlB (w : World) (e : Ending) (w' : World) : Prop := ∃ a n c, e = .returned (.slice a n c) ∧ Below w.heap.size w w'
theorem slB {w w' : World} {e : Ending} {v : Value} {n : Nat} {xs : List Value} (h1 : e = .returned v) (h2 : w'.ownsRow w.heap.size 5 1 v n xs) (h3 : Below w.heap.size w w') : SlB w e w' := by
 obtain ⟨a, c, rfl⟩ := own_slice h2;exact ⟨a, n, c, h1, h3⟩
theorem w26_sl (w : World) : Calls Tryz.prog 16 #[.slice none 0 0] w (SlB w) := (w26_nil w).mono fun _ _ ⟨_, _, h1, h2, h3⟩ => slB h1 h2 h3
theorem w24_sl (w : World) : Calls Tryz.prog 17 #[.slice none 0 0] w (SlB w) := (w24_nil w).mono fun _ _ ⟨_, _, h1, h2, h3⟩ => slB h1 h2 h3
theorem w08_nil (w : World) : Calls Tryz.prog 14 #[.slice none 0 0] w (SlB w) :=
 (Ft.fwrite_any (.slice none 0 0) [] w (by simp) (fun _ h => by cases h) ⟨[], rfl, .inl ⟨rfl, rfl, rfl⟩, fun _ _ _ h => by simp at h⟩).mono fun _ _ ⟨v, h1, h2, h3⟩ => slB h1 h2 h3
theorem w19_nil (w : World) : Calls Tryz.prog 15 #[.slice none 0 0] w (SlB w) :=
 (write_any (.slice none 0 0) [] w (by simp) (fun _ h => by cases h) ⟨[], rfl, .inl ⟨rfl, rfl, rfl⟩, fun _ _ _ h => by simp at h⟩).mono fun _ _ ⟨v, h1, h2, h3⟩ => slB h1 h2 h3
theorem w27_nil (w : World) : Calls Tryz.prog 18 #[.agg #[.slice none 0 0, .slice none 0 0, .slice none 0 0, .slice none 0 0]] w (SlB w) := by
 have hs : Tk.rgSizes [] := fun _ h => by cases h
 have hp : Row.Leads w (.slice none 0 0) 0 [] := .inl ⟨rfl, rfl, rfl⟩;refine (Tk.twrite_any _ _ _ _ ⟨[], [], [], []⟩ w ⟨⟨by simp, by simp⟩, by simp, by simp⟩ ⟨⟨hs, fun _ h => by cases h⟩, hs, fun _ h => by cases h⟩ ⟨hp, hp, ⟨[], rfl, hp, fun _ _ _ h => by simp at h⟩, ⟨[], rfl, hp, fun _ _ _ h => by simp at h⟩⟩).mono fun _ _ ⟨v, h1, h2, h3⟩ => slB h1 h2 h3
theorem part_ix (s0 s1 s2 s3 s4 : ByteArray) (a0 a1 a2 a3 a4 : Option Addr) (n0 n1 n2 n3 n4 c0 c1 c2 c3 c4 : Nat) (w : World) (j : Nat) (hj : j < 5) : ∃ x ya yn yc, (Instr.index 106 (.agg #[.string s0, .slice a0 n0 c0, .string s1, .slice a1 n1 c1, .string s2, .slice a2 n2 c2, .string s3, .slice a3 n3 c3, .string s4, .slice a4 n4 c4]) (.int .i64 (j : Int))).run Tryz.prog w = .ok (.agg #[.string x, .slice ya yn yc]) w := by
 have h := run_underlying (P := Tryz.prog) Tryz.underlying106;rcases (by omega : j = 0 ∨ j = 1 ∨ j = 2 ∨ j = 3 ∨ j = 4) with rfl | rfl | rfl | rfl | rfl
 ·exact ⟨s0, a0, n0, c0, by simp [Instr.index, h, part, asIntOf, go_sem]⟩
 ·exact ⟨s1, a1, n1, c1, by simp [Instr.index, h, part, asIntOf, go_sem]⟩
 ·exact ⟨s2, a2, n2, c2, by simp [Instr.index, h, part, asIntOf, go_sem]⟩
 ·exact ⟨s3, a3, n3, c3, by simp [Instr.index, h, part, asIntOf, go_sem]⟩
 ·exact ⟨s4, a4, n4, c4, by simp [Instr.index, h, part, asIntOf, go_sem]⟩
set_option maxRecDepth 100000 in
set_option maxHeartbeats 16000000 in
theorem write_bare (ad : Option Addr) (n cp : Nat) (more : Int) (A : List Int) (w : World) (hin : Row.Leads w (.slice ad n cp) n (A.flatMap Fo.u16C)) (hA : ∀ x ∈ A, 0 ≤ x ∧ x ≤ 65535) (hAn : A.length = n) (hn : n ≤ 200) (h1 : 1 ≤ n) (hmore : 0 ≤ more ∧ more ≤ 255) (K : Ending → World → Prop)
  (hK : ∀ g' cap bs w', bs.length ≤ cap → cap ≤ maxLen → VB w' (some ⟨g', 0, none⟩) bs → Fo.IsFont bs (Fo.widthP ((n + (more % 40).toNat : Nat) : Int) (n : Nat) (Fo.hmtxL A (more % 40).toNat)) → Below w.heap.size w w' → K (.returned (.slice (some ⟨g', 0, none⟩) bs.length cap)) w') :
  Calls Tryz.prog 10 #[.agg #[.slice ad n cp, .int .u8 more, .bool false, .bool false, .bool false, .bool false, .bool false, .slice none 0 0, .slice none 0 0, .slice none 0 0, .slice none 0 0, .slice none 0 0, .slice none 0 0, .slice none 0 0, .slice none 0 0]] w K := by
 have hb1 := (Below.refl w.heap.size w).alloc (Nat.le_refl _) (planO ad n cp more);have HB1 := Bas.hid hb1;have HK1 := Bas.hid (Bas.heap_new w (planO ad n cp more));have HIN := Bas.hid (fun u (hb : Below w.heap.size w u) => Row.leads_below hin hb)
 have HA := Bas.hid hA;have HAN := Bas.hid hAn;have HKK := Bas.hid hK;have c0 := cell_of_heap (i := 0) (v := .slice ad n cp) HK1.out rfl;have lT := heap_lt HK1.out;have e0 : ((n : Int) == 0) = false := by simp; omega
 have e0' : decide ((n : Int) = 0) = false := by simp; omega
 clear hin hA hAn hK hb1;go_enter Tryz.func10, Tryz.ntmps10
 go_wp2_with (fail);generalize w.alloc (planO ad n cp more) = w1 at *;obtain ⟨T, hT⟩ : ∃ T, w.heap.size = T := ⟨_, rfl⟩;have HT := Bas.hid hT;rw [hT] at HK1 c0 lT ⊢;clear hT;go_wp2_with (fail);obtain ⟨RI, RF, Ri, RF0, RFk, RFw⟩ := Pl.fam_of w1 (fun u => u.heap[T]? = some (planO ad n cp more)) HK1.out
 have RFH := Bas.hid RF0;have RhI : Nonempty RI := ⟨Ri⟩;have RFW := Bas.hid RFw;have t7 := fun i => cell_of_heap (i := 7) (v := .slice none 0 0) (RFk i) rfl
 have t8 := fun i => cell_of_heap (i := 8) (v := .slice none 0 0) (RFk i) rfl
 have t9 := fun i => cell_of_heap (i := 9) (v := .slice none 0 0) (RFk i) rfl
 have t10 := fun i => cell_of_heap (i := 10) (v := .slice none 0 0) (RFk i) rfl
 have t11 := fun i => cell_of_heap (i := 11) (v := .slice none 0 0) (RFk i) rfl
 have t12 := fun i => cell_of_heap (i := 12) (v := .slice none 0 0) (RFk i) rfl
 have t13 := fun i => cell_of_heap (i := 13) (v := .slice none 0 0) (RFk i) rfl
 have t14 := fun i => cell_of_heap (i := 14) (v := .slice none 0 0) (RFk i) rfl
 clear RF0 RFw RFk;refine Pl.region_plan0 Ri [(true, 0), (true, 1), (true, 4), (true, 5), (true, 8), (true, 9), (true, 12), (true, 13), (true, 16), (true, 17), (true, 21), (false, 2), (true, 3), (false, 6), (true, 7), (false, 10), (true, 11), (false, 14), (true, 15), (false, 18), (true, 19), (true, 20)] [] (by kernel_rfl) (by kernel_rfl) (fun _ _ _ _ e h => ⟨e ▸ h.1, h.2⟩) RFH.out ?_
 refine Pl.head_sel0 [(true, 0), (true, 1), (true, 4), (true, 5), (true, 8), (true, 9), (true, 12), (true, 13), (true, 16), (true, 17), (true, 21)] (by kernel_rfl) (by kernel_rfl) ?_
 simp only [Pl.sel, List.drop_succ_cons, List.drop_zero];repeat (go_big_quiet_step (fail))
 refine wpQuiet_nil ?_;rw [← RFH.out];clear t7 t8 t9 t10 t11 t12 t13 t14;have HB0 := Bas.hid (HB1.out.drew);have HK0 : Hid (w1.drew.heap[T]? = some (planO ad n cp more)) := HK1.out;clear HB1 HK1;generalize w1.drew = u0 at *;refine Pl.one_sel (by kernel_rfl) ?_
 intro Q' hQ' hP';simp only [Pl.sel, List.drop_succ_cons, List.drop_zero];go_wp2_with (fail);refine (w08_nil u0).mono ?_;rintro e u1 ⟨qa0, qn0, qc0, rfl, hb⟩;have HB1 := Bas.hid (HB0.out.trans (hb.mono HB0.out.size));have HK1 := Bas.hid ((hb.block _ (heap_lt HK0.out)).trans HK0.out);clear hb HB0 HK0;go_wp2_with (fail);refine hQ' _ _ (fun _ _ => RFW.out _ HK1.out) ?_
 clear hQ' hP' Q';refine Pl.head_sel0 [(true, 3)] (by kernel_rfl) (by kernel_rfl) ?_
 simp only [Pl.sel, List.drop_succ_cons, List.drop_zero];repeat (go_big_quiet_step (fail))
 refine wpQuiet_nil ?_;refine Pl.one_sel (by kernel_rfl) ?_
 intro Q' hQ' hP';simp only [Pl.sel, List.drop_succ_cons, List.drop_zero];go_wp2_with (fail);refine (w19_nil u1).mono ?_;rintro e u2 ⟨qa1, qn1, qc1, rfl, hb⟩;have HB2 := Bas.hid (HB1.out.trans (hb.mono HB1.out.size));have HK2 := Bas.hid ((hb.block _ (heap_lt HK1.out)).trans HK1.out);clear hb HB1 HK1;go_wp2_with (fail);refine hQ' _ _ (fun _ _ => RFW.out _ HK2.out) ?_
 clear hQ' hP' Q';refine Pl.head_sel0 [(true, 7)] (by kernel_rfl) (by kernel_rfl) ?_
 simp only [Pl.sel, List.drop_succ_cons, List.drop_zero];repeat (go_big_quiet_step (fail))
 refine wpQuiet_nil ?_;refine Pl.one_sel (by kernel_rfl) ?_
 intro Q' hQ' hP';simp only [Pl.sel, List.drop_succ_cons, List.drop_zero];go_wp2_with (fail);refine (w26_sl u2).mono ?_;rintro e u3 ⟨qa2, qn2, qc2, rfl, hb⟩;have HB3 := Bas.hid (HB2.out.trans (hb.mono HB2.out.size));have HK3 := Bas.hid ((hb.block _ (heap_lt HK2.out)).trans HK2.out);clear hb HB2 HK2;go_wp2_with (fail);refine hQ' _ _ (fun _ _ => RFW.out _ HK3.out) ?_
 clear hQ' hP' Q';refine Pl.head_sel0 [(true, 11)] (by kernel_rfl) (by kernel_rfl) ?_
 simp only [Pl.sel, List.drop_succ_cons, List.drop_zero];repeat (go_big_quiet_step (fail))
 refine wpQuiet_nil ?_;refine Pl.one_sel (by kernel_rfl) ?_
 intro Q' hQ' hP';simp only [Pl.sel, List.drop_succ_cons, List.drop_zero];go_wp2_with (fail);refine (w24_sl u3).mono ?_;rintro e u4 ⟨qa3, qn3, qc3, rfl, hb⟩;have HB4 := Bas.hid (HB3.out.trans (hb.mono HB3.out.size));have HK4 := Bas.hid ((hb.block _ (heap_lt HK3.out)).trans HK3.out);clear hb HB3 HK3;go_wp2_with (fail);refine hQ' _ _ (fun _ _ => RFW.out _ HK4.out) ?_
 clear hQ' hP' Q';refine Pl.head_sel0 [(true, 15)] (by kernel_rfl) (by kernel_rfl) ?_
 simp only [Pl.sel, List.drop_succ_cons, List.drop_zero];repeat (go_big_quiet_step (fail))
 refine wpQuiet_nil ?_;refine Pl.one_sel (by kernel_rfl) ?_
 intro Q' hQ' hP';simp only [Pl.sel, List.drop_succ_cons, List.drop_zero];go_wp2_with (fail);refine (w27_nil u4).mono ?_;rintro e u5 ⟨qa4, qn4, qc4, rfl, hb⟩;have HB5 := Bas.hid (HB4.out.trans (hb.mono HB4.out.size));have HK5 := Bas.hid ((hb.block _ (heap_lt HK4.out)).trans HK4.out);clear hb HB4 HK4;go_wp2_with (fail);refine hQ' _ _ (fun _ _ => RFW.out _ HK5.out) ?_
 clear hQ' hP' Q';refine Pl.head_sel0 (rest := []) [(true, 19), (true, 20)] (by kernel_rfl) (by kernel_rfl) ?_
 simp only [Pl.sel, List.drop_succ_cons, List.drop_zero];repeat (go_big_quiet_step (fail))
 refine wpQuiet_nil ?_;simp only [Pl.walkM];clear RFW RFH RhI Ri;have HPX := Bas.hid (fun (u : World) (j : Nat) (hj : j < 5) => part_ix ⟨#[102, 101, 97, 116]⟩ ⟨#[109, 111, 114, 120]⟩ ⟨#[107, 101, 114, 120]⟩ ⟨#[97, 110, 107, 114]⟩ ⟨#[116, 114, 97, 107]⟩ qa0 qa1 qa2 qa3 qa4 qn0 qn1 qn2 qn3 qn4 qc0 qc1 qc2 qc3 qc4 u j hj)
 go_wp2_with (fail);obtain ⟨P5, hP5⟩ : ∃ P5 : Value, P5 = .agg #[.string ⟨#[102, 101, 97, 116]⟩, .slice qa0 qn0 qc0, .string ⟨#[109, 111, 114, 120]⟩, .slice qa1 qn1 qc1, .string ⟨#[107, 101, 114, 120]⟩, .slice qa2 qn2 qc2, .string ⟨#[97, 110, 107, 114]⟩, .slice qa3 qn3 qc3, .string ⟨#[116, 114, 97, 107]⟩, .slice qa4 qn4 qc4] := ⟨_, rfl⟩;rw [← hP5] at HPX ⊢;clear hP5;go_loopw [4, 34] (fun vc vi wr => ∃ i : Nat, i ≤ 5 ∧ vi = .int .i64 i ∧ vc = .slice none 0 0 ∧ Below w.heap.size w wr ∧ wr.heap[T]? = some (planO ad n cp more)) (fun _ vi _ => 5 - (intOf vi).toNat)
 case atStart => exact ⟨0, by omega, rfl, rfl, HB5.out, HK5.out⟩
 case round =>
  obtain ⟨i, hi, rfl, rfl, hb, hk⟩ := hrel;have HBR := Bas.hid hb;have HKR := Bas.hid hk;clear hb hk;by_cases hin : i < 5
  ·have e1 : decide ((i : Int) < 5) = true := by simp; omega
   have e2 : decide (i < 5) = true := by simp; omega
   obtain ⟨x, ya, yn, yc, hix⟩ := HPX.out wr i hin;have hb6 := (Below.refl wr.heap.size wr).alloc (Nat.le_refl _) (.cells #[.string x, .slice ya yn yc] 101);have HB6 := Bas.hid (HBR.out.trans (hb6.mono HBR.out.size));have HK6 := Bas.hid ((hb6.block _ (heap_lt HKR.out)).trans HKR.out);have cF : (wr.alloc (.cells #[.string x, .slice ya yn yc] 101)).cell? ⟨T, 2 + i, none⟩ = some (.bool false) := by
    rcases (by omega : i = 0 ∨ i = 1 ∨ i = 2 ∨ i = 3 ∨ i = 4) with rfl | rfl | rfl | rfl | rfl
    ·exact cell_of_heap (i := 2) HK6.out rfl
    ·exact cell_of_heap (i := 3) HK6.out rfl
    ·exact cell_of_heap (i := 4) HK6.out rfl
    ·exact cell_of_heap (i := 5) HK6.out rfl
    ·exact cell_of_heap (i := 6) HK6.out rfl
   have lT6 := heap_lt HK6.out;clear hb6;go_wp2_with (fail);go_roundw
   case rel => exact ⟨i + 1, by omega, by go_num, rfl, HB6.out, HK6.out⟩
   case measure => simp [intOf]; omega
  ·obtain rfl : i = 5 := by omega
   have e1 : decide (((5 : Nat) : Int) < 5) = false := by decide
   have c1 := cell_of_heap (i := 1) (v := .int .u8 more) HKR.out rfl;have lT6 := heap_lt HKR.out;go_wp2_with (fail);obtain ⟨mm, hmm⟩ : ∃ mm : Nat, more % 40 = (mm : Int) := Int.eq_ofNat_of_zero_le (Int.emod_nonneg _ (by omega))
   have hmm2 : mm ≤ 255 := by omega
   have hft := Fo.font_any (.slice ad n cp) A mm wr (by rw [HAN.out]; exact HIN.out wr HBR.out) HA.out (by rw [HAN.out]; exact hn) hmm2
   rw [HAN.out] at hft;rw [hmm] at HKK ⊢;have HFT := Bas.hid hft;clear hft hmm;refine HFT.out.mono ?_;rintro e w9 ⟨g', cap, bs, rfl, q1, q2, q3, q4, q5, q6⟩;have HBE := Bas.hid (HBR.out.trans (q6.mono HBR.out.size));have HFIN := Bas.hid (HKK.out g' cap bs w9 q1 q2 q3 q4 HBE.out);clear q1 q2 q3 q4 q5 q6 HKK;go_wp2_with (fail);exact HFIN.out
end Sh
end Go.Proofs.YtceihjjjmcgmaaaGreat
