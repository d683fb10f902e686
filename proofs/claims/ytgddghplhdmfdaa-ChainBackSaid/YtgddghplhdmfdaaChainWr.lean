/- The law's own Write (layer 19). -/
import Derived.Test.YtgddghplhdmfdaaChainWrD
namespace Go.Proofs.Ytgddghplhdmfdaa
open Go.RowKit
namespace Ch
open Vw Wr

set_option maxRecDepth 100000 in
set_option maxHeartbeats 16000000 in
theorem write_any (v : Value) (l : List WChain) (w : World) (hl : l.length ≤ 10) (hok : ∀ c ∈ l, okChain c) (hin : WChains w v l) :
    Calls Try.prog 16 #[v] w fun e w' => ∃ v', e = .returned v' ∧ w'.ownsRow w.heap.size 5 1 v' (writeB l).length ((writeB l).map (Value.int .u8)) ∧ Below w.heap.size w w' := by
  obtain ⟨rs, hrl, hlead, hel⟩ := hin
  obtain ⟨ad, cap, rfl⟩ := Row.leads_slice hlead
  obtain ⟨n, hn⟩ : ∃ n, n = l.length := ⟨_, rfl⟩
  rw [← hn]
  have hn10 : n ≤ 10 := by omega
  have HN := Bas.hid hn
  have HEL := Bas.hid hel
  have HLD := Bas.hid hlead
  have HOK := Bas.hid hok
  have HRL := Bas.hid hrl
  clear hrl hlead hel hok hn
  have hemp : w.ownsRow w.heap.size 5 1 (.slice none 0 0) ([] : List Int).length (([] : List Int).map (Value.int .u8)) := Row.owned_nil _ _ _ _
  have HE := Bas.hid hemp
  clear hemp
  go_enter Try.func16, Try.ntmps16
  go_wp2_with (fail)
  refine (put_any 2 2 w.heap.size _ [] w (by omega) (by omega) (by omega) (by simp) (Nat.le_refl _) HE.out).mono ?_
  rintro e w1 ⟨v1, rfl, hg1⟩
  go_wp2_with (fail)
  refine (put_any 0 2 w.heap.size _ _ w1 (by omega) (by omega) (by omega) (by simp [putB_len]) hg1.grow.size hg1.own).mono ?_
  rintro e w2 ⟨v2, rfl, hg2⟩
  have hg12 := hg1.trans hg2
  go_wp2_with (fail)
  refine (put_any (n : Int) 4 w.heap.size _ _ w2 (by omega) (by omega) (by omega) (by simp [putB_len]) hg12.grow.size hg12.own).mono ?_
  rintro e w3 ⟨v3, rfl, hg3⟩
  have hg123 := hg12.trans hg3
  have HB3 := Bas.hid (hg123.below (Below.refl w.heap.size w) (Nat.le_refl _) (fun g h => by cases h))
  have HO3 := Bas.hid hg123.own
  have hh : ([] ++ putB 2 2 ++ putB 0 2 ++ putB (n : Int) 4) = headB n := by simp [headB]
  rw [hh] at HO3
  clear hg1 hg2 hg12 hg3 hg123 hh
  go_wp2_with (fail)
  go_loopw [3, 5, 6, 8, 10, 18] (fun xb _ _ _ _ vi wr => ∃ (k : Nat) (vb : Value), k ≤ n ∧ vi = .int .i64 k ∧ vb = xb ∧ wr.ownsRow w.heap.size 5 1 vb (headB n ++ (l.take k).flatMap chainB).length ((headB n ++ (l.take k).flatMap chainB).map (Value.int .u8)) ∧ Below w.heap.size w wr) (fun _ _ _ _ _ vi _ => n - (intOf vi).toNat)
  case atStart => exact ⟨0, _, Nat.zero_le _, rfl, rfl, by simpa using HO3.out, HB3.out⟩
  case round =>
    obtain ⟨k, vb, hk, rfl, hvb, hown, hb⟩ := hrel
    rw [← hvb]
    clear hvb
    have HO := Bas.hid hown
    have HB := Bas.hid hb
    by_cases hkn : k < n
    · have hlen := HN.out
      obtain ⟨c, hc⟩ : ∃ c, l[k]? = some c := ⟨_, List.getElem?_eq_getElem (by omega)⟩
      obtain ⟨r, hr⟩ : ∃ r, rs[k]? = some r := ⟨_, List.getElem?_eq_getElem (by rw [HRL.out]; omega)⟩
      obtain ⟨hru, hsu⟩ := HEL.out k c r hc hr
      have hokc := HOK.out c (List.mem_of_getElem? hc)
      have hz : (l.zip rs)[k]? = some (c, r) := List.getElem?_zip_eq_some.2 ⟨hc, hr⟩
      obtain ⟨B0, O0, cp0, hv0, hcl⟩ := Row.leads_elem wChainC_len HLD.out hz (by omega)
      obtain ⟨vr, vs⟩ := r
      obtain ⟨ds, hdl, hsl, hsd⟩ := hsu
      obtain ⟨ar, cr, rfl⟩ := Row.leads_slice hru
      obtain ⟨as', cs', rfl⟩ := Row.leads_slice hsl
      cases hv0
      have q0 := (hb.cell (p := ⟨B0, O0 + k * 4, none⟩) (World.block_lt_of_cell? _ _ (hcl 0 _ rfl))).trans (hcl 0 _ rfl)
      have q1 := (hb.cell (p := ⟨B0, O0 + k * 4 + 1, none⟩) (World.block_lt_of_cell? _ _ (hcl 1 _ rfl))).trans (hcl 1 _ rfl)
      have q2 := (hb.cell (p := ⟨B0, O0 + k * 4 + 2, none⟩) (World.block_lt_of_cell? _ _ (hcl 2 _ rfl))).trans (hcl 2 _ rfl)
      have q3 := (hb.cell (p := ⟨B0, O0 + k * 4 + 3, none⟩) (World.block_lt_of_cell? _ _ (hcl 3 _ rfl))).trans (hcl 3 _ rfl)
      have HRU := Bas.hid hru
      have HCK := Bas.hid hc
      have HSL := Bas.hid hsl
      have HSD := Bas.hid hsd
      have HDL := Bas.hid hdl
      have HOKC := Bas.hid hokc
      obtain ⟨nr, hnr⟩ : ∃ nr, nr = c.rules.length := ⟨_, rfl⟩
      obtain ⟨ns, hns⟩ : ∃ ns, ns = c.subs.length := ⟨_, rfl⟩
      simp only [← hnr, ← hns] at q0 q1 q2 q3 HRU HSL
      have hnr40 : nr ≤ 40 := by rw [hnr]; exact hokc.2.2.2.2.1
      have hns10 : ns ≤ 10 := by rw [hns]; exact hokc.2.2.2.2.2
      have HNR := Bas.hid hnr
      have HNS := Bas.hid hns
      clear hcl hru hsl hsd hdl hokc hb hown hr hnr hns HO3 HB3 HE hlen
      go_wp2_with (fail)
      have k5 := Bas.heap_new wr (.cells #[.int .u32 c.first, .slice ar nr cr, .slice as' ns cs', .int .u8 c.more] 42)
      have hbc := (Below.refl wr.heap.size wr).alloc (Nat.le_refl _) (.cells #[.int .u32 c.first, .slice ar nr cr, .slice as' ns cs', .int .u8 c.more] 42)
      have HOc := Bas.hid (Row.owned_below HO.out hbc)
      have HBc := Bas.hid (HB.out.trans (hbc.mono HB.out.size))
      have hlb : ∀ g, vb.ownBlock = some g → g < wr.heap.size := fun g hg => (Row.own_block HO.out hg).2
      generalize wr.alloc (.cells #[.int .u32 c.first, .slice ar nr cr, .slice as' ns cs', .int .u8 c.more] 42) = Wc at *
      generalize wr.heap.size = T5 at k5 hlb ⊢
      have hT5 : T5 < Wc.heap.size := heap_lt k5
      have hsc := HBc.out.size
      clear q0 q1 q2 q3 hbc HO HB
      go_loopw [6, 8, 25] (fun xin _ vi wr => ∃ (i : Nat) (vin : Value), i ≤ nr ∧ vi = .int .i64 i ∧ vin = xin ∧ wr.ownsRow Wc.heap.size 5 1 vin ((c.rules.take i).flatMap ruleB).length (((c.rules.take i).flatMap ruleB).map (Value.int .u8)) ∧ Below Wc.heap.size Wc wr) (fun _ _ vi _ => nr - (intOf vi).toNat)
      case atStart => exact ⟨0, _, Nat.zero_le _, rfl, rfl, by simpa using Row.owned_nil _ _ _ _, Below.refl _ _⟩
      case round =>
        obtain ⟨i, vin, hi, rfl, hvin, hown, hb⟩ := hrel
        rw [← hvin]
        clear hvin
        by_cases hin : i < nr
        · have hlen := HNR.out
          obtain ⟨r, hr⟩ : ∃ r, c.rules[i]? = some r := ⟨_, List.getElem?_eq_getElem (by omega)⟩
          obtain ⟨B1, O1, cp1, hv1, hcl⟩ := Row.leads_elem wRuleC_len HRU.out hr (by omega)
          cases hv1
          have HBw := HBc.out.trans (hb.mono hsc)
          have q0 := (HBw.cell (p := ⟨B1, O1 + i * 4, none⟩) (World.block_lt_of_cell? _ _ (hcl 0 _ rfl))).trans (hcl 0 _ rfl)
          have q1 := (HBw.cell (p := ⟨B1, O1 + i * 4 + 1, none⟩) (World.block_lt_of_cell? _ _ (hcl 1 _ rfl))).trans (hcl 1 _ rfl)
          have q2 := (HBw.cell (p := ⟨B1, O1 + i * 4 + 2, none⟩) (World.block_lt_of_cell? _ _ (hcl 2 _ rfl))).trans (hcl 2 _ rfl)
          have q3 := (HBw.cell (p := ⟨B1, O1 + i * 4 + 3, none⟩) (World.block_lt_of_cell? _ _ (hcl 3 _ rfl))).trans (hcl 3 _ rfl)
          obtain ⟨⟨o1, o2⟩, ⟨o3, o4⟩, ⟨o5, o6⟩, ⟨o7, o8⟩⟩ := HOKC.out.2.2.1 r (List.mem_of_getElem? hr)
          have hylen : ((c.rules.take i).flatMap ruleB).length ≤ 12 * i := Row.take_len_le ruleB 12 c.rules i (fun r _ => by rw [ruleB_len]; exact Nat.le_refl _) (by omega)
          have HNEW : Hid ((c.rules.take (i + 1)).flatMap ruleB = (c.rules.take i).flatMap ruleB ++ (putB r.type 2 ++ putB r.value 2 ++ putB r.enable 4 ++ putB r.disable 4)) := Row.take_flat ruleB c.rules i r hr
          obtain ⟨r1, r2, r3, r4⟩ := r
          simp only at q0 q1 q2 q3 o1 o2 o3 o4 o5 o6 o7 o8 HNEW
          generalize (c.rules.take i).flatMap ruleB = ys at *
          clear hcl HBw hr hlen
          go_wp2_with (fail)
          have k8 := Bas.heap_new wr (.cells #[.int .u16 r1, .int .u16 r2, .int .u32 r3, .int .u32 r4] 48)
          have hbW := (Below.refl wr.heap.size wr).alloc (Nat.le_refl _) (.cells #[.int .u16 r1, .int .u16 r2, .int .u32 r3, .int .u32 r4] 48)
          have hO8 := Row.owned_below hown hbW
          have HB8 := Bas.hid (hb.trans (hbW.mono hb.size))
          have hnl : vin.ownBlock ≠ some wr.heap.size := fun e => Nat.lt_irrefl _ (Row.own_block hown e).2
          generalize wr.alloc (.cells #[.int .u16 r1, .int .u16 r2, .int .u32 r3, .int .u32 r4] 48) = W8 at *
          generalize wr.heap.size = T8 at k8 hnl ⊢
          have Abase : Wc.heap.size ≤ W8.drew.heap.size := HB8.out.size
          clear q0 q1 q2 q3 hown hb hbW
          have Ad := Row.owned_keep hO8 (w' := W8.drew) (fun _ _ => rfl)
          obtain ⟨AI, AF, Ai, AF0, AFg, AFw, AFb⟩ := Pl.fam_g W8 (vin).ownBlock
          have Ac0 := fun i => (Bas.gcell (AFb i) (b := T8) (o := 0) (heap_lt k8) hnl).trans (cell_of_heap (i := 0) (v := .int .u16 r1) k8 rfl)
          have Ac1 := fun i => (Bas.gcell (AFb i) (b := T8) (o := 1) (heap_lt k8) hnl).trans (cell_of_heap (i := 1) (v := .int .u16 r2) k8 rfl)
          have AFH := Bas.hid AF0
          have AhI : Nonempty AI := ⟨Ai⟩
          have AFW := Bas.hid AFw
          clear AF0 AFw AFg AFb
          refine Pl.region_plan0 Ai [(true, 0), (true, 1), (true, 2), (true, 3), (true, 5), (true, 6), (true, 7), (false, 4), (false, 8), (false, 9)] [8, 9] (by kernel_rfl) (by kernel_rfl) (fun _ _ _ _ e h => ⟨e ▸ h.1, h.2⟩) AFH.out ?_
          refine Pl.head_sel0 [(true, 0), (true, 1), (true, 2), (true, 3), (true, 5), (true, 6), (true, 7)] (by kernel_rfl) (by kernel_rfl) ?_
          simp only [Pl.sel, List.drop_succ_cons, List.drop_zero]
          repeat (go_big_quiet_step (fail))
          refine wpQuiet_nil ?_
          rw [← AFH.out]
          clear Ac0 Ac1 AFH
          refine Pl.one_sel (by kernel_rfl) ?_
          intro Q' hQ' hP'
          simp only [Pl.sel, List.drop_succ_cons, List.drop_zero]
          go_wp2_with (fail)
          refine (put_any r1 2 Wc.heap.size _ _ W8.drew (by omega) (by omega) (by omega) (by first | omega | (simp only [List.length_append, putB_len]; omega)) Abase Ad).mono ?_
          rintro e Aw1 ⟨Av1, rfl, Ag1⟩
          have Agg := Bas.gtrans (Bas.gdrew (Bas.grefl W8 _)) Ag1.grow
          go_wp2_with (fail)
          refine hQ' _ _ (fun _ _ => AFW.out _ Agg) ?_
          clear hQ' hP' Q' Agg AFW
          refine Pl.tail_sel [(false, 8), (false, 9)] (by kernel_rfl) (by kernel_rfl) ?_
          simp only [Pl.sel, List.drop_succ_cons, List.drop_zero]
          go_wp2_with (fail)
          refine (put_any r2 2 Wc.heap.size _ _ Aw1 (by omega) (by omega) (by omega) (by first | omega | (simp only [List.length_append, putB_len]; omega)) (Nat.le_trans Abase Ag1.grow.size) Ag1.own).mono ?_
          rintro e Aw ⟨Av, rfl, Ag2⟩
          have Ag := Ag1.trans Ag2
          clear Ag1 Ag2
          have Bne : Av.ownBlock ≠ some T8 := by
            intro e
            rcases Ag.at' with h | ⟨g, h, h2⟩
            · exact hnl (h ▸ e)
            · rw [h] at e; cases e
              exact absurd (heap_lt k8) (Nat.not_lt.2 h2)
          have Bk : Aw.heap[T8]? = _ := (Ag.grow.block T8 (heap_lt k8) (fun e => hnl e.symm)).trans k8
          have HBA := Bas.hid (Ag.below (HB8.out.drew) (by exact HB8.out.size) (fun g hg => (Row.own_block hO8 hg).1))
          have BO := Ag.own
          have HAG := Bas.hid Ag
          have Bbase : Wc.heap.size ≤ Aw.drew.heap.size := HBA.out.size
          clear Ag k8 hnl hO8 HB8 Abase Ad
          go_wp2_with (fail)
          have Bd := Row.owned_keep BO (w' := Aw.drew) (fun _ _ => rfl)
          obtain ⟨BI, BF, Bi, BF0, BFg, BFw, BFb⟩ := Pl.fam_g Aw (Av).ownBlock
          have Bc0 := fun i => (Bas.gcell (BFb i) (b := T8) (o := 2) (heap_lt Bk) Bne).trans (cell_of_heap (i := 2) (v := .int .u32 r3) Bk rfl)
          have Bc1 := fun i => (Bas.gcell (BFb i) (b := T8) (o := 3) (heap_lt Bk) Bne).trans (cell_of_heap (i := 3) (v := .int .u32 r4) Bk rfl)
          have BFH := Bas.hid BF0
          have BhI : Nonempty BI := ⟨Bi⟩
          have BFW := Bas.hid BFw
          clear BF0 BFw BFg BFb
          refine Pl.region_plan0 Bi [(true, 0), (true, 1), (true, 2), (true, 3), (true, 5), (true, 6), (true, 7), (false, 4), (false, 8), (false, 9)] [8, 9] (by kernel_rfl) (by kernel_rfl) (fun _ _ _ _ e h => ⟨e ▸ h.1, h.2⟩) BFH.out ?_
          refine Pl.head_sel0 [(true, 0), (true, 1), (true, 2), (true, 3), (true, 5), (true, 6), (true, 7)] (by kernel_rfl) (by kernel_rfl) ?_
          simp only [Pl.sel, List.drop_succ_cons, List.drop_zero]
          repeat (go_big_quiet_step (fail))
          refine wpQuiet_nil ?_
          rw [← BFH.out]
          clear Bc0 Bc1 BFH
          refine Pl.one_sel (by kernel_rfl) ?_
          intro Q' hQ' hP'
          simp only [Pl.sel, List.drop_succ_cons, List.drop_zero]
          go_wp2_with (fail)
          refine (put_any r3 4 Wc.heap.size _ _ Aw.drew (by omega) (by omega) (by omega) (by first | omega | (simp only [List.length_append, putB_len]; omega)) Bbase Bd).mono ?_
          rintro e Bw1 ⟨Bv1, rfl, Bg1⟩
          have Bgg := Bas.gtrans (Bas.gdrew (Bas.grefl Aw _)) Bg1.grow
          go_wp2_with (fail)
          refine hQ' _ _ (fun _ _ => BFW.out _ Bgg) ?_
          clear hQ' hP' Q' Bgg BFW
          refine Pl.tail_sel [(false, 8), (false, 9)] (by kernel_rfl) (by kernel_rfl) ?_
          simp only [Pl.sel, List.drop_succ_cons, List.drop_zero]
          go_wp2_with (fail)
          refine (put_any r4 4 Wc.heap.size _ _ Bw1 (by omega) (by omega) (by omega) (by first | omega | (simp only [List.length_append, putB_len]; omega)) (Nat.le_trans Bbase Bg1.grow.size) Bg1.own).mono ?_
          rintro e Bw ⟨Bv, rfl, Bg2⟩
          have Bg := Bg1.trans Bg2
          clear Bg1 Bg2
          have HBB := Bas.hid (Bg.below (HBA.out.drew) (by exact HBA.out.size) (fun g hg => (Row.own_block BO hg).1))
          have HBO := Bas.hid Bg.own
          clear Bg BO Bk Bne Bd
          go_wp2_with (fail)
          go_roundw
          case rel => exact ⟨i + 1, _, by omega, by go_num, rfl, by rw [HNEW.out]; simpa only [List.append_assoc] using HBO.out, HBB.out⟩
          case measure => simp [intOf]; omega
        · have hkn2 : i = nr := by omega
          subst hkn2
          have hfl : (c.rules.take i).flatMap ruleB = c.rules.flatMap ruleB := by rw [HNR.out, List.take_length]
          rw [hfl] at hown
          have hrl : (c.rules.flatMap ruleB).length ≤ 480 := by
            have := Row.flat_len_le ruleB 12 c.rules (fun r _ => by rw [ruleB_len]; exact Nat.le_refl _)
            have h2 := HNR.out
            omega
          have HOI := Bas.hid hown
          have HBI := Bas.hid hb
          clear hown hb hfl
          have kk5 := (HBI.out.block _ hT5).trans k5
          have c52 := cell_of_heap (i := 2) (v := .slice as' ns cs') kk5 rfl
          go_wp2_with (fail)
          obtain ⟨wo, hwo⟩ : ∃ wo : World, wo = wr := ⟨_, rfl⟩
          rw [← hwo] at HBI HOI
          rw [← hwo]
          clear hwo kk5 c52
          go_loopw [6, 10, 51] (fun xin _ vi wr => ∃ (j : Nat) (vj : Value), j ≤ ns ∧ vi = .int .i64 j ∧ vj = xin ∧ wr.ownsRow Wc.heap.size 5 1 vj (c.rules.flatMap ruleB ++ (c.subs.take j).flatMap subB).length ((c.rules.flatMap ruleB ++ (c.subs.take j).flatMap subB).map (Value.int .u8)) ∧ Below Wc.heap.size Wc wr) (fun _ _ vi _ => ns - (intOf vi).toNat)
          case atStart => exact ⟨0, _, Nat.zero_le _, rfl, rfl, by simpa using HOI.out, HBI.out⟩
          case round =>
            obtain ⟨j, vj, hj, rfl, hvj, hown, hb⟩ := hrel
            rw [← hvj]
            clear hvj
            by_cases hjn : j < ns
            · have hlen := HNS.out
              obtain ⟨s, hs⟩ : ∃ s, c.subs[j]? = some s := ⟨_, List.getElem?_eq_getElem (by omega)⟩
              obtain ⟨d, hd⟩ : ∃ d, ds[j]? = some d := ⟨_, List.getElem?_eq_getElem (by rw [HDL.out]; omega)⟩
              have hz : (c.subs.zip ds)[j]? = some (s, d) := List.getElem?_zip_eq_some.2 ⟨hs, hd⟩
              obtain ⟨B1, O1, cp1, hv1, hcl⟩ := Row.leads_elem wSubC_len HSL.out hz (by omega)
              cases hv1
              obtain ⟨da, dcap, rfl, hdv, hdc, hdm, hdn⟩ := HSD.out j s d hs hd
              have hB0 : w.heap.size ≤ Wc.heap.size := hsc
              have HBw := HBc.out.trans (hb.mono hsc)
              have q0 := (HBw.cell (p := ⟨B1, O1 + j * 3, none⟩) (World.block_lt_of_cell? _ _ (hcl 0 _ rfl))).trans (hcl 0 _ rfl)
              have q1 := (HBw.cell (p := ⟨B1, O1 + j * 3 + 1, none⟩) (World.block_lt_of_cell? _ _ (hcl 1 _ rfl))).trans (hcl 1 _ rfl)
              have q2 := (HBw.cell (p := ⟨B1, O1 + j * 3 + 2, none⟩) (World.block_lt_of_cell? _ _ (hcl 2 _ rfl))).trans (hcl 2 _ rfl)
              obtain ⟨⟨o1, o2⟩, ⟨o3, o4⟩, -, o5⟩ := HOKC.out.2.2.2.1 s (List.mem_of_getElem? hs)
              have hylen : (c.rules.flatMap ruleB ++ (c.subs.take j).flatMap subB).length ≤ 480 + 312 * j := by
                have := Row.take_len_le subB 312 c.subs j (fun s hs => by rw [subB_len]; have := (HOKC.out.2.2.2.1 s hs).2.2.2; omega) (by omega)
                rw [List.length_append]; omega
              have HNEW : Hid (c.rules.flatMap ruleB ++ (c.subs.take (j + 1)).flatMap subB = (c.rules.flatMap ruleB ++ (c.subs.take j).flatMap subB) ++ (putB (12 + (s.data.length : Int)) 4 ++ putB s.cover 4 ++ putB s.flags 4 ++ s.data)) := by
                unfold Hid; rw [Row.take_flat subB c.subs j s hs, ← List.append_assoc]; rfl
              have hblk : s.data.map (Value.int .u8) ≠ [] → ∀ x, da = some x → x.block < w.heap.size := fun hne x hx => by
                have h0 : 0 < s.data.length := by
                  rcases Nat.eq_zero_or_pos s.data.length with h | h
                  · exact absurd (List.map_eq_nil_iff.2 (List.length_eq_zero_iff.1 h)) hne
                  · exact h
                obtain ⟨b, o, h1, h2⟩ := hdv.cell 0 h0
                rw [hx] at h1; cases h1
                exact World.block_lt_of_cell? _ _ h2
              have HBLK := Bas.hid hblk
              have HDV := Bas.hid (hdv.below HBw)
              obtain ⟨s1, s2, D⟩ := s
              simp only at q0 q1 q2 o1 o2 o3 o4 o5 HNEW HBLK HDV hdc
              obtain ⟨m, hm⟩ : ∃ m, m = D.length := ⟨_, rfl⟩
              have HM := Bas.hid hm
              simp only [← hm] at q2 o5 HNEW hdc
              generalize c.rules.flatMap ruleB ++ (c.subs.take j).flatMap subB = ys at *
              clear hcl HBw hs hd hz hlen hdv hblk hm
              go_wp2_with (fail)
              have k8 := Bas.heap_new wr (.cells #[.int .u32 s1, .int .u32 s2, .slice da m dcap] 52)
              have hbW := (Below.refl wr.heap.size wr).alloc (Nat.le_refl _) (.cells #[.int .u32 s1, .int .u32 s2, .slice da m dcap] 52)
              have hO8 := Row.owned_below hown hbW
              have HB8 := Bas.hid (hb.trans (hbW.mono hb.size))
              have HDV8 := Bas.hid (HDV.out.below hbW)
              have hnl : vj.ownBlock ≠ some wr.heap.size := fun e => Nat.lt_irrefl _ (Row.own_block hown e).2
              generalize wr.alloc (.cells #[.int .u32 s1, .int .u32 s2, .slice da m dcap] 52) = W8 at *
              generalize wr.heap.size = T8 at k8 hnl ⊢
              have Abase : Wc.heap.size ≤ W8.drew.heap.size := HB8.out.size
              clear q0 q1 q2 hown hb hbW HDV
              have Ad := Row.owned_keep hO8 (w' := W8.drew) (fun _ _ => rfl)
              obtain ⟨AI, AF, Ai, AF0, AFg, AFw, AFb⟩ := Pl.fam_g W8 (vj).ownBlock
              have Ac0 := fun i => (Bas.gcell (AFb i) (b := T8) (o := 2) (heap_lt k8) hnl).trans (cell_of_heap (i := 2) (v := .slice da m dcap) k8 rfl)
              have Ac1 := fun i => (Bas.gcell (AFb i) (b := T8) (o := 0) (heap_lt k8) hnl).trans (cell_of_heap (i := 0) (v := .int .u32 s1) k8 rfl)
              have AFH := Bas.hid AF0
              have AhI : Nonempty AI := ⟨Ai⟩
              have AFW := Bas.hid AFw
              clear AF0 AFw AFg AFb
              refine Pl.region_plan0 Ai [(true, 0), (true, 1), (true, 2), (true, 3), (true, 4), (true, 6), (true, 7), (true, 8), (false, 5), (false, 9), (false, 10)] [9, 10] (by kernel_rfl) (by kernel_rfl) (fun _ _ _ _ e h => ⟨e ▸ h.1, h.2⟩) AFH.out ?_
              refine Pl.head_sel0 [(true, 0), (true, 1), (true, 2), (true, 3), (true, 4), (true, 6), (true, 7), (true, 8)] (by kernel_rfl) (by kernel_rfl) ?_
              simp only [Pl.sel, List.drop_succ_cons, List.drop_zero]
              repeat (go_big_quiet_step (fail))
              refine wpQuiet_nil ?_
              rw [← AFH.out]
              clear Ac0 Ac1 AFH
              refine Pl.one_sel (by kernel_rfl) ?_
              intro Q' hQ' hP'
              simp only [Pl.sel, List.drop_succ_cons, List.drop_zero]
              go_wp2_with (fail)
              refine (put_any (12 + (m : Int)) 4 Wc.heap.size _ _ W8.drew (by omega) (by omega) (by omega) (by first | omega | (simp only [List.length_append, putB_len]; omega)) Abase Ad).mono ?_
              rintro e Aw1 ⟨Av1, rfl, Ag1⟩
              have Agg := Bas.gtrans (Bas.gdrew (Bas.grefl W8 _)) Ag1.grow
              go_wp2_with (fail)
              refine hQ' _ _ (fun _ _ => AFW.out _ Agg) ?_
              clear hQ' hP' Q' Agg AFW
              refine Pl.tail_sel [(false, 9), (false, 10)] (by kernel_rfl) (by kernel_rfl) ?_
              simp only [Pl.sel, List.drop_succ_cons, List.drop_zero]
              go_wp2_with (fail)
              refine (put_any s1 4 Wc.heap.size _ _ Aw1 (by omega) (by omega) (by omega) (by first | omega | (simp only [List.length_append, putB_len]; omega)) (Nat.le_trans Abase Ag1.grow.size) Ag1.own).mono ?_
              rintro e Aw ⟨Av, rfl, Ag2⟩
              have Ag := Ag1.trans Ag2
              clear Ag1 Ag2
              have Bne : Av.ownBlock ≠ some T8 := by
                intro e
                rcases Ag.at' with h | ⟨g, h, h2⟩
                · exact hnl (h ▸ e)
                · rw [h] at e; cases e
                  exact absurd (heap_lt k8) (Nat.not_lt.2 h2)
              have Bk : Aw.heap[T8]? = _ := (Ag.grow.block T8 (heap_lt k8) (fun e => hnl e.symm)).trans k8
              have HBA := Bas.hid (Ag.below (HB8.out.drew) (by exact HB8.out.size) (fun g hg => (Row.own_block hO8 hg).1))
              have BO := Ag.own
              have Bbase : Wc.heap.size ≤ Aw.drew.heap.size := HBA.out.size
              have Bld : Row.Leads Aw (.slice da m dcap) m (D.map (Value.int .u8)) := by
                have h := vb_leads (Vw.VB_apart HDV8.out (Bas.gtrans (Bas.gdrew (Bas.grefl W8 _)) Ag.grow) (fun g hg x hx hne => by
                  have h1 := HBLK.out (fun e => hne (List.map_eq_nil_iff.1 e)) x hx
                  have h2 := (Row.own_block hO8 hg).1
                  omega)) dcap hdn
                rw [← HM.out] at h
                exact h
              have Blen : Hid (m = D.length) := HM
              have Bsrc : ∀ g, Av.ownBlock = some g → ∀ ad len cap, Value.slice da m dcap = .slice (some ad) len cap → D.map (Value.int .u8) ≠ [] → ad.block ≠ g := fun g hg ad len cap he hne => by
                cases he
                have h1 := HBLK.out hne _ rfl
                have h2 := (Row.own_block BO hg).1
                omega
              clear Ag k8 hnl hO8 HB8 Abase Ad HDV8
              go_wp2_with (fail)
              have Bd := Row.owned_keep BO (w' := Aw.drew) (fun _ _ => rfl)
              obtain ⟨BI, BF, Bi, BF0, BFg, BFw, BFb⟩ := Pl.fam_g Aw (Av).ownBlock
              have Bc0 := fun i => (Bas.gcell (BFb i) (b := T8) (o := 1) (heap_lt Bk) Bne).trans (cell_of_heap (i := 1) (v := .int .u32 s2) Bk rfl)
              have Bc1 := fun i => (Bas.gcell (BFb i) (b := T8) (o := 2) (heap_lt Bk) Bne).trans (cell_of_heap (i := 2) (v := .slice da m dcap) Bk rfl)
              have BFH := Bas.hid BF0
              have BhI : Nonempty BI := ⟨Bi⟩
              have BFW := Bas.hid BFw
              clear BF0 BFw BFg BFb
              refine Pl.region_plan0 Bi [(true, 0), (true, 1), (true, 2), (true, 3), (true, 5), (true, 6), (false, 4), (false, 7), (false, 8)] [7, 8] (by kernel_rfl) (by kernel_rfl) (fun _ _ _ _ e h => ⟨e ▸ h.1, h.2⟩) BFH.out ?_
              refine Pl.head_sel0 [(true, 0), (true, 1), (true, 2), (true, 3), (true, 5), (true, 6)] (by kernel_rfl) (by kernel_rfl) ?_
              simp only [Pl.sel, List.drop_succ_cons, List.drop_zero]
              repeat (go_big_quiet_step (fail))
              refine wpQuiet_nil ?_
              rw [← BFH.out]
              clear Bc0 Bc1 BFH
              refine Pl.one_sel (by kernel_rfl) ?_
              intro Q' hQ' hP'
              simp only [Pl.sel, List.drop_succ_cons, List.drop_zero]
              go_wp2_with (fail)
              refine (put_any s2 4 Wc.heap.size _ _ Aw.drew (by omega) (by omega) (by omega) (by first | omega | (simp only [List.length_append, putB_len]; omega)) Bbase Bd).mono ?_
              rintro e Bw1 ⟨Bv1, rfl, Bg1⟩
              have Bgg := Bas.gtrans (Bas.gdrew (Bas.grefl Aw _)) Bg1.grow
              have Bld := Row.leads_apart Bld Bgg Bsrc
              go_wp2_with (fail)
              refine hQ' _ _ (fun _ _ => BFW.out _ Bgg) ?_
              clear hQ' hP' Q' Bgg BFW
              refine Pl.tail_sel [(false, 7), (false, 8)] (by kernel_rfl) (by kernel_rfl) ?_
              simp only [Pl.sel, List.drop_succ_cons, List.drop_zero]
              refine Row.append_at rfl _ _ 26 5 rfl (.int .u8 0) 1 1 Try.underlying26 info8 rfl (by decide) Wc.heap.size Bv1 _ _ rfl Bg1.own (.slice da m dcap) m _ rfl Bld (by simp [← Blen.out]) (by simp; intros; rfl) (by unfold maxLen; simp only [List.length_append, putB_len]; omega) (by simp only [List.length_append, putB_len]; omega) (Nat.le_trans Bbase Bg1.grow.size) ?_
              intro Bv Bw Bh1 Bh2 _ Bh3
              have Bg : Grown Aw.drew Wc.heap.size _ ((ys ++ putB (12 + (m : Int)) 4 ++ putB s1 4) ++ putB s2 4 ++ D) Bv Bw := Bg1.trans ⟨by simpa only [List.map_append, List.length_append, ← Blen.out, Nat.add_assoc] using Bh1, Bh2, Bh3.imp id fun h => ⟨_, h, Nat.le_refl _⟩⟩
              clear Bg1 Bh1 Bh2 Bh3 Bld Blen
              have HBB := Bas.hid (Bg.below (HBA.out.drew) (by exact HBA.out.size) (fun g hg => (Row.own_block BO hg).1))
              have HBO := Bas.hid Bg.own
              clear Bg BO Bk Bne Bd Bsrc
              go_wp2_with (fail)
              go_roundw
              case rel => exact ⟨j + 1, _, by omega, by go_num, rfl, by rw [HNEW.out]; simpa only [List.append_assoc] using HBO.out, HBB.out⟩
              case measure => simp [intOf]; omega
            · have hkn3 : j = ns := by omega
              subst hkn3
              have hfl : (c.subs.take j).flatMap subB = c.subs.flatMap subB := by rw [HNS.out, List.take_length]
              rw [hfl] at hown
              have hil := inB_len_le c HOKC.out
              have HINB : Hid (inB c = c.rules.flatMap ruleB ++ c.subs.flatMap subB ++ List.replicate (c.more % 8).toNat 0) := rfl
              have hrsl : (c.rules.flatMap ruleB ++ c.subs.flatMap subB).length ≤ 3607 := by
                rw [HINB.out, List.length_append] at hil; omega
              have hm8 : c.more % 8 = ((c.more % 8).toNat : Int) := by have := HOKC.out.2.1; omega
              have hz8 : (c.more % 8).toNat ≤ 7 := by omega
              obtain ⟨⟨of1, of2⟩, ⟨om1, om2⟩, -⟩ := HOKC.out
              have HOJ := Bas.hid hown
              have HBJ := Bas.hid hb
              have kk5 := (HBJ.out.block _ hT5).trans k5
              have c50 := cell_of_heap (i := 0) (v := .int .u32 c.first) kk5 rfl
              have c53 := cell_of_heap (i := 3) (v := .int .u8 c.more) kk5 rfl
              have HM8 := Bas.hid hm8
              have HCH : Hid (chainB c = putB c.first 4 ++ putB (16 + ((inB c).length : Int)) 4 ++ putB (c.rules.length : Int) 4 ++ putB (c.subs.length : Int) 4 ++ inB c) := rfl
              have HPRE : Hid ((headB n ++ (l.take k).flatMap chainB).length ≤ 8 + 3623 * k) := by
                unfold Hid
                have := Row.take_len_le chainB 3623 l k (fun x hx => chainB_len_le x (HOK.out x hx)) (by have := HN.out; omega)
                rw [List.length_append, headB_len]; omega
              clear hown hb hfl hm8 hil
              go_wp2_with (at_builtin; refine Row.fence ?_)
              refine Row.unfence ?_
              rw [HM8.out]
              refine Row.append_zeros rfl _ _ 26 5 5 rfl (.int .u8 0) 1 .u8 .u8 Try.underlying26 Try.underlying5 info8 rfl rfl Wc.heap.size vj _ _ rfl HOJ.out (c.more % 8).toNat rfl (by unfold maxLen; omega) (by omega) HBJ.out.size ?_
              intro v18 w18 hown18 hg18 _ hat18
              have hown18' : w18.ownsRow Wc.heap.size 5 1 v18 (inB c).length ((inB c).map (Value.int .u8)) := by
                rw [HINB.out]
                simpa only [List.map_append, List.length_append, List.length_replicate, List.map_replicate, List.append_assoc, Nat.add_assoc] using hown18
              have HB18 := Bas.hid (HBJ.out.grown hg18 HBJ.out.size (fun g hg => (Row.own_block HOJ.out hg).1))
              have kk5 := (HB18.out.block _ hT5).trans k5
              have c50 := cell_of_heap (i := 0) (v := .int .u32 c.first) kk5 rfl
              have HO18 := Bas.hid hown18'
              have hil2 := inB_len_le c (HOK.out c (List.mem_of_getElem? HCK.out))
              obtain ⟨IL, hIL⟩ : ∃ IL, IL = (inB c).length := ⟨_, rfl⟩
              have HIL := Bas.hid hIL
              rw [← hIL] at hil2
              obtain ⟨ad18, cp18, rfl⟩ := own_slice hown18'
              rw [← hIL]
              have hbO := Row.owned_keep HOc.out (w' := w18) (fun g hg => HB18.out.block g (Nat.lt_trans (hlb g hg) hT5))
              have HBW18 := Bas.hid (HBc.out.trans (HB18.out.mono hsc))
              have Abase : w.heap.size ≤ w18.heap.size := HBW18.out.size
              have hpre := HPRE.out
              clear hown18 hown18' hg18 hat18 c53 hIL
              go_wp2_with (fail)
              refine (put_any c.first 4 w.heap.size _ _ w18 (by omega) (by omega) (by omega) (by omega) Abase hbO).mono ?_
              rintro e wP ⟨vP, rfl, gP⟩
              go_wp2_with (fail)
              refine (put_any (16 + (IL : Int)) 4 w.heap.size _ _ wP (by omega) (by omega) (by omega) (by simp only [List.length_append, putB_len]; simp only [List.length_append] at hpre; omega) (Nat.le_trans Abase gP.grow.size) gP.own).mono ?_
              rintro e wQ ⟨vQ, rfl, gQ⟩
              have gPQ := gP.trans gQ
              have hvin : ∀ g, vb.ownBlock = some g → g < Wc.heap.size := fun g hg => Nat.lt_trans (hlb g hg) hT5
              have kQ : wQ.heap[T5]? = _ := (gPQ.grow.block T5 (Nat.lt_of_lt_of_le hT5 HB18.out.size) (fun e => Nat.lt_irrefl _ (hlb _ e.symm))).trans kk5
              have inQ := Row.owned_keep HO18.out (w' := wQ) (fun g hg => gPQ.grow.block g (Row.own_block HO18.out hg).2 (fun e => Nat.lt_irrefl _ (Nat.lt_of_lt_of_le (hvin _ e.symm) (Row.own_block HO18.out hg).1)))
              have neQ5 : vQ.ownBlock ≠ some T5 := by
                intro e
                rcases gPQ.at' with h | ⟨g, h, h2⟩
                · exact Nat.lt_irrefl _ (hlb _ (h ▸ e))
                · rw [h] at e; cases e
                  exact absurd (Nat.lt_of_lt_of_le hT5 HB18.out.size) (Nat.not_lt.2 h2)
              have neQi : ∀ g, Value.ownBlock (.slice ad18 (inB c).length cp18) = some g → vQ.ownBlock ≠ some g := by
                intro g hg e
                rcases gPQ.at' with h | ⟨g', h, h2⟩
                · exact Nat.lt_irrefl _ (Nat.lt_of_lt_of_le (hvin _ (h ▸ e)) (Row.own_block HO18.out hg).1)
                · rw [h] at e; cases e
                  exact absurd (Row.own_block HO18.out hg).2 (Nat.not_lt.2 h2)
              have HBQ := Bas.hid (gPQ.below HBW18.out Abase (fun g hg => (Row.own_block hbO hg).1))
              have Bbase : w.heap.size ≤ wQ.drew.heap.size := HBQ.out.size
              have BO := gPQ.own
              have HINQ := Bas.hid inQ
              have HNEI := Bas.hid neQi
              rw [← HIL.out] at HINQ HNEI
              clear gP gQ gPQ kk5 c50 hbO inQ neQi HB18 HO18 HBW18 Abase HOc
              go_wp2_with (fail)
              have Bd := Row.owned_keep BO (w' := wQ.drew) (fun _ _ => rfl)
              obtain ⟨BI, BF, Bi, BF0, BFg, BFw, BFb⟩ := Pl.fam_g wQ vQ.ownBlock
              have Bc0 := fun q => (Bas.gcell (BFb q) (b := T5) (o := 1) (heap_lt kQ) neQ5).trans (cell_of_heap (i := 1) (v := .slice ar i cr) kQ rfl)
              have Bc1 := fun q => (Bas.gcell (BFb q) (b := T5) (o := 2) (heap_lt kQ) neQ5).trans (cell_of_heap (i := 2) (v := .slice as' j cs') kQ rfl)
              have BFH := Bas.hid BF0
              have BhI : Nonempty BI := ⟨Bi⟩
              have BFW := Bas.hid BFw
              clear BF0 BFw BFg BFb
              refine Pl.region_plan0 Bi [(true, 0), (true, 1), (true, 2), (true, 3), (true, 5), (true, 6), (true, 7), (true, 9), (false, 4), (false, 8), (false, 10), (false, 11)] [8, 10, 11] (by kernel_rfl) (by kernel_rfl) (fun _ _ _ _ e h => ⟨e ▸ h.1, h.2⟩) BFH.out ?_
              refine Pl.head_sel0 [(true, 0), (true, 1), (true, 2), (true, 3), (true, 5), (true, 6), (true, 7), (true, 9)] (by kernel_rfl) (by kernel_rfl) ?_
              simp only [Pl.sel, List.drop_succ_cons, List.drop_zero]
              repeat (go_big_quiet_step (fail))
              refine wpQuiet_nil ?_
              rw [← BFH.out]
              clear Bc0 Bc1 BFH
              refine Pl.one_sel (by kernel_rfl) ?_
              intro Q' hQ' hP'
              simp only [Pl.sel, List.drop_succ_cons, List.drop_zero]
              go_wp2_with (fail)
              refine (put_any (i : Int) 4 w.heap.size _ _ wQ.drew (by omega) (by omega) (by omega) (by simp only [List.length_append, putB_len]; simp only [List.length_append] at hpre; omega) Bbase Bd).mono ?_
              rintro e Bw1 ⟨Bv1, rfl, Bg1⟩
              have Bgg := Bas.gtrans (Bas.gdrew (Bas.grefl wQ _)) Bg1.grow
              go_wp2_with (fail)
              refine hQ' _ _ (fun _ _ => BFW.out _ Bgg) ?_
              clear hQ' hP' Q' Bgg BFW
              refine Pl.tail_sel [(false, 8), (false, 10), (false, 11)] (by kernel_rfl) (by kernel_rfl) ?_
              simp only [Pl.sel, List.drop_succ_cons, List.drop_zero]
              go_wp2_with (fail)
              refine (put_any (j : Int) 4 w.heap.size _ _ Bw1 (by omega) (by omega) (by omega) (by simp only [List.length_append, putB_len]; simp only [List.length_append] at hpre; omega) (Nat.le_trans Bbase Bg1.grow.size) Bg1.own).mono ?_
              rintro e Bw2 ⟨Bv2, rfl, Bg2⟩
              have Bg := Bg1.trans Bg2
              have inB2 := Row.owned_keep HINQ.out (w' := Bw2) (fun g hg => Bg.grow.block g (Row.own_block HINQ.out hg).2 (fun e => HNEI.out g hg e.symm))
              clear Bg1 Bg2
              go_wp2_with (at_builtin; refine Row.fence ?_)
              refine Row.unfence ?_
              refine Row.append_at rfl _ _ 26 5 rfl (.int .u8 0) 1 1 Try.underlying26 info8 rfl (by decide) w.heap.size Bv2 _ _ rfl Bg.own (.slice ad18 IL cp18) IL _ rfl (Row.leads_owned inB2) (by simp [← HIL.out]) (by simp; intros; rfl) (by unfold maxLen; simp only [List.length_append, putB_len]; simp only [List.length_append] at hpre; omega) (by simp only [List.length_append, putB_len]; simp only [List.length_append] at hpre; omega) (Nat.le_trans Bbase Bg.grow.size) ?_
              intro v9 w9 h91 h92 _ h93
              have g9 : Grown wQ.drew w.heap.size vQ (headB n ++ (l.take (k + 1)).flatMap chainB) v9 w9 := by
                have hx : headB n ++ (l.take (k + 1)).flatMap chainB = headB n ++ (l.take k).flatMap chainB ++ putB c.first 4 ++ putB (16 + (IL : Int)) 4 ++ putB (i : Int) 4 ++ putB (j : Int) 4 ++ inB c := by
                  rw [Row.take_flat chainB l k c HCK.out, HCH.out, ← HIL.out, ← HNR.out, ← HNS.out]
                  simp only [List.append_assoc]
                rw [hx]
                exact Bg.trans ⟨by simpa only [List.map_append, List.length_append, HIL.out, Nat.add_assoc] using h91, h92, h93.imp id fun h => ⟨_, h, Nat.le_refl _⟩⟩
              have HBF := Bas.hid (g9.below (HBQ.out.drew) (by exact HBQ.out.size) (fun g hg => (Row.own_block BO hg).1))
              have HOF := Bas.hid g9.own
              clear g9 Bg h91 h92 h93 inB2 BO kQ neQ5 Bd
              go_wp2_with (fail)
              go_roundw
              case rel => exact ⟨k + 1, _, by omega, by go_num, rfl, HOF.out, HBF.out⟩
              case measure => simp [intOf]; omega
    · have hkn2 : k = n := by omega
      have hfin : headB n ++ (l.take k).flatMap chainB = writeB l := by
        unfold writeB; rw [hkn2, HN.out, List.take_length]
      rw [hfin] at HO
      obtain ⟨ad9, cp9, rfl⟩ := own_slice HO.out
      clear hown hb hfin
      go_wp2_with (fail)
      go_ret
      exact ⟨_, rfl, HO.out, HB.out⟩
end Ch
end Go.Proofs.Ytgddghplhdmfdaa
