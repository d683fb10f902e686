/- The law's own Write (layer 8). -/
import Derived.Test.YtdmhenlfhbigbaaFeatWrD
namespace Go.Proofs.Ytdmhenlfhbigbaa
open Go.RowKit
namespace Ft
open Vw Wr Ch

set_option maxRecDepth 100000 in
set_option maxHeartbeats 16000000 in
theorem fwrite_any (v : Value) (l : List WPlan) (w : World) (hl : l.length ≤ 30) (hok : ∀ c ∈ l, okPlan c) (hin : WPlans w v l) :
    Calls Try.prog 10 #[v] w fun e w' => ∃ v', e = .returned v' ∧ w'.ownsRow w.heap.size 5 1 v' (featW l).length ((featW l).map (Value.int .u8)) ∧ Below w.heap.size w w' := by
  obtain ⟨rs, hrl, hlead, hel⟩ := hin
  obtain ⟨ad, cap, rfl⟩ := Row.leads_slice hlead
  obtain ⟨n, hn⟩ : ∃ n, n = l.length := ⟨_, rfl⟩
  rw [← hn]
  have hn30 : n ≤ 30 := by omega
  have HN := Bas.hid hn
  have HEL := Bas.hid hel
  have HLD := Bas.hid hlead
  have HOK := Bas.hid hok
  have HRL := Bas.hid hrl
  clear hrl hlead hel hok hn
  have hemp : w.ownsRow w.heap.size 5 1 (.slice none 0 0) ([] : List Int).length (([] : List Int).map (Value.int .u8)) := Row.owned_nil _ _ _ _
  have HE := Bas.hid hemp
  clear hemp
  go_enter Try.func10, Try.ntmps10
  go_wp2_with (fail)
  refine (put_any 65536 4 w.heap.size _ [] w (by omega) (by omega) (by omega) (by simp) (Nat.le_refl _) HE.out).mono ?_
  rintro e w1 ⟨v1, rfl, hg1⟩
  go_wp2_with (fail)
  refine (put_any (n : Int) 2 w.heap.size _ _ w1 (by omega) (by omega) (by omega) (by simp [putB_len]) hg1.grow.size hg1.own).mono ?_
  rintro e w2 ⟨v2, rfl, hg2⟩
  have hg12 := hg1.trans hg2
  have HG := Bas.hid hg12
  clear hg1 hg2 hg12
  go_wp2_with (at_builtin; refine Row.fence ?_)
  refine Row.unfence ?_
  have k6 := Bas.heap_new w2 (.cells #[.int .u8 0, .int .u8 0, .int .u8 0, .int .u8 0, .int .u8 0, .int .u8 0] 5)
  have hb6 := (Below.refl w2.heap.size w2).alloc (Nat.le_refl _) (.cells #[.int .u8 0, .int .u8 0, .int .u8 0, .int .u8 0, .int .u8 0, .int .u8 0] 5)
  have hO6 := Row.owned_below HG.out.own hb6
  have hg6 := Bas.galloc (Bas.grefl w2 v2.ownBlock) (.cells #[.int .u8 0, .int .u8 0, .int .u8 0, .int .u8 0, .int .u8 0, .int .u8 0] 5)
  have hsz6 : w2.heap.size ≤ (w2.alloc (.cells #[.int .u8 0, .int .u8 0, .int .u8 0, .int .u8 0, .int .u8 0, .int .u8 0] 5)).heap.size := by simp
  have hpl : ([] ++ putB 65536 4 ++ putB (n : Int) 2).length = 6 := by simp [putB_len]
  refine Row.append_at rfl _ _ 24 5 rfl (.int .u8 0) 1 1 Try.underlying24 info8 rfl (by decide) w.heap.size v2 _ _ rfl hO6 (.slice (some ⟨w2.heap.size, 0, none⟩) 6 6) 6 [.int .u8 0, .int .u8 0, .int .u8 0, .int .u8 0, .int .u8 0, .int .u8 0] rfl (leads_heap k6) rfl (by simp; rfl) (by unfold maxLen; rw [hpl]; omega) (by rw [hpl]; omega) (Nat.le_trans HG.out.grow.size hsz6) ?_
  intro v3 w3 hown3 hgr3 _ hat3
  have hg3 : Grown w w.heap.size (.slice none 0 0) (headW n) v3 w3 := by
    have := HG.out.trans (⟨by simpa [Nat.add_assoc] using hown3, Bas.gtrans hg6 hgr3, hat3.imp id fun h => ⟨_, h, hsz6⟩⟩ : Grown w2 w.heap.size v2 ([] ++ putB 65536 4 ++ putB (n : Int) 2 ++ [0, 0, 0, 0, 0, 0]) v3 w3)
    simpa [headW, List.append_assoc] using this
  have HB3 := Bas.hid (hg3.below (Below.refl w.heap.size w) (Nat.le_refl _) (fun g h => by cases h))
  have HT3 : Hid (TwoRows w3 w.heap.size v3 (headW n ++ rowsW n 0 (l.take 0)) (.slice none 0 0) (setsW (l.take 0))) :=
    ⟨by simpa [rowsW] using hg3.own, Row.owned_nil _ _ _ _, fun g _ h => by cases h⟩
  clear hown3 hgr3 hat3 hg3 k6 hb6 hO6 hg6 hsz6 hpl HG HE
  go_wp2_with (fail)
  go_loopw [3, 4, 6, 8, 18] (fun xb xs _ _ vi wr => ∃ (k : Nat) (vb vs : Value), k ≤ n ∧ vi = .int .i64 k ∧ vb = xb ∧ vs = xs ∧ TwoRows wr w.heap.size vb (headW n ++ rowsW n 0 (l.take k)) vs (setsW (l.take k)) ∧ Below w.heap.size w wr) (fun _ _ _ _ vi _ => n - (intOf vi).toNat)
  case atStart => exact ⟨0, _, _, Nat.zero_le _, rfl, rfl, rfl, HT3.out, HB3.out⟩
  case round =>
    obtain ⟨k, vb, vs, hk, rfl, hvb, hvs, htw, hb⟩ := hrel
    rw [← hvb, ← hvs]
    clear hvb hvs
    have HT := Bas.hid htw
    have HB := Bas.hid hb
    by_cases hkn : k < n
    · have hlen := HN.out
      obtain ⟨c, hc⟩ : ∃ c, l[k]? = some c := ⟨_, List.getElem?_eq_getElem (by omega)⟩
      obtain ⟨r, hr⟩ : ∃ r, rs[k]? = some r := ⟨_, List.getElem?_eq_getElem (by rw [HRL.out]; omega)⟩
      have hse := HEL.out k c r hc hr
      obtain ⟨⟨⟨ot1, ot2⟩, ⟨of1, of2⟩, hss⟩, hs60⟩ := HOK.out c (List.mem_of_getElem? hc)
      have hz : (l.zip rs)[k]? = some (c, r) := List.getElem?_zip_eq_some.2 ⟨hc, hr⟩
      obtain ⟨B0, O0, cp0, hv0, hcl⟩ := Row.leads_elem wPC_len HLD.out hz (by omega)
      obtain ⟨as', cs', rfl⟩ := Row.leads_slice hse
      cases hv0
      have q0 := (hb.cell (p := ⟨B0, O0 + k * 3, none⟩) (World.block_lt_of_cell? _ _ (hcl 0 _ rfl))).trans (hcl 0 _ rfl)
      have q1 := (hb.cell (p := ⟨B0, O0 + k * 3 + 1, none⟩) (World.block_lt_of_cell? _ _ (hcl 1 _ rfl))).trans (hcl 1 _ rfl)
      have q2 := (hb.cell (p := ⟨B0, O0 + k * 3 + 2, none⟩) (World.block_lt_of_cell? _ _ (hcl 2 _ rfl))).trans (hcl 2 _ rfl)
      have HSE := Bas.hid hse
      have HSS := Bas.hid hss
      have HRW := Bas.hid (rowsW_take n l k c hc)
      have HSW := Bas.hid (setsW_take l k c hc)
      have hol := setsW_le l HOK.out k (by omega)
      have hbl : (headW n ++ rowsW n 0 (l.take k)).length = 12 + 12 * k := by rw [List.length_append, headW_len, rowsW_len, List.length_take, Nat.min_eq_left (by omega)]
      obtain ⟨ct, cf, cs⟩ := c
      simp only at q0 q1 q2 HSE HSS HRW HSW ot1 ot2 of1 of2 hs60
      obtain ⟨ns, hns⟩ : ∃ ns, ns = cs.length := ⟨_, rfl⟩
      have HNS := Bas.hid hns
      rw [← hns] at q2 HSE hs60
      obtain ⟨bb, hbb⟩ : ∃ bb, bb = headW n ++ rowsW n 0 (l.take k) := ⟨_, rfl⟩
      have HBBX := Bas.hid hbb.symm
      rw [← hbb] at HT hbl
      clear hbb
      generalize setsW (l.take k) = sw at *
      obtain ⟨sl, hsl⟩ : ∃ sl, sl = sw.length := ⟨_, rfl⟩
      have HSLN := Bas.hid hsl
      rw [← hsl] at hol
      clear hcl hse hss hb htw hr hz hlen hc hns hsl HT3 HB3
      go_wp2_with (fail)
      have k8 := Bas.heap_new wr (.cells #[.int .u16 ct, .int .u16 cf, .slice as' ns cs'] 31)
      have hbW := (Below.refl wr.heap.size wr).alloc (Nat.le_refl _) (.cells #[.int .u16 ct, .int .u16 cf, .slice as' ns cs'] 31)
      have HT8 := Bas.hid (HT.out.below hbW)
      have HB8 := Bas.hid (HB.out.trans (hbW.mono HB.out.size))
      have hnl : vb.ownBlock ≠ some wr.heap.size := fun e => Nat.lt_irrefl _ (Row.own_block HT.out.l e).2
      have hnr : vs.ownBlock ≠ some wr.heap.size := fun e => Nat.lt_irrefl _ (Row.own_block HT.out.r e).2
      generalize wr.alloc (.cells #[.int .u16 ct, .int .u16 cf, .slice as' ns cs'] 31) = W8 at *
      generalize wr.heap.size = T8 at k8 hnl hnr ⊢
      have hO8 := HT8.out.l
      have Abase : w.heap.size ≤ W8.drew.heap.size := HB8.out.size
      clear q0 q1 q2 hbW HT HB
      have Ad := Row.owned_keep hO8 (w' := W8.drew) (fun _ _ => rfl)
      obtain ⟨AI, AF, Ai, AF0, AFg, AFw, AFb⟩ := Pl.fam_g W8 (vb).ownBlock
      have Ac0 := fun i => (Bas.gcell (AFb i) (b := T8) (o := 0) (heap_lt k8) hnl).trans (cell_of_heap (i := 0) (v := .int .u16 ct) k8 rfl)
      have Ac1 := fun i => (Bas.gcell (AFb i) (b := T8) (o := 2) (heap_lt k8) hnl).trans (cell_of_heap (i := 2) (v := .slice as' ns cs') k8 rfl)
      have AFH := Bas.hid AF0
      have AhI : Nonempty AI := ⟨Ai⟩
      have AFW := Bas.hid AFw
      clear AF0 AFw AFg AFb
      refine Pl.region_plan0 Ai [(true, 0), (true, 1), (true, 2), (true, 3), (true, 5), (true, 6), (true, 7), (false, 4), (false, 8), (false, 9)] [8, 9] (by kernel_rfl) (by kernel_rfl) (fun _ _ _ _ e h => ⟨e ▸ h.1, h.2⟩) AFH.out ?_
      refine Pl.head_sel0 [(true, 0), (true, 1), (true, 2), (true, 3), (true, 5), (true, 6), (true, 7)] (by kernel_rfl) (by kernel_rfl) ?_
      simp only [Pl.sel, List.drop_succ_cons, List.drop_zero]
      repeat (go_big_quiet_step (fail))
      refine wpQuiet_nil ?_
      rw [← AFH.out]
      clear Ac0 Ac1 AFH
      refine Pl.one_sel (by kernel_rfl) ?_
      intro Q' hQ' hP'
      simp only [Pl.sel, List.drop_succ_cons, List.drop_zero]
      go_wp2_with (fail)
      refine (put_any ct 2 w.heap.size _ _ W8.drew (by omega) (by omega) (by omega) (by first | omega | (simp only [List.length_append, putB_len]; omega)) Abase Ad).mono ?_
      rintro e Aw1 ⟨Av1, rfl, Ag1⟩
      have Agg := Bas.gtrans (Bas.gdrew (Bas.grefl W8 _)) Ag1.grow
      go_wp2_with (fail)
      refine hQ' _ _ (fun _ _ => AFW.out _ Agg) ?_
      clear hQ' hP' Q' Agg AFW
      refine Pl.tail_sel [(false, 8), (false, 9)] (by kernel_rfl) (by kernel_rfl) ?_
      simp only [Pl.sel, List.drop_succ_cons, List.drop_zero]
      go_wp2_with (fail)
      refine (put_any (ns : Int) 2 w.heap.size _ _ Aw1 (by omega) (by omega) (by omega) (by first | omega | (simp only [List.length_append, putB_len]; omega)) (Nat.le_trans Abase Ag1.grow.size) Ag1.own).mono ?_
      rintro e Aw ⟨Av, rfl, Ag2⟩
      have Ag := Ag1.trans Ag2
      clear Ag1 Ag2
      have HTA := Bas.hid ((TwoRows.below HT8.out (show Below W8.heap.size W8 W8.drew from (Below.refl _ _).drew)).growL Ag)
      have HBA := Bas.hid (Ag.below (HB8.out.drew) (by exact HB8.out.size) (fun g hg => (Row.own_block hO8 hg).1))
      have kA := (Ag.grow.block T8 (heap_lt k8) (fun e => hnl e.symm)).trans k8
      have hnlA : Av.ownBlock ≠ some T8 := by
        intro e
        rcases Ag.at' with h | ⟨g, h, h2⟩
        · exact hnl (h ▸ e)
        · rw [h] at e; cases e
          exact absurd (heap_lt k8) (Nat.not_lt.2 h2)
      obtain ⟨ads, cps, hvs⟩ := row_slice HTA.out.r
      have hsl2 := HSLN.out
      rw [← hsl2] at hvs
      clear Ag k8 hnl hO8 HT8 HB8 Abase Ad hsl2
      rw [hvs]
      go_wp2_with (fail)
      refine (put_any (12 + 12 * (n : Int) + (sl : Int)) 4 w.heap.size _ _ Aw (by omega) (by omega) (by omega) (by simp only [List.length_append, putB_len]; omega) HBA.out.size HTA.out.l).mono ?_
      rintro e wC ⟨vC, rfl, gC⟩
      have HTC := Bas.hid (HTA.out.growL gC)
      have HBC := Bas.hid (gC.below HBA.out HBA.out.size (fun g hg => (Row.own_block HTA.out.l hg).1))
      have kC := (gC.grow.block T8 (heap_lt kA) (fun e => hnlA e.symm)).trans kA
      have hnlC : vC.ownBlock ≠ some T8 := by
        intro e
        rcases gC.at' with h | ⟨g, h, h2⟩
        · exact hnlA (h ▸ e)
        · rw [h] at e; cases e
          exact absurd (heap_lt kA) (Nat.not_lt.2 h2)
      have cC := cell_of_heap (i := 1) (v := .int .u16 cf) kC rfl
      clear gC kA hnlA HTA HBA
      go_wp2_with (fail)
      refine (put_any cf 2 w.heap.size _ _ wC (by omega) (by omega) (by omega) (by simp only [List.length_append, putB_len]; omega) HBC.out.size HTC.out.l).mono ?_
      rintro e wD ⟨vD, rfl, gD⟩
      have HTD := Bas.hid (HTC.out.growL gD)
      have HBD := Bas.hid (gD.below HBC.out HBC.out.size (fun g hg => (Row.own_block HTC.out.l hg).1))
      have kD := (gD.grow.block T8 (heap_lt kC) (fun e => hnlC e.symm)).trans kC
      have hnlD : vD.ownBlock ≠ some T8 := by
        intro e
        rcases gD.at' with h | ⟨g, h, h2⟩
        · exact hnlC (h ▸ e)
        · rw [h] at e; cases e
          exact absurd (heap_lt kC) (Nat.not_lt.2 h2)
      clear gD kC cC hnlC HTC HBC
      go_wp2_with (fail)
      refine (put_any 7 2 w.heap.size _ _ wD (by omega) (by omega) (by omega) (by simp only [List.length_append, putB_len]; omega) HBD.out.size HTD.out.l).mono ?_
      rintro e wE ⟨vE, rfl, gE⟩
      have HTE := Bas.hid (HTD.out.growL gE)
      have HBE := Bas.hid (gE.below HBD.out HBD.out.size (fun g hg => (Row.own_block HTD.out.l hg).1))
      have kE := (gE.grow.block T8 (heap_lt kD) (fun e => hnlD e.symm)).trans kD
      have cE := cell_of_heap (i := 2) (v := .slice as' ns cs') kE rfl
      clear gE kD hnlD HTD HBD
      rw [← hvs]
      clear hvs
      go_wp2_with (fail)
      clear cE kE
      have HTE2 : Hid (TwoRows wE w.heap.size vE (bb ++ rowW n sw.length ⟨ct, cf, cs⟩) vs (sw ++ (cs.take 0).flatMap sB)) := by
        have h := HTE.out
        have e1 : bb ++ putB ct 2 ++ putB (ns : Int) 2 ++ putB (12 + 12 * (n : Int) + (sl : Int)) 4 ++ putB cf 2 ++ putB 7 2 = bb ++ rowW n sw.length ⟨ct, cf, cs⟩ := by
          unfold rowW
          rw [← HSLN.out, ← HNS.out]
          simp only [List.append_assoc]
        rw [e1] at h
        have e0 : sw ++ (cs.take 0).flatMap sB = sw := by simp
        rw [e0]
        exact h
      have HRWX : Hid (headW n ++ rowsW n 0 (l.take (k + 1)) = bb ++ rowW n sw.length ⟨ct, cf, cs⟩) := by
        unfold Hid
        rw [HRW.out, ← List.append_assoc, HBBX.out]
      generalize bb ++ rowW n sw.length ⟨ct, cf, cs⟩ = bb2 at *
      have hsb : wE.heap.size ≤ wE.heap.size := Nat.le_refl _
      clear HTE hsb
      go_loopw [4, 8, 49] (fun xs _ vi wr => ∃ (j : Nat) (vt : Value), j ≤ ns ∧ vi = .int .i64 j ∧ vt = xs ∧ TwoRows wr w.heap.size vE bb2 vt (sw ++ (cs.take j).flatMap sB) ∧ Below w.heap.size w wr) (fun _ _ vi _ => ns - (intOf vi).toNat)
      case atStart => exact ⟨0, _, Nat.zero_le _, rfl, rfl, HTE2.out, HBE.out⟩
      case round =>
        obtain ⟨j, vt, hj, rfl, hvt, htw, hb⟩ := hrel
        rw [← hvt]
        clear hvt
        have HT := Bas.hid htw
        have HB := Bas.hid hb
        by_cases hjn : j < ns
        · have hlen := HNS.out
          obtain ⟨s, hs⟩ : ∃ s, cs[j]? = some s := ⟨_, List.getElem?_eq_getElem (by omega)⟩
          obtain ⟨B1, O1, cp1, hv1, hcl⟩ := Row.leads_elem wS_len HSE.out hs (by omega)
          cases hv1
          have hc0 : w.cell? ⟨B1, O1 + j, none⟩ = some (.int .u16 s) := by
            have h := hcl 0 (.int .u16 s) rfl
            simpa using h
          have q0 := (hb.cell (p := ⟨B1, O1 + j, none⟩) (World.block_lt_of_cell? _ _ hc0)).trans hc0
          obtain ⟨os1, os2⟩ := HSS.out s (List.mem_of_getElem? hs)
          have HTK : Hid (sw ++ (cs.take (j + 1)).flatMap sB = sw ++ (cs.take j).flatMap sB ++ (putB s 2 ++ putB 9 2)) := by
            unfold Hid
            rw [Row.take_flat sB cs j s hs, ← List.append_assoc]
            rfl
          have hyl : (sw ++ (cs.take j).flatMap sB).length ≤ 7200 + 240 := by
            rw [List.length_append, setB_len, List.length_take, ← HSLN.out]; omega
          generalize sw ++ (cs.take j).flatMap sB = ys at *
          clear hcl hs hlen htw hb hc0
          go_wp2_with (fail)
          refine (put_any s 2 w.heap.size _ _ wr (by omega) (by omega) (by omega) (by omega) HB.out.size HT.out.r).mono ?_
          rintro e wF ⟨vF, rfl, gF⟩
          have HTF := Bas.hid (HT.out.growR gF)
          have HBF := Bas.hid (gF.below HB.out HB.out.size (fun g hg => (Row.own_block HT.out.r hg).1))
          clear gF HT HB
          go_wp2_with (fail)
          refine (put_any 9 2 w.heap.size _ _ wF (by omega) (by omega) (by omega) (by simp only [List.length_append, putB_len]; omega) HBF.out.size HTF.out.r).mono ?_
          rintro e wG ⟨vG, rfl, gG⟩
          have HTG := Bas.hid (HTF.out.growR gG)
          have HBG := Bas.hid (gG.below HBF.out HBF.out.size (fun g hg => (Row.own_block HTF.out.r hg).1))
          clear gG HTF HBF q0
          go_wp2_with (fail)
          go_roundw
          case rel => exact ⟨j + 1, _, by omega, by go_num, rfl, by rw [HTK.out, ← List.append_assoc]; exact HTG.out, HBG.out⟩
          case measure => simp [intOf]; omega
        · have hjn2 : j = ns := by omega
          have hfl : sw ++ (cs.take j).flatMap sB = setsW (l.take (k + 1)) := by rw [HSW.out, hjn2, HNS.out, List.take_length]
          rw [hfl] at htw
          have HTF := Bas.hid htw
          have HBF := Bas.hid hb
          clear htw hb hfl
          go_wp2_with (fail)
          go_roundw
          case rel => exact ⟨k + 1, _, _, by omega, by go_num, rfl, rfl, by rw [HRWX.out]; exact HTF.out, HBF.out⟩
          case measure => simp [intOf]; omega
    · have hkn2 : k = n := by omega
      have h := HT.out
      rw [hkn2, HN.out, List.take_length] at h
      have HF := Bas.hid h
      obtain ⟨ad8, cp8, rfl⟩ := row_slice h.r
      have hbl : (headW l.length ++ rowsW l.length 0 l).length ≤ 12 + 360 := by rw [List.length_append, headW_len, rowsW_len]; omega
      have hsl : (setsW l).length ≤ 7200 := by
        have := setsW_le l HOK.out l.length (Nat.le_refl _)
        rw [List.take_length] at this; omega
      obtain ⟨sl, hsl2⟩ : ∃ sl, sl = (setsW l).length := ⟨_, rfl⟩
      have HSL := Bas.hid hsl2
      rw [← hsl2] at hsl ⊢
      clear hb htw h hsl2 HT
      go_wp2_with (at_builtin; refine Row.fence ?_)
      refine Row.unfence ?_
      refine Row.append_at rfl _ _ 24 5 rfl (.int .u8 0) 1 1 Try.underlying24 info8 rfl (by decide) w.heap.size vb _ _ rfl HF.out.l (.slice ad8 sl cp8) sl _ rfl (by rw [HSL.out]; exact Row.leads_owned HF.out.r) (by simp [HSL.out]) (by simp; intros; rfl) (by unfold maxLen; omega) (by omega) HB.out.size ?_
      intro v9 w9 h91 h92 _ h93
      have h91' : w9.ownsRow w.heap.size 5 1 v9 (featW l).length ((featW l).map (Value.int .u8)) := by
        unfold featW
        simpa only [List.map_append, List.length_append, HSL.out, Nat.add_assoc, List.append_assoc] using h91
      have HB9 := Bas.hid (HB.out.grown h92 HB.out.size (fun g hg => (Row.own_block HF.out.l hg).1))
      have HO9 := Bas.hid h91'
      obtain ⟨ad9, cp9, rfl⟩ := row_slice h91'
      clear h91 h92 h93 h91' HF
      go_wp2_with (fail)
      go_ret
      exact ⟨_, rfl, HO9.out, HB9.out⟩
end Ft
end Go.Proofs.Ytdmhenlfhbigbaa
