/- The law's own data (layer 27). -/
import Derived.Test.YtfocjagkhoonmaaTrakWrD
namespace Go.Proofs.Ytfocjagkhoonmaa
open Go.RowKit
namespace Tk
open Vw Wr

theorem u16_of_i16 (s : Int) : wrap64 (IntKind.u16.wrap s) = s % 65536 := by
  have h : IntKind.u16.wrap s = s % 65536 := by simp [IntKind.wrap, IntKind.bits, IntKind.signed]
  rw [h]; unfold wrap64; omega

set_option maxRecDepth 100000 in
set_option maxHeartbeats 16000000 in
theorem wdata_any (sv tv : Value) (S : List Int) (l : List PTrack) (at' : Nat) (w : World) (hS : S.length ≤ 20) (hl : l.length ≤ 10) (hat : at' ≤ 10000) (hrg : ∀ p ∈ l, rgTrack p) (hrs : rgSizes S) (hin : PTracks w tv l) (hsz : PSizes w sv S) :
    Calls Try.prog 38 #[sv, tv, .int .i64 at'] w fun e w' => ∃ v', e = .returned v' ∧ w'.ownsRow w.heap.size 5 1 v' (dataW S l at').length ((dataW S l at').map (Value.int .u8)) ∧ Below w.heap.size w w' := by
  obtain ⟨rs, hrl, hlead, hel⟩ := hin
  obtain ⟨ad, cap, rfl⟩ := Row.leads_slice hlead
  obtain ⟨sad, scap, rfl⟩ := Row.leads_slice hsz
  obtain ⟨n, hn⟩ : ∃ n, n = l.length := ⟨_, rfl⟩
  obtain ⟨m, hm⟩ : ∃ m, m = S.length := ⟨_, rfl⟩
  have HDW : Hid (dataW S l at' = headT n m at' ++ rowsT m (at' + 8 + 8 * n + 4 * m) l ++ S.flatMap szB ++ insT m l) := by unfold Hid dataW; rw [hn, hm]
  have HDL := Bas.hid (dataW_len S l at')
  rw [← hn, ← hm] at HDL
  rw [← hn, ← hm]
  have hn10 : n ≤ 10 := by omega
  have hm20 : m ≤ 20 := by omega
  have HN := Bas.hid hn
  have HM := Bas.hid hm
  have HEL := Bas.hid hel
  have HLD := Bas.hid hlead
  have HSZ := Bas.hid hsz
  have HRG := Bas.hid hrg
  have HRS := Bas.hid hrs
  have HRL := Bas.hid hrl
  clear hrl hlead hel hrg hrs hsz hn hm hl hS
  have hemp : w.ownsRow w.heap.size 5 1 (.slice none 0 0) ([] : List Int).length (([] : List Int).map (Value.int .u8)) := Row.owned_nil _ _ _ _
  have HE := Bas.hid hemp
  clear hemp
  go_enter Try.func38, Try.ntmps38
  go_wp2_with (fail)
  refine (put_any (n : Int) 2 w.heap.size _ [] w (by omega) (by omega) (by omega) (by simp) (Nat.le_refl _) HE.out).mono ?_
  rintro e w1 ⟨v1, rfl, hg1⟩
  go_wp2_with (fail)
  refine (put_any (m : Int) 2 w.heap.size _ _ w1 (by omega) (by omega) (by omega) (by simp [putB_len]) hg1.grow.size hg1.own).mono ?_
  rintro e w2 ⟨v2, rfl, hg2⟩
  have hg12 := hg1.trans hg2
  go_wp2_with (fail)
  refine (put_any _ 4 w.heap.size _ _ w2 (by omega) (by omega) (by omega) (by simp [putB_len]) hg12.grow.size hg12.own).mono ?_
  rintro e w3 ⟨v3, rfl, hg3⟩
  have hg13 := hg12.trans hg3
  have eh : [] ++ putB (n : Int) 2 ++ putB (m : Int) 2 ++ putB ((at' : Int) + 8 + 8 * (n : Int)) 4 = headT n m at' := by
    unfold headT
    rw [List.nil_append, show ((at' : Int) + 8 + 8 * (n : Int)) = ((at' + 8 + 8 * n : Nat) : Int) by omega]
  rw [eh] at hg13
  have HB3 := Bas.hid (hg13.below (Below.refl w.heap.size w) (Nat.le_refl _) (fun g h => by cases h))
  have HT3 : Hid (TwoRows w3 w.heap.size v3 (headT n m at' ++ rowsT m (at' + 8 + 8 * n + 4 * m) (l.take 0)) (.slice none 0 0) (insT m (l.take 0))) :=
    ⟨by simpa [rowsT] using hg13.own, Row.owned_nil _ _ _ _, fun g _ h => by cases h⟩
  clear hg1 hg2 hg12 hg3 hg13 eh HE
  go_wp2_with (fail)
  go_loopw [8, 9, 11, 12, 13, 41] (fun xb xs _ _ _ vi wr => ∃ (k : Nat) (vb vs : Value), k ≤ n ∧ vi = .int .i64 k ∧ vb = xb ∧ vs = xs ∧ TwoRows wr w.heap.size vb (headT n m at' ++ rowsT m (at' + 8 + 8 * n + 4 * m) (l.take k)) vs (insT m (l.take k)) ∧ Below w.heap.size w wr) (fun _ _ _ _ _ vi _ => n - (intOf vi).toNat)
  case atStart => exact ⟨0, _, _, Nat.zero_le _, rfl, rfl, rfl, HT3.out, HB3.out⟩
  case round =>
    obtain ⟨k, vb, vs, hk, rfl, hvb, hvs, htw, hb⟩ := hrel
    rw [← hvb, ← hvs]
    clear hvb hvs
    have HT := Bas.hid htw
    have HB := Bas.hid hb
    by_cases hkn : k < n
    · have hlen := HN.out
      obtain ⟨c, hc⟩ : ∃ c, l[k]? = some c := ⟨_, List.getElem?_eq_getElem (by omega)⟩
      obtain ⟨r, hr⟩ : ∃ r, rs[k]? = some r := ⟨_, List.getElem?_eq_getElem (by rw [HRL.out]; omega)⟩
      have hse := HEL.out k c r hc hr
      obtain ⟨⟨ot1, ot2⟩, hss⟩ := HRG.out c (List.mem_of_getElem? hc)
      have hz : (l.zip rs)[k]? = some (c, r) := List.getElem?_zip_eq_some.2 ⟨hc, hr⟩
      obtain ⟨B0, O0, cp0, hv0, hcl⟩ := Row.leads_elem wTC_len HLD.out hz (by omega)
      obtain ⟨as', cs', rfl⟩ := Row.leads_slice hse
      cases hv0
      have q0 := (hb.cell (p := ⟨B0, O0 + k * 2, none⟩) (World.block_lt_of_cell? _ _ (hcl 0 _ rfl))).trans (hcl 0 _ rfl)
      have q1 := (hb.cell (p := ⟨B0, O0 + k * 2 + 1, none⟩) (World.block_lt_of_cell? _ _ (hcl 1 _ rfl))).trans (hcl 1 _ rfl)
      have HSE := Bas.hid hse
      have HSS := Bas.hid hss
      have HRW := Bas.hid (rowsT_take m (at' + 8 + 8 * n + 4 * m) l k c hc)
      have HSW := Bas.hid (insT_take m l k c hc)
      have hbl : (headT n m at' ++ rowsT m (at' + 8 + 8 * n + 4 * m) (l.take k)).length = 8 + 8 * k := by rw [List.length_append, headT_len, rowsT_len, List.length_take, Nat.min_eq_left (by omega)]
      have hil : (insT m (l.take k)).length = 2 * m * k := by rw [insT_len, List.length_take, Nat.min_eq_left (by omega)]
      have hmk : m * k ≤ 20 * 10 := Nat.mul_le_mul hm20 (by omega)
      obtain ⟨ct, cv⟩ := c
      simp only at q0 q1 HSE HSS HRW HSW ot1 ot2
      obtain ⟨nv, hnv⟩ : ∃ nv, nv = cv.length := ⟨_, rfl⟩
      have HNV := Bas.hid hnv
      rw [← hnv] at q1 HSE
      obtain ⟨bb, hbb⟩ : ∃ bb, bb = headT n m at' ++ rowsT m (at' + 8 + 8 * n + 4 * m) (l.take k) := ⟨_, rfl⟩
      have HBBX := Bas.hid hbb.symm
      rw [← hbb] at HT hbl
      generalize insT m (l.take k) = sw at *
      obtain ⟨sl, hsl⟩ : ∃ sl, sl = sw.length := ⟨_, rfl⟩
      have HSLN := Bas.hid hsl
      have hslb : sl = 2 * (m * k) := by rw [hsl, hil, Nat.mul_assoc]
      have HSLB := Bas.hid hslb
      have hslc : sl ≤ 400 := by omega
      clear hcl hse hss hb htw hr hz hlen hc hnv hsl HT3 HB3 hbb hil hslb hmk
      go_wp2_with (fail)
      have k8 := Bas.heap_new wr (.cells #[.int .i32 ct, .slice as' nv cs'] 48)
      have hbW := (Below.refl wr.heap.size wr).alloc (Nat.le_refl _) (.cells #[.int .i32 ct, .slice as' nv cs'] 48)
      have HT8 := Bas.hid (HT.out.below hbW)
      have HB8 := Bas.hid (HB.out.trans (hbW.mono HB.out.size))
      have hnl : vb.ownBlock ≠ some wr.heap.size := fun e => Nat.lt_irrefl _ (Row.own_block HT.out.l e).2
      have hnr : vs.ownBlock ≠ some wr.heap.size := fun e => Nat.lt_irrefl _ (Row.own_block HT.out.r e).2
      generalize wr.alloc (.cells #[.int .i32 ct, .slice as' nv cs'] 48) = W8 at *
      generalize wr.heap.size = T8 at k8 hnl hnr ⊢
      have c8 := cell_of_heap (i := 0) (v := .int .i32 ct) k8 rfl
      have hO8 := HT8.out.l
      clear q0 q1 hbW HT HB
      have hnl8 := hnl
      refine (put_any (ct % 4294967296) 4 w.heap.size _ _ W8 (by omega) (by omega) (by omega) (by omega) HB8.out.size HT8.out.l).mono ?_
      rintro e wA ⟨vA, rfl, gA⟩
      have HTA := Bas.hid (HT8.out.growL gA)
      have HBA := Bas.hid (gA.below HB8.out HB8.out.size (fun g hg => (Row.own_block HT8.out.l hg).1))
      have kA := (gA.grow.block T8 (heap_lt k8) (fun e => hnl8 e.symm)).trans k8
      have hnlA : vA.ownBlock ≠ some T8 := by
        intro e
        rcases gA.at' with h | ⟨g, h, h2⟩
        · exact hnl8 (h ▸ e)
        · rw [h] at e; cases e
          exact absurd (heap_lt k8) (Nat.not_lt.2 h2)
      obtain ⟨ads, cps, hvs⟩ := row_slice HTA.out.r
      have hsl2 := HSLN.out
      rw [← hsl2] at hvs
      clear gA k8 c8 hnl hnl8 hO8 HT8 HB8 hsl2
      rw [hvs]
      go_wp2_with (fail)
      refine (put_any 7 2 w.heap.size _ _ wA (by omega) (by omega) (by omega) (by simp only [List.length_append, putB_len]; omega) HBA.out.size HTA.out.l).mono ?_
      rintro e wB ⟨vB, rfl, gB⟩
      have HTB := Bas.hid (HTA.out.growL gB)
      have HBB := Bas.hid (gB.below HBA.out HBA.out.size (fun g hg => (Row.own_block HTA.out.l hg).1))
      have kB := (gB.grow.block T8 (heap_lt kA) (fun e => hnlA e.symm)).trans kA
      have hnlB : vB.ownBlock ≠ some T8 := by
        intro e
        rcases gB.at' with h | ⟨g, h, h2⟩
        · exact hnlA (h ▸ e)
        · rw [h] at e; cases e
          exact absurd (heap_lt kA) (Nat.not_lt.2 h2)
      clear gB kA hnlA HTA HBA
      go_wp2_with (fail)
      refine (put_any _ 2 w.heap.size _ _ wB (by omega) (by omega) (by omega) (by simp only [List.length_append, putB_len]; omega) HBB.out.size HTB.out.l).mono ?_
      rintro e wC ⟨vC, rfl, gC⟩
      have HTC := Bas.hid (HTB.out.growL gC)
      have HBC := Bas.hid (gC.below HBB.out HBB.out.size (fun g hg => (Row.own_block HTB.out.l hg).1))
      have kC := (gC.grow.block T8 (heap_lt kB) (fun e => hnlB e.symm)).trans kB
      have hnlC : vC.ownBlock ≠ some T8 := by
        intro e
        rcases gC.at' with h | ⟨g, h, h2⟩
        · exact hnlB (h ▸ e)
        · rw [h] at e; cases e
          exact absurd (heap_lt kB) (Nat.not_lt.2 h2)
      clear gC kB hnlB HTB HBB
      rw [← hvs]
      clear hvs
      have HTC2 : Hid (TwoRows wC w.heap.size vC (headT n m at' ++ rowsT m (at' + 8 + 8 * n + 4 * m) (l.take (k + 1))) vs (sw ++ valsTo ⟨ct, cv⟩ 0)) := by
        have h := HTC.out
        have e1 : bb ++ putB (ct % 4294967296) 4 ++ putB 7 2 ++ putB ((at' : Int) + 8 + 8 * (n : Int) + 4 * (m : Int) + (sl : Int)) 2 = headT n m at' ++ rowsT m (at' + 8 + 8 * n + 4 * m) (l.take (k + 1)) := by
          rw [HRW.out, ← List.append_assoc, HBBX.out]
          unfold rowT
          rw [show ((at' : Int) + 8 + 8 * (n : Int) + 4 * (m : Int) + (sl : Int)) = ((at' + 8 + 8 * n + 4 * m + 2 * m * k : Nat) : Int) by have := HSLB.out; rw [Nat.mul_assoc]; omega]
          simp only [List.append_assoc]
        rw [e1] at h
        have e0 : sw ++ valsTo ⟨ct, cv⟩ 0 = sw := by simp [valsTo]
        rw [e0]
        exact h
      obtain ⟨bb2, hbb2⟩ : ∃ x, x = headT n m at' ++ rowsT m (at' + 8 + 8 * n + 4 * m) (l.take (k + 1)) := ⟨_, rfl⟩
      have HBB2 := Bas.hid hbb2
      rw [← hbb2] at HTC2
      clear hbb2
      have n8 := kC
      clear HTC hnlC HRW HBBX kC
      go_wp2_with (fail)
      go_loopw [9, 12, 13, 59] (fun xs _ _ vi wr => ∃ (j : Nat) (vt : Value), j ≤ m ∧ vi = .int .i64 j ∧ vt = xs ∧ TwoRows wr w.heap.size vC bb2 vt (sw ++ valsTo ⟨ct, cv⟩ j) ∧ Below w.heap.size w wr ∧ wr.heap[T8]? = some (.cells #[.int .i32 ct, .slice as' nv cs'] 48 (0, 0))) (fun _ _ _ vi _ => m - (intOf vi).toNat)
      case atStart => exact ⟨0, _, Nat.zero_le _, rfl, rfl, HTC2.out, HBC.out, n8⟩
      case round =>
        obtain ⟨j, vt, hj, rfl, hvt, htw, hb, y8⟩ := hrel
        rw [← hvt]
        clear hvt n8 HTC2 HBC
        have HT := Bas.hid htw
        have HB := Bas.hid hb
        by_cases hjm : j < m
        · have HTK : Hid (sw ++ valsTo ⟨ct, cv⟩ (j + 1) = sw ++ valsTo ⟨ct, cv⟩ j ++ putB (valN ⟨ct, cv⟩ j) 2) := by
            unfold Hid
            rw [valsTo_succ, List.append_assoc]
          have hyl : (sw ++ valsTo ⟨ct, cv⟩ j).length ≤ 440 := by
            rw [List.length_append, valsTo_len, ← HSLN.out]; omega
          have cA := cell_of_heap (i := 1) (v := .slice as' nv cs') y8 rfl
          have f8 : vt.ownBlock ≠ some T8 := own_ty HT.out.r y8 (by decide)
          by_cases hjv : j < nv
          · obtain ⟨s, hs⟩ : ∃ s, cv[j]? = some s := ⟨_, List.getElem?_eq_getElem (by have := HNV.out; omega)⟩
            obtain ⟨B1, O1, cp1, hv1, hcl⟩ := Row.leads_elem wI16_len HSE.out hs (by omega)
            cases hv1
            have hc0 : w.cell? ⟨B1, O1 + j, none⟩ = some (.int .i16 s) := by
              have h := hcl 0 (.int .i16 s) rfl
              simpa using h
            have q0 := (hb.cell (p := ⟨B1, O1 + j, none⟩) (World.block_lt_of_cell? _ _ hc0)).trans hc0
            obtain ⟨os1, os2⟩ := HSS.out s (List.mem_of_getElem? hs)
            have HVN : Hid (valN ⟨ct, cv⟩ j = s % 65536) := by
              unfold Hid valN
              rw [if_pos (by have := HNV.out; show j < cv.length; omega)]
              show cv.getD j 0 % 65536 = _
              rw [List.getD_eq_getElem?_getD, hs]; rfl
            generalize sw ++ valsTo ⟨ct, cv⟩ j = ys at *
            clear hcl hs htw hb hc0
            go_wp2_with (fail)
            rw [u16_of_i16 s]
            refine (put_any (s % 65536) 2 w.heap.size _ _ wr (by omega) (by omega) (by omega) (by omega) HB.out.size HT.out.r).mono ?_
            rintro e wF ⟨vF, rfl, gF⟩
            have HTF := Bas.hid (HT.out.growR gF)
            have HBF := Bas.hid (gF.below HB.out HB.out.size (fun g hg => (Row.own_block HT.out.r hg).1))
            have z8 := (gF.grow.block T8 (heap_lt y8) (fun e => f8 e.symm)).trans y8
            clear gF HT HB q0 y8 f8
            go_wp2_with (fail)
            go_roundw
            case rel => exact ⟨j + 1, _, by omega, by go_num, rfl, by rw [HTK.out, HVN.out]; exact HTF.out, HBF.out, z8⟩
            case measure => simp [intOf]; omega
          · have HVN : Hid (valN ⟨ct, cv⟩ j = 0) := by
              unfold Hid valN
              rw [if_neg (by have := HNV.out; show ¬ j < cv.length; omega)]
            generalize sw ++ valsTo ⟨ct, cv⟩ j = ys at *
            clear htw hb
            go_wp2_with (fail)
            refine (put_any 0 2 w.heap.size _ _ wr (by omega) (by omega) (by omega) (by omega) HB.out.size HT.out.r).mono ?_
            rintro e wF ⟨vF, rfl, gF⟩
            have HTF := Bas.hid (HT.out.growR gF)
            have HBF := Bas.hid (gF.below HB.out HB.out.size (fun g hg => (Row.own_block HT.out.r hg).1))
            have z8 := (gF.grow.block T8 (heap_lt y8) (fun e => f8 e.symm)).trans y8
            clear gF HT HB y8 f8
            go_wp2_with (fail)
            go_roundw
            case rel => exact ⟨j + 1, _, by omega, by go_num, rfl, by rw [HTK.out, HVN.out]; exact HTF.out, HBF.out, z8⟩
            case measure => simp [intOf]; omega
        · have hjn2 : j = m := by omega
          have hfl : sw ++ valsTo ⟨ct, cv⟩ j = insT m (l.take (k + 1)) := by rw [HSW.out, hjn2]
          rw [hfl] at htw
          have HTF := Bas.hid htw
          have HBF := Bas.hid hb
          clear htw hb hfl
          go_wp2_with (fail)
          go_roundw
          case rel => exact ⟨k + 1, _, _, by omega, by go_num, rfl, rfl, HBB2.out ▸ HTF.out, HBF.out⟩
          case measure => simp [intOf]; omega
    · have hkn2 : k = n := by omega
      have h := HT.out
      rw [hkn2, HN.out, List.take_length] at h
      rw [← HN.out] at h
      have hbl : (headT n m at' ++ rowsT m (at' + 8 + 8 * n + 4 * m) l).length = 8 + 8 * n := by rw [List.length_append, headT_len, rowsT_len, ← HN.out]
      have hsl : (insT m l).length = 2 * m * n := by rw [insT_len, ← HN.out]
      have hmk : m * n ≤ 20 * 10 := Nat.mul_le_mul hm20 hn10
      have HLL : Hid ((dataW S l at').length = 8 + 8 * n + 4 * m + 2 * m * n) := by unfold Hid; rw [dataW_len, ← HN.out, ← HM.out]
      generalize headT n m at' ++ rowsT m (at' + 8 + 8 * n + 4 * m) l = bb at *
      generalize insT m l = sw at *
      have hF0 : Hid (TwoRows wr w.heap.size vb (bb ++ (S.take 0).flatMap szB) vs sw) := by
        unfold Hid
        simpa using h
      clear h htw HT hkn2
      have HBL := Bas.hid hb
      clear hb
      go_wp2_with (fail)
      go_loopw [8, 15, 81] (fun xb _ vi wr => ∃ (j : Nat) (vt : Value), j ≤ m ∧ vi = .int .i64 j ∧ vt = xb ∧ TwoRows wr w.heap.size vt (bb ++ (S.take j).flatMap szB) vs sw ∧ Below w.heap.size w wr) (fun _ _ vi _ => m - (intOf vi).toNat)
      case atStart => exact ⟨0, _, Nat.zero_le _, rfl, rfl, hF0.out, HBL.out⟩
      case round =>
        obtain ⟨j, vt, hj, rfl, hvt, htw, hb⟩ := hrel
        rw [← hvt]
        clear hvt hF0 HBL
        have HT := Bas.hid htw
        have HB := Bas.hid hb
        by_cases hjm : j < m
        · obtain ⟨s, hs⟩ : ∃ s, S[j]? = some s := ⟨_, List.getElem?_eq_getElem (by have := HM.out; omega)⟩
          have hszz := HSZ.out
          unfold PSizes at hszz
          rw [← HM.out] at hszz
          obtain ⟨B1, O1, cp1, hv1, hcl⟩ := Row.leads_elem wI32_len hszz hs (by omega)
          cases hv1
          have hc0 : w.cell? ⟨B1, O1 + j, none⟩ = some (.int .i32 s) := by
            have h := hcl 0 (.int .i32 s) rfl
            simpa using h
          have q0 := (hb.cell (p := ⟨B1, O1 + j, none⟩) (World.block_lt_of_cell? _ _ hc0)).trans hc0
          obtain ⟨os1, os2⟩ := HRS.out s (List.mem_of_getElem? hs)
          have HTK : Hid (bb ++ (S.take (j + 1)).flatMap szB = bb ++ (S.take j).flatMap szB ++ putB (s % 4294967296) 4) := by
            unfold Hid
            rw [Row.take_flat szB S j s hs, ← List.append_assoc]
            rfl
          have hyl : (bb ++ (S.take j).flatMap szB).length ≤ 8 + 80 + 80 := by
            rw [List.length_append, sizeB_len, List.length_take, hbl]; omega
          generalize bb ++ (S.take j).flatMap szB = ys at *
          clear hcl hs htw hb hc0 hszz
          go_wp2_with (fail)
          refine (put_any (s % 4294967296) 4 w.heap.size _ _ wr (by omega) (by omega) (by omega) (by omega) HB.out.size HT.out.l).mono ?_
          rintro e wF ⟨vF, rfl, gF⟩
          have HTF := Bas.hid (HT.out.growL gF)
          have HBF := Bas.hid (gF.below HB.out HB.out.size (fun g hg => (Row.own_block HT.out.l hg).1))
          clear gF HT HB q0
          go_wp2_with (fail)
          go_roundw
          case rel => exact ⟨j + 1, _, by omega, by go_num, rfl, by rw [HTK.out]; exact HTF.out, HBF.out⟩
          case measure => simp [intOf]; omega
        · have hjm2 : j = m := by omega
          have h := HT.out
          rw [hjm2, HM.out, List.take_length] at h
          have HF := Bas.hid h
          obtain ⟨ad8, cp8, rfl⟩ := row_slice h.r
          have hbl2 : (bb ++ S.flatMap szB).length = 8 + 8 * n + 4 * m := by rw [List.length_append, sizeB_len, hbl, ← HM.out]
          have HDX : Hid (bb ++ S.flatMap szB ++ sw = dataW S l at') := by unfold Hid; rw [HDW.out]
          obtain ⟨sl, hsl2⟩ : ∃ sl, sl = sw.length := ⟨_, rfl⟩
          have HSL := Bas.hid hsl2
          have hslb : sl ≤ 400 := by rw [hsl2, hsl, Nat.mul_assoc]; omega
          rw [← hsl2]
          generalize bb ++ S.flatMap szB = bbx at *
          clear hb htw h hsl2 HT hsl hbl
          go_wp2_with (at_builtin; refine Row.fence ?_)
          refine Row.unfence ?_
          refine Row.append_at rfl _ _ 30 5 rfl (.int .u8 0) 1 1 Try.underlying30 info8 rfl (by decide) w.heap.size vt _ _ rfl HF.out.l (.slice ad8 sl cp8) sl _ rfl (by rw [HSL.out]; exact Row.leads_owned HF.out.r) (by simp [HSL.out]) (by simp; intros; rfl) (by unfold maxLen; omega) (by omega) HB.out.size ?_
          intro v9 w9 h91 h92 _ h93
          have h91' : w9.ownsRow w.heap.size 5 1 v9 (dataW S l at').length ((dataW S l at').map (Value.int .u8)) := by
            rw [← HDX.out]
            simpa only [List.map_append, List.length_append, HSL.out, Nat.add_assoc, List.append_assoc] using h91
          have HB9 := Bas.hid (HB.out.grown h92 HB.out.size (fun g hg => (Row.own_block HF.out.l hg).1))
          have HO9 := Bas.hid h91'
          obtain ⟨ad9, cp9, rfl⟩ := row_slice h91'
          clear h91 h92 h93 h91' HF
          go_wp2_with (fail)
          go_ret
          exact ⟨_, rfl, HO9.out, HB9.out⟩
end Tk
end Go.Proofs.Ytfocjagkhoonmaa
