/- The walk of the law TrakValues. -/
import Derived.Test.YtfocjagkhoonmaaTrakOpen
import Derived.Test.YtfocjagkhoonmaaTrakRefRead
namespace Go.Proofs.Ytfocjagkhoonmaa
open Go.RowKit Go.ChangeShapes Go.WideShapes Go.ChangeAt
namespace Tk
open Vw

theorem writeT_head (p : WPlanT) (h : smallP p) : 12 ≤ (writeT p).length ∧ be (writeT p) 0 4 = 65536 ∧ be (writeT p) 4 2 = 0 := ⟨(writeT_len p h).1, rfl, rfl⟩

set_option maxRecDepth 100000 in
set_option maxHeartbeats 32000000 in
theorem trakValues_walk (sa sb ta tb : Value) (q : WPlanT) (direction size : Int) (w : World) (hin : PPlan w sa sb ta tb q) (hrg : rgPlan q) (hd : -9223372036854775808 ≤ direction ∧ direction ≤ 9223372036854775807) (hsz : -2147483648 ≤ size ∧ size ≤ 2147483647) :
    Calls Try.prog 3 #[.agg #[sa, sb, ta, tb], .int .i64 direction, .int .i32 size] w fun e w' => e = .returned (.bool true) ∧ Below w.heap.size w w' := by
  have HIN := Bas.hid hin
  have HRG := Bas.hid hrg
  have HDB := Bas.hid hd
  have HSZ := Bas.hid hsz
  obtain ⟨hs0, hs1, ⟨rs0, hrl0, hlead0, hel0⟩, ⟨rs1, hrl1, hlead1, hel1⟩⟩ := hin
  obtain ⟨s0, d0, rfl⟩ := Row.leads_slice hs0
  obtain ⟨s1, d1, rfl⟩ := Row.leads_slice hs1
  obtain ⟨s2, d2, rfl⟩ := Row.leads_slice hlead0
  obtain ⟨s3, d3, rfl⟩ := Row.leads_slice hlead1
  have HSI := Bas.hid (smallB_iff q)
  have HIN' : Hid (∀ w', Below w.heap.size w w' → PPlan w' (.slice s0 q.s0.length d0) (.slice s1 q.s1.length d1) (.slice s2 q.t0.length d2) (.slice s3 q.t1.length d3) q) := fun w' hb => HIN.out.below hb
  have HPS0 : Hid (Row.Leads w (.slice s0 q.s0.length d0) q.s0.length (q.s0.flatMap wI32)) := hs0
  have HPS1 : Hid (Row.Leads w (.slice s1 q.s1.length d1) q.s1.length (q.s1.flatMap wI32)) := hs1
  have HR0 := Bas.hid hrg.1.1
  have HR1 := Bas.hid hrg.2.1
  clear hs0 hs1 hrl0 hlead0 hel0 hrl1 hlead1 hel1 hrg hd hsz HIN
  obtain ⟨m0, hm0⟩ : ∃ n, q.s0.length = n := ⟨_, rfl⟩
  obtain ⟨m1, hm1⟩ : ∃ n, q.s1.length = n := ⟨_, rfl⟩
  obtain ⟨l0, hl0⟩ : ∃ n, q.t0.length = n := ⟨_, rfl⟩
  obtain ⟨l1, hl1⟩ : ∃ n, q.t1.length = n := ⟨_, rfl⟩
  have HM0 := Bas.hid hm0
  have HM1 := Bas.hid hm1
  rw [hm0, hm1, hl0, hl1] at HSI HIN' ⊢
  rw [hm0] at HPS0
  rw [hm1] at HPS1
  clear hm0 hm1 hl0 hl1
  have HSM := Bas.hid fun w' => small_any s0 s1 s2 s3 m0 m1 l0 l1 d0 d1 d2 d3 w'
  have HMB : Hid (smallB m0 l0 m1 l1 = true → m0 ≤ 20 ∧ m1 ≤ 20) := fun h => by simp [smallB] at h; omega
  generalize smallB m0 l0 m1 l1 = sm at *
  go_enter Try.func3, Try.ntmps3
  go_wp2_with (fail)
  have k0 := Bas.heap_new w (.cells #[.slice s0 m0 d0, .slice s1 m1 d1, .slice s2 l0 d2, .slice s3 l1 d3] 27)
  have HB0 := Bas.hid ((Below.refl w.heap.size w).alloc (Nat.le_refl _) (.cells #[.slice s0 m0 d0, .slice s1 m1 d1, .slice s2 l0 d2, .slice s3 l1 d3] 27))
  generalize w.alloc (.cells #[.slice s0 m0 d0, .slice s1 m1 d1, .slice s2 l0 d2, .slice s3 l1 d3] 27) = W at *
  refine (speaks_any _).mono ?_
  rintro e w1 ⟨rfl, hb1⟩
  have k1 := (hb1.block _ (heap_lt k0)).trans k0
  have q0 := cell_of_heap (i := 0) (v := .slice s0 m0 d0) k1 rfl
  have q1 := cell_of_heap (i := 1) (v := .slice s1 m1 d1) k1 rfl
  have q2 := cell_of_heap (i := 2) (v := .slice s2 l0 d2) k1 rfl
  have q3 := cell_of_heap (i := 3) (v := .slice s3 l1 d3) k1 rfl
  have HB1 := Bas.hid (Bas.on HB0.out hb1)
  clear hb1 k0 HB0
  go_wp2_with (fail)
  refine (HSM.out _).mono ?_
  rintro e w2 ⟨rfl, hb2⟩
  have k2 := (hb2.block _ (heap_lt k1)).trans k1
  have p0 := cell_of_heap (i := 0) (v := .slice s0 m0 d0) k2 rfl
  have p1 := cell_of_heap (i := 1) (v := .slice s1 m1 d1) k2 rfl
  have p2 := cell_of_heap (i := 2) (v := .slice s2 l0 d2) k2 rfl
  have p3 := cell_of_heap (i := 3) (v := .slice s3 l1 d3) k2 rfl
  have HB2 := Bas.hid (Bas.on HB1.out hb2)
  clear hb2 k1 HB1 q0 q1 q2 q3 HSM
  cases sm with
  | false =>
    clear HSI HIN' HRG HMB
    go_wp2_with (fail)
    go_ret
    exact ⟨rfl, HB2.out⟩
  | true =>
    obtain ⟨hm0b, hm1b⟩ := HMB.out rfl
    have HSP := Bas.hid (HSI.out.1 rfl)
    have HWR := Bas.hid fun w' (hb : Below w.heap.size w w') => twrite_any _ _ _ _ q w' HSP.out HRG.out (HIN'.out _ hb)
    have HWL := Bas.hid (writeT_len q HSP.out)
    have HHD := Bas.hid (writeT_head q HSP.out)
    have HBY := Bas.hid (writeT_byte q)
    clear HSI HIN' HRG HMB
    go_wp2_with (fail)
    refine (HWR.out _ HB2.out).mono ?_
    rintro e w3 ⟨v3, rfl, hown, hb3⟩
    have hwl := HWL.out
    have HOW := Bas.hid hown
    have k3 := (hb3.block _ (heap_lt k2)).trans k2
    have hs23 : w2.heap.size ≤ w3.heap.size := hb3.size
    have hgw : w.heap.size < w2.heap.size := heap_lt k2
    have HB3 := Bas.hid (Bas.on HB2.out hb3)
    obtain ⟨g, cg, rfl, hgc, hgm, hvg⟩ := written hown (by omega) HBY.out (by omega)
    have HRE := Bas.hid (tRead_any (some ⟨g, 0, none⟩) _ cg (writeT q) w3 hgc hgm hvg rfl (by omega))
    obtain ⟨hgl, cur, hgh, hcu⟩ : w2.heap.size ≤ g ∧ ∃ cur, w3.heap[g]? = some (.cells cur 5 (0, 0)) ∧ (writeT q).length ≤ cur.size := by
      obtain ⟨_, ⟨h, _⟩ | ⟨g', cp, cur, h, hb, hh, hn, _, hc, _⟩⟩ := hown
      · cases h
      · cases h; exact ⟨hb, cur, hh, by omega⟩
    obtain ⟨L, hL⟩ : ∃ L, (writeT q).length = L := ⟨_, rfl⟩
    have HL := Bas.hid hL
    rw [hL] at hgc hcu hwl HRE ⊢
    clear hown hb3 HOW hvg hgm p0 p1 p2 p3 HB2 k2 hL HWL
    go_wp2_with (fail)
    refine HRE.out.mono ?_
    rintro e w4 ⟨hb4, h⟩
    have k4 := (hb4.block _ (heap_lt k3)).trans k3
    have hgh4 := (hb4.block _ (heap_lt hgh)).trans hgh
    have hs34 : w3.heap.size ≤ w4.heap.size := hb4.size
    have HB4 := Bas.hid (Bas.on HB3.out hb4)
    have HTV := Bas.hid (fun t => tableAt_v _ HBY.out t)
    have hg3 : g < w3.heap.size := heap_lt hgh
    have p0 := cell_of_heap (i := 0) (v := .slice s0 m0 d0) k4 rfl
    have p1 := cell_of_heap (i := 1) (v := .slice s1 m1 d1) k4 rfl
    have p2 := cell_of_heap (i := 2) (v := .slice s2 l0 d2) k4 rfl
    have p3 := cell_of_heap (i := 3) (v := .slice s3 l1 d3) k4 rfl
    clear hb4 HRE HB3 k3 hgh
    obtain ⟨pt, ee, he, hpt⟩ : ∃ (pt : Option Addr) (ee : Int), e = .returned (.tuple #[.pointer pt, .int .i64 ee]) ∧ match tableAt (writeT q) with
      | none => pt = none ∧ ee = 2
      | some t => ∃ G, pt = some ⟨G, 0, none⟩ ∧ ee = 0 ∧ TabOk w4 w3.heap.size G t.1 t.2 := by
      cases htt : tableAt (writeT q) with
      | none => rw [htt] at h; exact ⟨_, _, h, rfl, rfl⟩
      | some t => rw [htt] at h; obtain ⟨G, he, hT⟩ := h; exact ⟨_, _, he, G, rfl, rfl, hT⟩
    subst he
    have HPT := Bas.hid hpt
    clear h hpt
    go_wp2_with (fail)
    refine (HWR.out _ HB4.out).mono ?_
    rintro e w5 ⟨v5, rfl, hown5, hb5⟩
    have k5 := (hb5.block _ (heap_lt k4)).trans k4
    have hgh5 := (hb5.block _ (heap_lt hgh4)).trans hgh4
    have HB5 := Bas.hid (Bas.on HB4.out hb5)
    have HPT5 := Bas.hid hb5
    obtain ⟨g5, cg5, rfl, hgc5, hgm5, hvg5⟩ := written hown5 (by have := HL.out; omega) HBY.out (by have := HL.out; omega)
    have HRR := Bas.hid (rread_ok (some ⟨g5, 0, none⟩) _ cg5 (writeT q) w5 hvg5 rfl (by have := HL.out; omega) HHD.out)
    clear hown5 hb5 hvg5 hgm5 hgc5 HWR p0 p1 p2 p3 k4 hgh4
    go_wp2_with (fail)
    refine HRR.out.mono ?_
    rintro e w6 ⟨hb6, a1, n1, c1, a2, n2, c2, a3, n3, c3, a4, n4, c4, rfl, hro⟩
    have k6 := (hb6.block _ (heap_lt k5)).trans k5
    have hgh6 := (hb6.block _ (heap_lt hgh5)).trans hgh5
    have HB6 := Bas.hid (Bas.on HB5.out hb6)
    have HPT6 := Bas.hid (Bas.on HPT5.out hb6)
    have HRO := Bas.hid hro
    have hs56 : w5.heap.size ≤ w6.heap.size := hb6.size
    have hg5s : g < w5.heap.size := heap_lt hgh5
    clear hb6 hro HRR k5 hgh5 HPT5 HB5
    cases hp : tableAt (writeT q) with
    | none =>
      rw [hp] at HPT
      obtain ⟨rfl, rfl⟩ := HPT.out
      have HB7 := Bas.hid (HB6.out.alloc HB6.out.size (.cells #[.slice a1 n1 c1, .slice a2 n2 c2, .slice a3 n3 c3, .slice a4 n4 c4] 40))
      clear HTV hp HRO HPT HPT6
      simp only [Option.isSome_none]
      go_wp2_with (fail)
      go_ret
      exact ⟨rfl, HB7.out⟩
    | some t =>
      rw [hp] at HPT
      obtain ⟨G, rfl, rfl, htab⟩ := HPT.out
      have HTV2 := Bas.hid (HTV.out t hp)
      have HT6 := Bas.hid (tab_below htab HPT6.out)
      have HO6 := Bas.hid (HRO.out t hp)
      clear HTV hp HRO HPT HPT6 htab
      simp only [Option.isSome_some]
      go_wp2_with (fail)
      have k7 := (Below.heap_alloc w6 (.cells #[.slice a1 n1 c1, .slice a2 n2 c2, .slice a3 n3 c3, .slice a4 n4 c4] 40) _ (heap_lt k6)).trans k6
      have hgh7 := (Below.heap_alloc w6 (.cells #[.slice a1 n1 c1, .slice a2 n2 c2, .slice a3 n3 c3, .slice a4 n4 c4] 40) _ (heap_lt hgh6)).trans hgh6
      have k10 := Bas.heap_new w6 (.cells #[.slice a1 n1 c1, .slice a2 n2 c2, .slice a3 n3 c3, .slice a4 n4 c4] 40)
      have HB7 := Bas.hid (HB6.out.alloc HB6.out.size (.cells #[.slice a1 n1 c1, .slice a2 n2 c2, .slice a3 n3 c3, .slice a4 n4 c4] 40))
      have HT7 := Bas.hid (tab_below HT6.out ((Below.refl _ _).alloc (Nat.le_refl _) (.cells #[.slice a1 n1 c1, .slice a2 n2 c2, .slice a3 n3 c3, .slice a4 n4 c4] 40)))
      have HO7 : Hid (TrkOwn (w6.alloc (.cells #[.slice a1 n1 c1, .slice a2 n2 c2, .slice a3 n3 c3, .slice a4 n4 c4] 40)) w5.heap.size (.slice a1 n1 c1) (.slice a2 n2 c2) t.1 ∧ TrkOwn (w6.alloc (.cells #[.slice a1 n1 c1, .slice a2 n2 c2, .slice a3 n3 c3, .slice a4 n4 c4] 40)) w5.heap.size (.slice a3 n3 c3) (.slice a4 n4 c4) t.2) := ⟨trk_below HO6.out.1 ((Below.refl _ _).alloc (Nat.le_refl _) _), trk_below HO6.out.2 ((Below.refl _ _).alloc (Nat.le_refl _) _)⟩
      have hg6 : g < w6.heap.size := heap_lt hgh6
      generalize w6.alloc (.cells #[.slice a1 n1 c1, .slice a2 n2 c2, .slice a3 n3 c3, .slice a4 n4 c4] 40) = W7 at *
      generalize w6.heap.size = T10 at *
      clear k6 hgh6 HB6 HT6 HO6
      go_loopw [50] (fun vi wr => ∃ i : Nat, i ≤ L ∧ vi = .int .i64 i ∧ Below w.heap.size w wr ∧ (∀ x, x ≠ g → wr.heap[x]? = W7.heap[x]?) ∧ wr.heap.size = W7.heap.size ∧ ∃ cur, wr.heap[g]? = some (.cells cur 5 (0, 0)) ∧ L ≤ cur.size) (fun vi _ => L - (intOf vi).toNat)
      case atStart => exact ⟨0, Nat.zero_le _, rfl, HB7.out, fun _ _ => rfl, rfl, cur, hgh7, hcu⟩
      case round =>
        obtain ⟨i, hi, rfl, hb, hoth, hsz, cur2, hgc2, hcu2⟩ := hrel
        have HBR := Bas.hid hb
        have HOTH := Bas.hid hoth
        have HSZE := Bas.hid hsz
        clear hb hoth hsz
        by_cases hil : i < L
        · have dil : decide ((i : Int) < (L : Int)) = true := by simp; omega
          have dil2 : decide (i < L) = true := by simp; omega
          obtain ⟨u, hu⟩ : ∃ u, cur2[i]? = some u := ⟨_, Array.getElem?_eq_getElem (by omega)⟩
          have cgi := cell_of_heap (i := i) (v := u) hgc2 hu
          have fgi := free_of_heap (i := i) hgc2
          clear hu k7 k10 hgh7
          go_wp2_with (fail)
          go_roundw
          case rel =>
            refine ⟨i + 1, by omega, by go_num, HBR.out.setCell (p := ⟨g, i, none⟩) (by show w.heap.size ≤ g; omega) _, fun x hx => (Below.heap_setCell _ _ _ _ hx).trans (HOTH.out x hx), by simp [World.setCell]; exact HSZE.out, _, heap_set (i := i) hgc2 _, by simp; omega⟩
          case measure => simp [intOf]; omega
        · have hil2 : i = L := by omega
          subst hil2
          go_wp2_with (fail)
          have kp : wr.heap[w.heap.size]? = some (.cells #[.slice s0 m0 d0, .slice s1 m1 d1, .slice s2 l0 d2, .slice s3 l1 d3] 27 (0, 0)) := (HOTH.out _ (by omega)).trans k7
          have kt : wr.heap[T10]? = some (.cells #[.slice a1 n1 c1, .slice a2 n2 c2, .slice a3 n3 c3, .slice a4 n4 c4] 40 (0, 0)) := (HOTH.out _ (by omega)).trans k10
          have HT8 := Bas.hid (tab_keep HT7.out (w' := wr) fun x hx _ => HOTH.out x (by omega))
          have HO8 : Hid (TrkOwn wr w5.heap.size (.slice a1 n1 c1) (.slice a2 n2 c2) t.1 ∧ TrkOwn wr w5.heap.size (.slice a3 n3 c3) (.slice a4 n4 c4) t.2) :=
            ⟨⟨own_lt HO7.out.1.1 fun x hx _ => HOTH.out x (by omega), own_lt HO7.out.1.2 fun x hx _ => HOTH.out x (by omega)⟩, own_lt HO7.out.2.1 fun x hx _ => HOTH.out x (by omega), own_lt HO7.out.2.2 fun x hx _ => HOTH.out x (by omega)⟩
          clear k7 k10 hgh7 HT7 HO7 HOTH HSZE HB7 hgc2 hcu2
          obtain ⟨W8, hW8⟩ : ∃ wo : World, wo = wr := ⟨_, rfl⟩
          rw [← hW8] at HBR kp kt HT8 HO8
          rw [← hW8]
          clear hW8
          have HBW := HBR
          have k10 := kt
          have HX := Bas.hid fun w' (hb : Below W8.heap.size W8 w') (d s : Int) (hd : -9223372036854775808 ≤ d ∧ d ≤ 9223372036854775807) (hs : -2147483648 ≤ s ∧ s ≤ 2147483647) => value_any t _ G d s w' (tab_below HT8.out hb) HTV2.out.1 HTV2.out.2 hs hd
          have HY := Bas.hid fun w' (hb : Below W8.heap.size W8 w') (d s : Int) (hd : -9223372036854775808 ≤ d ∧ d ≤ 9223372036854775807) (hs : -2147483648 ≤ s ∧ s ≤ 2147483647) => rvalue_any t (.slice a1 n1 c1) (.slice a2 n2 c2) (.slice a3 n3 c3) (.slice a4 n4 c4) _ d s w' (trk_below HO8.out.1 hb) (trk_below HO8.out.2 hb) HTV2.out.1 HTV2.out.2 hs hd
          have e0 := cell_of_heap (i := 0) (v := .slice s0 m0 d0) kp rfl
          have e1 := cell_of_heap (i := 1) (v := .slice s1 m1 d1) kp rfl
          have HB0 := Bas.hid (Below.refl W8.heap.size W8)
          go_wp2_with (fail)
          go_loopw [57] (fun vi wr => ∃ k : Int, (k = 0 ∨ k = 1 ∨ k = 2 ∨ k = 3) ∧ vi = .int .i64 k ∧ Below W8.heap.size W8 wr) (fun vi _ => 3 - (intOf vi).toNat)
          case atStart => exact ⟨0, .inl rfl, rfl, HB0.out⟩
          case round =>
            obtain ⟨k, hk, rfl, hb⟩ := hrel
            have HBR := Bas.hid hb
            have kT := (hb.block _ (heap_lt k10)).trans k10
            have x0 := (hb.cell (p := ⟨w.heap.size, 0, none⟩) (heap_lt kp)).trans e0
            have x1 := (hb.cell (p := ⟨w.heap.size, 1, none⟩) (heap_lt kp)).trans e1
            clear hb e0 e1 HT8 HO8
            rcases hk with rfl | rfl | rfl | rfl
            · clear kT
              go_wp2_with (fail)
              obtain ⟨wo, hwo⟩ : ∃ wo : World, wo = wr := ⟨_, rfl⟩
              rw [← hwo] at HBR
              rw [← hwo]
              clear hwo
              go_loopw [66] (fun vj wr => ∃ j : Nat, j ≤ m0 ∧ vj = .int .i64 j ∧ Below W8.heap.size W8 wr) (fun vj _ => m0 - (intOf vj).toNat)
              case atStart => exact ⟨0, Nat.zero_le _, rfl, HBR.out⟩
              case round =>
                obtain ⟨j, hj, rfl, hb⟩ := hrel
                have HBJ := Bas.hid hb
                clear hb HBR
                by_cases hjm : j < m0
                · have dj : decide ((j : Int) < (m0 : Int)) = true := by simp; omega
                  have dj2 : decide (j < m0) = true := by simp; omega
                  obtain ⟨s, hs⟩ : ∃ s, q.s0[j]? = some s := ⟨_, List.getElem?_eq_getElem (by rw [HM0.out]; exact hjm)⟩
                  obtain ⟨B, O, cp, hv0, hcl⟩ := Row.leads_elem wI32_len HPS0.out hs (by omega)
                  cases hv0
                  have hsb : -2147483648 ≤ s ∧ s ≤ 2147483647 := HR0.out s (List.mem_of_getElem? hs)
                  have hc0 := hcl 0 _ rfl
                  simp only [Nat.mul_one, Nat.add_zero] at hc0
                  have hce := ((HBW.out.trans (HBJ.out.mono HBW.out.size)).cell (p := ⟨B, O + j, none⟩) (World.block_lt_of_cell? _ _ hc0)).trans hc0
                  have HSB := Bas.hid hsb
                  obtain ⟨rv, hrv⟩ : ∃ rv, valueV t 0 s = rv := ⟨_, rfl⟩
                  have HXR : Hid (∀ w', Below W8.heap.size W8 w' → Calls Try.prog 19 #[.pointer (some ⟨G, 0, none⟩), .int .i64 0, .int .i32 s] w' fun e w'' => e = .returned (.int .i64 rv) ∧ Below w'.heap.size w' w'') := fun w' hb => hrv ▸ HX.out w' hb 0 s (by omega) HSB.out
                  have HYR : Hid (∀ w', Below W8.heap.size W8 w' → Calls Try.prog 20 #[.agg #[.slice a1 n1 c1, .slice a2 n2 c2, .slice a3 n3 c3, .slice a4 n4 c4], .int .i64 0, .int .i64 s] w' fun e w'' => e = .returned (.int .i64 rv) ∧ Below w'.heap.size w' w'') := fun w' hb => hrv ▸ HY.out w' hb 0 s (by omega) HSB.out
                  obtain ⟨hsb0, hsb1⟩ := hsb
                  have kT := (HBJ.out.block _ (heap_lt k10)).trans k10
                  clear hs hcl hc0 hrv
                  go_wp2_with (fail)
                  clear hce
                  refine' Pl.region_v1 92 [] [0, 1, 2, 4, 5, 6, 7] 3 73 [8, 9] _ (fun v u' => v = .int .i64 rv) (by kernel_rfl) (by kernel_rfl) (by simp) (fun _ _ _ _ e h => ⟨e ▸ h.1, h.2⟩) ?_ ?_ ?_ ?_
                  rotate_left
                  · intro I F hI hF
                    simp only [Pl.selN, List.nil_append, List.drop_succ_cons, List.drop_zero]
                    have y0 := fun q => hF.cell (heap_lt kT) (cell_of_heap (i := 0) (v := .slice a1 n1 c1) kT rfl) q
                    have y1 := fun q => hF.cell (heap_lt kT) (cell_of_heap (i := 1) (v := .slice a2 n2 c2) kT rfl) q
                    have y2 := fun q => hF.cell (heap_lt kT) (cell_of_heap (i := 2) (v := .slice a3 n3 c3) kT rfl) q
                    have y3 := fun q => hF.cell (heap_lt kT) (cell_of_heap (i := 3) (v := .slice a4 n4 c4) kT rfl) q
                    repeat (go_big_quiet_step (fail))
                    refine wpQuiet_nil ?_
                    rfl
                  · exact fun _ _ _ h _ _ => h
                  · simp only [Pl.selN, List.drop_succ_cons, List.drop_zero, List.mem_singleton, forall_eq]
                    intro u' hu
                    go_simp
                    simp only [Pl.valsAt]
                    refine (HXR.out u' (Bas.on HBJ.out hu)).mono ?_
                    rintro e w'' ⟨rfl, hb⟩
                    exact .inl ⟨_, rfl, hb, rfl⟩
                  intro v u2 hu hv
                  subst hv
                  simp only [Pl.selN, List.drop_succ_cons, List.drop_zero, Act.put, List.setIfInBounds_toArray, List.set_cons_zero, List.set_cons_succ]
                  have HBU := Bas.hid (Bas.on HBJ.out hu)
                  clear hu kT
                  go_wp2_with (fail)
                  refine (HYR.out _ HBU.out).mono ?_
                  rintro e u3 ⟨rfl, hb3⟩
                  have HBV := Bas.hid (Bas.on HBU.out hb3)
                  clear hb3 HBU
                  go_wp2_with (fail)

                  go_roundw
                  case rel => exact ⟨j + 1, by omega, by go_num, HBV.out⟩
                  case measure => simp [intOf]; omega
                · have hjm2 : j = m0 := by omega
                  subst hjm2
                  go_wp2_with (fail)
                  go_roundw
                  case rel => exact ⟨1, by omega, by go_num, HBJ.out⟩
                  case measure => simp [intOf]

            · clear kT
              go_wp2_with (fail)
              obtain ⟨wo, hwo⟩ : ∃ wo : World, wo = wr := ⟨_, rfl⟩
              rw [← hwo] at HBR
              rw [← hwo]
              clear hwo
              go_loopw [66] (fun vj wr => ∃ j : Nat, j ≤ m0 ∧ vj = .int .i64 j ∧ Below W8.heap.size W8 wr) (fun vj _ => m0 - (intOf vj).toNat)
              case atStart => exact ⟨0, Nat.zero_le _, rfl, HBR.out⟩
              case round =>
                obtain ⟨j, hj, rfl, hb⟩ := hrel
                have HBJ := Bas.hid hb
                clear hb HBR
                by_cases hjm : j < m0
                · have dj : decide ((j : Int) < (m0 : Int)) = true := by simp; omega
                  have dj2 : decide (j < m0) = true := by simp; omega
                  obtain ⟨s, hs⟩ : ∃ s, q.s0[j]? = some s := ⟨_, List.getElem?_eq_getElem (by rw [HM0.out]; exact hjm)⟩
                  obtain ⟨B, O, cp, hv0, hcl⟩ := Row.leads_elem wI32_len HPS0.out hs (by omega)
                  cases hv0
                  have hsb : -2147483648 ≤ s ∧ s ≤ 2147483647 := HR0.out s (List.mem_of_getElem? hs)
                  have hc0 := hcl 0 _ rfl
                  simp only [Nat.mul_one, Nat.add_zero] at hc0
                  have hce := ((HBW.out.trans (HBJ.out.mono HBW.out.size)).cell (p := ⟨B, O + j, none⟩) (World.block_lt_of_cell? _ _ hc0)).trans hc0
                  have HSB := Bas.hid hsb
                  obtain ⟨rv, hrv⟩ : ∃ rv, valueV t 1 s = rv := ⟨_, rfl⟩
                  have HXR : Hid (∀ w', Below W8.heap.size W8 w' → Calls Try.prog 19 #[.pointer (some ⟨G, 0, none⟩), .int .i64 1, .int .i32 s] w' fun e w'' => e = .returned (.int .i64 rv) ∧ Below w'.heap.size w' w'') := fun w' hb => hrv ▸ HX.out w' hb 1 s (by omega) HSB.out
                  have HYR : Hid (∀ w', Below W8.heap.size W8 w' → Calls Try.prog 20 #[.agg #[.slice a1 n1 c1, .slice a2 n2 c2, .slice a3 n3 c3, .slice a4 n4 c4], .int .i64 1, .int .i64 s] w' fun e w'' => e = .returned (.int .i64 rv) ∧ Below w'.heap.size w' w'') := fun w' hb => hrv ▸ HY.out w' hb 1 s (by omega) HSB.out
                  obtain ⟨hsb0, hsb1⟩ := hsb
                  have kT := (HBJ.out.block _ (heap_lt k10)).trans k10
                  clear hs hcl hc0 hrv
                  go_wp2_with (fail)
                  clear hce
                  refine' Pl.region_v1 92 [] [0, 1, 2, 4, 5, 6, 7] 3 73 [8, 9] _ (fun v u' => v = .int .i64 rv) (by kernel_rfl) (by kernel_rfl) (by simp) (fun _ _ _ _ e h => ⟨e ▸ h.1, h.2⟩) ?_ ?_ ?_ ?_
                  rotate_left
                  · intro I F hI hF
                    simp only [Pl.selN, List.nil_append, List.drop_succ_cons, List.drop_zero]
                    have y0 := fun q => hF.cell (heap_lt kT) (cell_of_heap (i := 0) (v := .slice a1 n1 c1) kT rfl) q
                    have y1 := fun q => hF.cell (heap_lt kT) (cell_of_heap (i := 1) (v := .slice a2 n2 c2) kT rfl) q
                    have y2 := fun q => hF.cell (heap_lt kT) (cell_of_heap (i := 2) (v := .slice a3 n3 c3) kT rfl) q
                    have y3 := fun q => hF.cell (heap_lt kT) (cell_of_heap (i := 3) (v := .slice a4 n4 c4) kT rfl) q
                    repeat (go_big_quiet_step (fail))
                    refine wpQuiet_nil ?_
                    rfl
                  · exact fun _ _ _ h _ _ => h
                  · simp only [Pl.selN, List.drop_succ_cons, List.drop_zero, List.mem_singleton, forall_eq]
                    intro u' hu
                    go_simp
                    simp only [Pl.valsAt]
                    refine (HXR.out u' (Bas.on HBJ.out hu)).mono ?_
                    rintro e w'' ⟨rfl, hb⟩
                    exact .inl ⟨_, rfl, hb, rfl⟩
                  intro v u2 hu hv
                  subst hv
                  simp only [Pl.selN, List.drop_succ_cons, List.drop_zero, Act.put, List.setIfInBounds_toArray, List.set_cons_zero, List.set_cons_succ]
                  have HBU := Bas.hid (Bas.on HBJ.out hu)
                  clear hu kT
                  go_wp2_with (fail)
                  refine (HYR.out _ HBU.out).mono ?_
                  rintro e u3 ⟨rfl, hb3⟩
                  have HBV := Bas.hid (Bas.on HBU.out hb3)
                  clear hb3 HBU
                  go_wp2_with (fail)

                  go_roundw
                  case rel => exact ⟨j + 1, by omega, by go_num, HBV.out⟩
                  case measure => simp [intOf]; omega
                · have hjm2 : j = m0 := by omega
                  subst hjm2
                  go_wp2_with (fail)
                  go_roundw
                  case rel => exact ⟨2, by omega, by go_num, HBJ.out⟩
                  case measure => simp [intOf]

            · clear kT
              go_wp2_with (fail)
              obtain ⟨wo, hwo⟩ : ∃ wo : World, wo = wr := ⟨_, rfl⟩
              rw [← hwo] at HBR
              rw [← hwo]
              clear hwo
              go_loopw [66] (fun vj wr => ∃ j : Nat, j ≤ m1 ∧ vj = .int .i64 j ∧ Below W8.heap.size W8 wr) (fun vj _ => m1 - (intOf vj).toNat)
              case atStart => exact ⟨0, Nat.zero_le _, rfl, HBR.out⟩
              case round =>
                obtain ⟨j, hj, rfl, hb⟩ := hrel
                have HBJ := Bas.hid hb
                clear hb HBR
                by_cases hjm : j < m1
                · have dj : decide ((j : Int) < (m1 : Int)) = true := by simp; omega
                  have dj2 : decide (j < m1) = true := by simp; omega
                  obtain ⟨s, hs⟩ : ∃ s, q.s1[j]? = some s := ⟨_, List.getElem?_eq_getElem (by rw [HM1.out]; exact hjm)⟩
                  obtain ⟨B, O, cp, hv0, hcl⟩ := Row.leads_elem wI32_len HPS1.out hs (by omega)
                  cases hv0
                  have hsb : -2147483648 ≤ s ∧ s ≤ 2147483647 := HR1.out s (List.mem_of_getElem? hs)
                  have hc0 := hcl 0 _ rfl
                  simp only [Nat.mul_one, Nat.add_zero] at hc0
                  have hce := ((HBW.out.trans (HBJ.out.mono HBW.out.size)).cell (p := ⟨B, O + j, none⟩) (World.block_lt_of_cell? _ _ hc0)).trans hc0
                  have HSB := Bas.hid hsb
                  obtain ⟨rv, hrv⟩ : ∃ rv, valueV t 2 s = rv := ⟨_, rfl⟩
                  have HXR : Hid (∀ w', Below W8.heap.size W8 w' → Calls Try.prog 19 #[.pointer (some ⟨G, 0, none⟩), .int .i64 2, .int .i32 s] w' fun e w'' => e = .returned (.int .i64 rv) ∧ Below w'.heap.size w' w'') := fun w' hb => hrv ▸ HX.out w' hb 2 s (by omega) HSB.out
                  have HYR : Hid (∀ w', Below W8.heap.size W8 w' → Calls Try.prog 20 #[.agg #[.slice a1 n1 c1, .slice a2 n2 c2, .slice a3 n3 c3, .slice a4 n4 c4], .int .i64 2, .int .i64 s] w' fun e w'' => e = .returned (.int .i64 rv) ∧ Below w'.heap.size w' w'') := fun w' hb => hrv ▸ HY.out w' hb 2 s (by omega) HSB.out
                  obtain ⟨hsb0, hsb1⟩ := hsb
                  have kT := (HBJ.out.block _ (heap_lt k10)).trans k10
                  clear hs hcl hc0 hrv
                  go_wp2_with (fail)
                  clear hce
                  refine' Pl.region_v1 92 [] [0, 1, 2, 4, 5, 6, 7] 3 73 [8, 9] _ (fun v u' => v = .int .i64 rv) (by kernel_rfl) (by kernel_rfl) (by simp) (fun _ _ _ _ e h => ⟨e ▸ h.1, h.2⟩) ?_ ?_ ?_ ?_
                  rotate_left
                  · intro I F hI hF
                    simp only [Pl.selN, List.nil_append, List.drop_succ_cons, List.drop_zero]
                    have y0 := fun q => hF.cell (heap_lt kT) (cell_of_heap (i := 0) (v := .slice a1 n1 c1) kT rfl) q
                    have y1 := fun q => hF.cell (heap_lt kT) (cell_of_heap (i := 1) (v := .slice a2 n2 c2) kT rfl) q
                    have y2 := fun q => hF.cell (heap_lt kT) (cell_of_heap (i := 2) (v := .slice a3 n3 c3) kT rfl) q
                    have y3 := fun q => hF.cell (heap_lt kT) (cell_of_heap (i := 3) (v := .slice a4 n4 c4) kT rfl) q
                    repeat (go_big_quiet_step (fail))
                    refine wpQuiet_nil ?_
                    rfl
                  · exact fun _ _ _ h _ _ => h
                  · simp only [Pl.selN, List.drop_succ_cons, List.drop_zero, List.mem_singleton, forall_eq]
                    intro u' hu
                    go_simp
                    simp only [Pl.valsAt]
                    refine (HXR.out u' (Bas.on HBJ.out hu)).mono ?_
                    rintro e w'' ⟨rfl, hb⟩
                    exact .inl ⟨_, rfl, hb, rfl⟩
                  intro v u2 hu hv
                  subst hv
                  simp only [Pl.selN, List.drop_succ_cons, List.drop_zero, Act.put, List.setIfInBounds_toArray, List.set_cons_zero, List.set_cons_succ]
                  have HBU := Bas.hid (Bas.on HBJ.out hu)
                  clear hu kT
                  go_wp2_with (fail)
                  refine (HYR.out _ HBU.out).mono ?_
                  rintro e u3 ⟨rfl, hb3⟩
                  have HBV := Bas.hid (Bas.on HBU.out hb3)
                  clear hb3 HBU
                  go_wp2_with (fail)

                  go_roundw
                  case rel => exact ⟨j + 1, by omega, by go_num, HBV.out⟩
                  case measure => simp [intOf]; omega
                · have hjm2 : j = m1 := by omega
                  subst hjm2
                  go_wp2_with (fail)
                  go_roundw
                  case rel => exact ⟨3, by omega, by go_num, HBJ.out⟩
                  case measure => simp [intOf]

            · go_wp2_with (fail)
              obtain ⟨rv, hrv⟩ : ∃ rv, valueV t direction size = rv := ⟨_, rfl⟩
              have HXR : Hid (∀ w', Below W8.heap.size W8 w' → Calls Try.prog 19 #[.pointer (some ⟨G, 0, none⟩), .int .i64 direction, .int .i32 size] w' fun e w'' => e = .returned (.int .i64 rv) ∧ Below w'.heap.size w' w'') := fun w' hb => hrv ▸ HX.out w' hb direction size HDB.out HSZ.out
              have HYR : Hid (∀ w', Below W8.heap.size W8 w' → Calls Try.prog 20 #[.agg #[.slice a1 n1 c1, .slice a2 n2 c2, .slice a3 n3 c3, .slice a4 n4 c4], .int .i64 direction, .int .i64 size] w' fun e w'' => e = .returned (.int .i64 rv) ∧ Below w'.heap.size w' w'') := fun w' hb => hrv ▸ HY.out w' hb direction size HDB.out HSZ.out
              clear hrv
              have hsz := HSZ.out
              obtain ⟨hsz0, hsz1⟩ := hsz
              refine' Pl.region_v1 92 [] [0, 1, 2, 4, 5, 6, 7] 3 85 [8, 9, 10] _ (fun v u' => v = .int .i64 rv) (by kernel_rfl) (by kernel_rfl) (by simp) (fun _ _ _ _ e h => ⟨e ▸ h.1, h.2⟩) ?_ ?_ ?_ ?_
              rotate_left
              · intro I F hI hF
                simp only [Pl.selN, List.nil_append, List.drop_succ_cons, List.drop_zero]
                have y0 := fun q => hF.cell (heap_lt kT) (cell_of_heap (i := 0) (v := .slice a1 n1 c1) kT rfl) q
                have y1 := fun q => hF.cell (heap_lt kT) (cell_of_heap (i := 1) (v := .slice a2 n2 c2) kT rfl) q
                have y2 := fun q => hF.cell (heap_lt kT) (cell_of_heap (i := 2) (v := .slice a3 n3 c3) kT rfl) q
                have y3 := fun q => hF.cell (heap_lt kT) (cell_of_heap (i := 3) (v := .slice a4 n4 c4) kT rfl) q
                repeat (go_big_quiet_step (fail))
                refine wpQuiet_nil ?_
                rfl
              · exact fun _ _ _ h _ _ => h
              · simp only [Pl.selN, List.drop_succ_cons, List.drop_zero, List.mem_singleton, forall_eq]
                intro u' hu
                go_simp
                simp only [Pl.valsAt]
                refine (HXR.out u' (Bas.on HBR.out hu)).mono ?_
                rintro e w'' ⟨rfl, hb⟩
                exact .inl ⟨_, rfl, hb, rfl⟩
              intro v u2 hu hv
              subst hv
              simp only [Pl.selN, List.drop_succ_cons, List.drop_zero, Act.put, List.setIfInBounds_toArray, List.set_cons_zero, List.set_cons_succ]
              have HBU := Bas.hid (Bas.on HBR.out hu)
              clear hu kT
              go_wp2_with (fail)
              refine (HYR.out _ HBU.out).mono ?_
              rintro e u3 ⟨rfl, hb3⟩
              have HBV := Bas.hid (Bas.on HBU.out hb3)
              clear hb3 HBU
              go_wp2_with (fail)

              go_ret
              exact ⟨rfl, HBW.out.trans (HBV.out.mono HBW.out.size)⟩

set_option maxRecDepth 100000 in
theorem trakValues_law {H : Type} {enc : TypeId × Value → H} (v : Value) (d : DataW H) (p : List MemPlace) (direction size : Int) (W : World) {base : Nat} (hv : Value.okWide Try.prog W .any base 27 v) (ht : DataW.Trod enc Try.prog W 0 (fun _ => true) true 27 v d p) (hd : (Lit.int .i64 direction).wf = true) (hsz : (Lit.int .i32 size).wf = true) :
    Calls Try.prog 3 #[v, .int .i64 direction, .int .i32 size] W fun e w' => e = .returned (.bool true) ∧ Below W.heap.size W w' := by
  obtain ⟨sa, sb, ta, tb, q, rfl, hin, hrg⟩ := open_plan v d p W hv ht
  exact trakValues_walk sa sb ta tb q direction size W hin hrg (Bas.wf_i64 hd) (Bas.wf_i32 hsz)

end Tk
end Go.Proofs.Ytfocjagkhoonmaa
