/- The walk of the law TrakDirections. -/
import Derived.Test.YtfocjagkhoonmaaTrakOpen
namespace Go.Proofs.Ytfocjagkhoonmaa
open Go.RowKit Go.ChangeShapes Go.WideShapes Go.ChangeAt
namespace Tk
open Vw

theorem atV_nil (s : Int) : atV ⟨[], []⟩ s = 0 := rfl
theorem valueV_nil (d s : Int) : valueV (⟨[], []⟩, ⟨[], []⟩) d s = 0 := by
  unfold valueV; simp only [atV_nil, ite_self]
theorem valueV_lr (t : TrackD × TrackD) (s : Int) : valueV t 1 s = valueV t 0 s := by
  unfold valueV; simp
theorem valueV_no (t : TrackD × TrackD) (d s : Int) (h : ¬ (0 ≤ d ∧ d ≤ 2)) : valueV t d s = 0 := by
  unfold valueV; rw [if_neg (by omega), if_neg (by omega)]

set_option maxRecDepth 100000 in
set_option maxHeartbeats 16000000 in
theorem trakDirections_walk (sa sb ta tb : Value) (p : WPlanT) (direction size : Int) (w : World) (hin : PPlan w sa sb ta tb p) (hrg : rgPlan p) (hd : -9223372036854775808 ≤ direction ∧ direction ≤ 9223372036854775807) (hsz : -2147483648 ≤ size ∧ size ≤ 2147483647) :
    Calls Try.prog 5 #[.agg #[sa, sb, ta, tb], .int .i64 direction, .int .i32 size] w fun e w' => e = .returned (.bool true) ∧ Below w.heap.size w w' := by
  have HIN := Bas.hid hin
  have HRG := Bas.hid hrg
  have HDB := Bas.hid hd
  have HSZ := Bas.hid hsz
  obtain ⟨hs0, hs1, ⟨rs0, hrl0, hlead0, hel0⟩, ⟨rs1, hrl1, hlead1, hel1⟩⟩ := hin
  obtain ⟨a0, c0, rfl⟩ := Row.leads_slice hs0
  obtain ⟨a1, c1, rfl⟩ := Row.leads_slice hs1
  obtain ⟨a2, c2, rfl⟩ := Row.leads_slice hlead0
  obtain ⟨a3, c3, rfl⟩ := Row.leads_slice hlead1
  have HSI := Bas.hid (smallB_iff p)
  have HIN' : Hid (∀ w', Below w.heap.size w w' → PPlan w' (.slice a0 p.s0.length c0) (.slice a1 p.s1.length c1) (.slice a2 p.t0.length c2) (.slice a3 p.t1.length c3) p) := fun w' hb => HIN.out.below hb
  clear hs0 hs1 hrl0 hlead0 hel0 hrl1 hlead1 hel1 hrg hd hsz HIN
  obtain ⟨m0, hm0⟩ : ∃ n, p.s0.length = n := ⟨_, rfl⟩
  obtain ⟨m1, hm1⟩ : ∃ n, p.s1.length = n := ⟨_, rfl⟩
  obtain ⟨n0, hn0⟩ : ∃ n, p.t0.length = n := ⟨_, rfl⟩
  obtain ⟨n1, hn1⟩ : ∃ n, p.t1.length = n := ⟨_, rfl⟩
  rw [hm0, hm1, hn0, hn1] at HSI HIN' ⊢
  clear hm0 hm1 hn0 hn1
  have HSM := Bas.hid fun w' => small_any a0 a1 a2 a3 m0 m1 n0 n1 c0 c1 c2 c3 w'
  generalize smallB m0 n0 m1 n1 = sm at *
  go_enter Try.func5, Try.ntmps5
  go_wp2_with (fail)
  have k0 := Bas.heap_new w (.cells #[.slice a0 m0 c0, .slice a1 m1 c1, .slice a2 n0 c2, .slice a3 n1 c3] 27)
  have HB0 := Bas.hid ((Below.refl w.heap.size w).alloc (Nat.le_refl _) (.cells #[.slice a0 m0 c0, .slice a1 m1 c1, .slice a2 n0 c2, .slice a3 n1 c3] 27))
  generalize w.alloc (.cells #[.slice a0 m0 c0, .slice a1 m1 c1, .slice a2 n0 c2, .slice a3 n1 c3] 27) = W at *
  refine (speaks_any _).mono ?_
  rintro e w1 ⟨rfl, hb1⟩
  have k1 := (hb1.block _ (heap_lt k0)).trans k0
  have q0 := cell_of_heap (i := 0) (v := .slice a0 m0 c0) k1 rfl
  have q1 := cell_of_heap (i := 1) (v := .slice a1 m1 c1) k1 rfl
  have q2 := cell_of_heap (i := 2) (v := .slice a2 n0 c2) k1 rfl
  have q3 := cell_of_heap (i := 3) (v := .slice a3 n1 c3) k1 rfl
  have HB1 := Bas.hid (Bas.on HB0.out hb1)
  clear hb1 k0 HB0
  go_wp2_with (fail)
  refine (HSM.out _).mono ?_
  rintro e w2 ⟨rfl, hb2⟩
  have k2 := (hb2.block _ (heap_lt k1)).trans k1
  have p0 := cell_of_heap (i := 0) (v := .slice a0 m0 c0) k2 rfl
  have p1 := cell_of_heap (i := 1) (v := .slice a1 m1 c1) k2 rfl
  have p2 := cell_of_heap (i := 2) (v := .slice a2 n0 c2) k2 rfl
  have p3 := cell_of_heap (i := 3) (v := .slice a3 n1 c3) k2 rfl
  have HB2 := Bas.hid (Bas.on HB1.out hb2)
  clear hb2 k1 HB1 q0 q1 q2 q3 HSM
  cases sm with
  | false =>
    clear HSI HIN' HRG
    go_wp2_with (fail)
    go_ret
    exact ⟨rfl, HB2.out⟩
  | true =>
    have HSP := Bas.hid (HSI.out.1 rfl)
    have HWR := Bas.hid (twrite_any _ _ _ _ p w2 HSP.out HRG.out (HIN'.out _ HB2.out))
    have HWL := Bas.hid (writeT_len p HSP.out)
    clear HSI HIN' HRG k2
    go_wp2_with (fail)
    refine HWR.out.mono ?_
    rintro e w3 ⟨v3, rfl, hown, hb3⟩
    have hwl := HWL.out
    obtain ⟨g, cg, rfl, hgc, hgm, hvg⟩ := written hown (by omega) (writeT_byte p) (by omega)
    have HB3 := Bas.hid (Bas.on HB2.out hb3)
    have HRE := Bas.hid (tRead_any (some ⟨g, 0, none⟩) _ cg (writeT p) w3 hgc hgm hvg rfl (by omega))
    clear hown hb3 HWR HWL hvg hgc hgm hwl HSP p0 p1 p2 p3 HB2
    go_wp2_with (fail)
    refine HRE.out.mono ?_
    rintro e w4 ⟨hb4, h⟩
    have HB4' := Bas.hid (Bas.on HB3.out hb4)
    have HTV := Bas.hid (fun t => tableAt_v _ (writeT_byte p) t)
    clear hb4 HRE HB3
    cases hp : tableAt (writeT p) with
    | none =>
      rw [hp] at h
      subst h
      clear HTV hp
      go_wp2_with (fail)
      go_ret
      exact ⟨rfl, HB4'.out⟩
    | some t =>
      rw [hp] at h
      obtain ⟨G, rfl, htab⟩ := h
      have HTV2 := Bas.hid (HTV.out t hp)
      have HTAB := Bas.hid htab
      clear HTV hp htab
      by_cases h1 : 0 ≤ direction
      · by_cases h2 : direction ≤ 2
        · have d1 : decide (0 ≤ direction) = true := by simp; omega
          have d2 : decide (direction ≤ 2) = true := by simp; omega
          clear h1 h2
          go_wp2_with (fail)
          have kz := Bas.heap_new w4 (.cells #[.slice none 0 0, .slice none 0 0, .slice none 0 0, .slice none 0 0] 54)
          have HTA : Hid (TabOk (w4.alloc (.cells #[.slice none 0 0, .slice none 0 0, .slice none 0 0, .slice none 0 0] 54)) w3.heap.size G t.1 t.2) := tab_below HTAB.out ((Below.refl _ _).alloc (Nat.le_refl _) _)
          have HTZ : Hid (TabOk (w4.alloc (.cells #[.slice none 0 0, .slice none 0 0, .slice none 0 0, .slice none 0 0] 54)) w4.heap.size w4.heap.size ⟨[], []⟩ ⟨[], []⟩) :=
            ⟨Nat.le_refl _, _, _, _, _, kz, ⟨Row.owned_nil _ _ _ _, Row.owned_nil _ _ _ _⟩, Row.owned_nil _ _ _ _, Row.owned_nil _ _ _ _⟩
          have HB4 := Bas.hid (HB4'.out.alloc HB4'.out.size (.cells #[.slice none 0 0, .slice none 0 0, .slice none 0 0, .slice none 0 0] 54))
          clear kz HB4' HTAB
          generalize w4.alloc (.cells #[.slice none 0 0, .slice none 0 0, .slice none 0 0, .slice none 0 0] 54) = W4 at *
          generalize w4.heap.size = T at *
          have HX := Bas.hid fun w' (hb : Below W4.heap.size W4 w') (d : Int) (hd : -9223372036854775808 ≤ d ∧ d ≤ 9223372036854775807) => value_any t _ G d size w' (tab_below HTA.out hb) HTV2.out.1 HTV2.out.2 HSZ.out hd
          have HZ0 : Hid (∀ w', Below W4.heap.size W4 w' → Calls Try.prog 19 #[.pointer (some ⟨T, 0, none⟩), .int .i64 direction, .int .i32 size] w' fun e w'' => e = .returned (.int .i64 0) ∧ Below w'.heap.size w' w'') := fun w' hb => by
            have := value_any (⟨[], []⟩, ⟨[], []⟩) _ T direction size w' (tab_below HTZ.out hb) trkV_nil trkV_nil HSZ.out HDB.out
            rwa [valueV_nil] at this
          clear HTA HTZ HTV2
          obtain ⟨r0, hr0⟩ : ∃ r, valueV t 0 size = r := ⟨_, rfl⟩
          have HR0 := Bas.hid hr0
          have HR1 := Bas.hid ((valueV_lr t size).trans hr0)
          have HX1 := Bas.hid (HR0.out ▸ HX.out _ (Below.refl _ _) 0 (by omega))
          clear hr0
          go_wp2_with (fail)
          refine HX1.out.mono ?_
          rintro e w5 ⟨rfl, hb5⟩
          have HB5 := Bas.hid hb5
          have HX2 := Bas.hid (HR1.out ▸ HX.out _ HB5.out 1 (by omega))
          clear hb5 HX1
          go_wp2_with (fail)
          refine HX2.out.mono ?_
          rintro e w6 ⟨rfl, hb6⟩
          have HB6 := Bas.hid (Bas.on HB5.out hb6)
          clear hb6 HX2 HB5
          have HZ := Bas.hid (HZ0.out _ HB6.out)
          go_wp2_with (fail)
          refine HZ.out.mono ?_
          rintro e w8 ⟨rfl, hb8⟩
          have HB8 := Bas.hid (HB4.out.trans ((Bas.on HB6.out hb8).mono HB4.out.size))
          clear hb8 HZ HX HZ0 HB6
          go_wp2_with (fail)
          go_ret
          exact ⟨rfl, HB8.out⟩

        · have d1 : decide (0 ≤ direction) = true := by simp; omega
          have d2 : decide (direction ≤ 2) = false := by simp; omega
          have HRD := Bas.hid (valueV_no t direction size (by omega))
          clear h1 h2
          go_wp2_with (fail)
          have kz := Bas.heap_new w4 (.cells #[.slice none 0 0, .slice none 0 0, .slice none 0 0, .slice none 0 0] 54)
          have HTA : Hid (TabOk (w4.alloc (.cells #[.slice none 0 0, .slice none 0 0, .slice none 0 0, .slice none 0 0] 54)) w3.heap.size G t.1 t.2) := tab_below HTAB.out ((Below.refl _ _).alloc (Nat.le_refl _) _)
          have HTZ : Hid (TabOk (w4.alloc (.cells #[.slice none 0 0, .slice none 0 0, .slice none 0 0, .slice none 0 0] 54)) w4.heap.size w4.heap.size ⟨[], []⟩ ⟨[], []⟩) :=
            ⟨Nat.le_refl _, _, _, _, _, kz, ⟨Row.owned_nil _ _ _ _, Row.owned_nil _ _ _ _⟩, Row.owned_nil _ _ _ _, Row.owned_nil _ _ _ _⟩
          have HB4 := Bas.hid (HB4'.out.alloc HB4'.out.size (.cells #[.slice none 0 0, .slice none 0 0, .slice none 0 0, .slice none 0 0] 54))
          clear kz HB4' HTAB
          generalize w4.alloc (.cells #[.slice none 0 0, .slice none 0 0, .slice none 0 0, .slice none 0 0] 54) = W4 at *
          generalize w4.heap.size = T at *
          have HX := Bas.hid fun w' (hb : Below W4.heap.size W4 w') (d : Int) (hd : -9223372036854775808 ≤ d ∧ d ≤ 9223372036854775807) => value_any t _ G d size w' (tab_below HTA.out hb) HTV2.out.1 HTV2.out.2 HSZ.out hd
          have HZ0 : Hid (∀ w', Below W4.heap.size W4 w' → Calls Try.prog 19 #[.pointer (some ⟨T, 0, none⟩), .int .i64 direction, .int .i32 size] w' fun e w'' => e = .returned (.int .i64 0) ∧ Below w'.heap.size w' w'') := fun w' hb => by
            have := value_any (⟨[], []⟩, ⟨[], []⟩) _ T direction size w' (tab_below HTZ.out hb) trkV_nil trkV_nil HSZ.out HDB.out
            rwa [valueV_nil] at this
          clear HTA HTZ HTV2
          obtain ⟨r0, hr0⟩ : ∃ r, valueV t 0 size = r := ⟨_, rfl⟩
          have HR0 := Bas.hid hr0
          have HR1 := Bas.hid ((valueV_lr t size).trans hr0)
          have HX1 := Bas.hid (HR0.out ▸ HX.out _ (Below.refl _ _) 0 (by omega))
          clear hr0
          go_wp2_with (fail)
          refine HX1.out.mono ?_
          rintro e w5 ⟨rfl, hb5⟩
          have HB5 := Bas.hid hb5
          have HX2 := Bas.hid (HR1.out ▸ HX.out _ HB5.out 1 (by omega))
          clear hb5 HX1
          go_wp2_with (fail)
          refine HX2.out.mono ?_
          rintro e w6 ⟨rfl, hb6⟩
          have HB6 := Bas.hid (Bas.on HB5.out hb6)
          clear hb6 HX2 HB5
          have HX3 := Bas.hid (HRD.out ▸ HX.out _ HB6.out direction HDB.out)
          go_wp2_with (fail)
          refine HX3.out.mono ?_
          rintro e w7 ⟨rfl, hb7⟩
          have HB7 := Bas.hid (Bas.on HB6.out hb7)
          have HZ := Bas.hid (HZ0.out _ HB7.out)
          clear hb7 HX3 HB6
          go_wp2_with (fail)
          refine HZ.out.mono ?_
          rintro e w8 ⟨rfl, hb8⟩
          have HB8 := Bas.hid (HB4.out.trans ((Bas.on HB7.out hb8).mono HB4.out.size))
          clear hb8 HZ HX HZ0 HB7
          go_wp2_with (fail)
          go_ret
          exact ⟨rfl, HB8.out⟩

      · have d1 : decide (0 ≤ direction) = false := by simp; omega
        have HRD := Bas.hid (valueV_no t direction size (by omega))
        clear h1
        go_wp2_with (fail)
        have kz := Bas.heap_new w4 (.cells #[.slice none 0 0, .slice none 0 0, .slice none 0 0, .slice none 0 0] 54)
        have HTA : Hid (TabOk (w4.alloc (.cells #[.slice none 0 0, .slice none 0 0, .slice none 0 0, .slice none 0 0] 54)) w3.heap.size G t.1 t.2) := tab_below HTAB.out ((Below.refl _ _).alloc (Nat.le_refl _) _)
        have HTZ : Hid (TabOk (w4.alloc (.cells #[.slice none 0 0, .slice none 0 0, .slice none 0 0, .slice none 0 0] 54)) w4.heap.size w4.heap.size ⟨[], []⟩ ⟨[], []⟩) :=
          ⟨Nat.le_refl _, _, _, _, _, kz, ⟨Row.owned_nil _ _ _ _, Row.owned_nil _ _ _ _⟩, Row.owned_nil _ _ _ _, Row.owned_nil _ _ _ _⟩
        have HB4 := Bas.hid (HB4'.out.alloc HB4'.out.size (.cells #[.slice none 0 0, .slice none 0 0, .slice none 0 0, .slice none 0 0] 54))
        clear kz HB4' HTAB
        generalize w4.alloc (.cells #[.slice none 0 0, .slice none 0 0, .slice none 0 0, .slice none 0 0] 54) = W4 at *
        generalize w4.heap.size = T at *
        have HX := Bas.hid fun w' (hb : Below W4.heap.size W4 w') (d : Int) (hd : -9223372036854775808 ≤ d ∧ d ≤ 9223372036854775807) => value_any t _ G d size w' (tab_below HTA.out hb) HTV2.out.1 HTV2.out.2 HSZ.out hd
        have HZ0 : Hid (∀ w', Below W4.heap.size W4 w' → Calls Try.prog 19 #[.pointer (some ⟨T, 0, none⟩), .int .i64 direction, .int .i32 size] w' fun e w'' => e = .returned (.int .i64 0) ∧ Below w'.heap.size w' w'') := fun w' hb => by
          have := value_any (⟨[], []⟩, ⟨[], []⟩) _ T direction size w' (tab_below HTZ.out hb) trkV_nil trkV_nil HSZ.out HDB.out
          rwa [valueV_nil] at this
        clear HTA HTZ HTV2
        obtain ⟨r0, hr0⟩ : ∃ r, valueV t 0 size = r := ⟨_, rfl⟩
        have HR0 := Bas.hid hr0
        have HR1 := Bas.hid ((valueV_lr t size).trans hr0)
        have HX1 := Bas.hid (HR0.out ▸ HX.out _ (Below.refl _ _) 0 (by omega))
        clear hr0
        go_wp2_with (fail)
        refine HX1.out.mono ?_
        rintro e w5 ⟨rfl, hb5⟩
        have HB5 := Bas.hid hb5
        have HX2 := Bas.hid (HR1.out ▸ HX.out _ HB5.out 1 (by omega))
        clear hb5 HX1
        go_wp2_with (fail)
        refine HX2.out.mono ?_
        rintro e w6 ⟨rfl, hb6⟩
        have HB6 := Bas.hid (Bas.on HB5.out hb6)
        clear hb6 HX2 HB5
        have HX3 := Bas.hid (HRD.out ▸ HX.out _ HB6.out direction HDB.out)
        go_wp2_with (fail)
        refine HX3.out.mono ?_
        rintro e w7 ⟨rfl, hb7⟩
        have HB7 := Bas.hid (Bas.on HB6.out hb7)
        have HZ := Bas.hid (HZ0.out _ HB7.out)
        clear hb7 HX3 HB6
        go_wp2_with (fail)
        refine HZ.out.mono ?_
        rintro e w8 ⟨rfl, hb8⟩
        have HB8 := Bas.hid (HB4.out.trans ((Bas.on HB7.out hb8).mono HB4.out.size))
        clear hb8 HZ HX HZ0 HB7
        go_wp2_with (fail)
        go_ret
        exact ⟨rfl, HB8.out⟩

set_option maxRecDepth 100000 in
theorem trakDirections_law {H : Type} {enc : TypeId × Value → H} (v : Value) (d : DataW H) (p : List MemPlace) (direction size : Int) (W : World) {base : Nat} (hv : Value.okWide Try.prog W .any base 27 v) (ht : DataW.Trod enc Try.prog W 0 (fun _ => true) true 27 v d p) (hd : (Lit.int .i64 direction).wf = true) (hsz : (Lit.int .i32 size).wf = true) :
    Calls Try.prog 5 #[v, .int .i64 direction, .int .i32 size] W fun e w' => e = .returned (.bool true) ∧ Below W.heap.size W w' := by
  obtain ⟨sa, sb, ta, tb, q, rfl, hin, hrg⟩ := open_plan v d p W hv ht
  exact trakDirections_walk sa sb ta tb q direction size W hin hrg (Bas.wf_i64 hd) (Bas.wf_i32 hsz)
end Tk
end Go.Proofs.Ytfocjagkhoonmaa
