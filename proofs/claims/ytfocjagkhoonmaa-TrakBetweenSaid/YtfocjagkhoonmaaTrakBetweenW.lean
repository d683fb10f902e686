/- The walk of the law TrakBetween. -/
import Derived.Test.YtfocjagkhoonmaaTrakBetL
import Derived.Test.YtfocjagkhoonmaaOpen
namespace Go.Proofs.Ytfocjagkhoonmaa
open Go.RowKit
namespace Tk
open Vw

theorem flat_one {α : Type} (g : α → Value) : ∀ l : List α, (l.flatMap fun s => [g s]) = l.map g
  | [] => rfl
  | x :: l => by rw [List.flatMap_cons, flat_one g l]; rfl

/-- A slice of numbers that came in: its elements, and where they lie. -/
theorem row_open {kd : IntKind} {w : World} {a : Option Addr} {len cap : Nat} {zs : List Int} (h : Bas.IsRow kd w a len cap zs) :
    ∃ S : List Int, S.length = len ∧ Row.Leads w (.slice a len cap) len (S.flatMap fun s => [.int kd s]) ∧ (∀ s ∈ S, (Lit.int kd s).wf = true) ∧ len ≤ maxLen ∧
      (0 < len → ∃ b o, a = some ⟨b, o, none⟩ ∧ ∀ i, i < len → w.cell? ⟨b, o + i, none⟩ = some (.int kd (S.getD i 0))) := by
  rcases h with ⟨rfl, rfl, rfl, rfl⟩ | ⟨x, rfl, hl, hm, hz, hc, hw⟩
  · exact ⟨[], rfl, .inl ⟨rfl, rfl, rfl⟩, (fun s hs => by cases hs), Nat.zero_le _, fun h => by omega⟩
  · have hg : ∀ i, i < len → (zs.take len).getD i 0 = zs.getD i 0 := fun i hi => by
      rw [List.getD_eq_getElem?_getD, List.getD_eq_getElem?_getD, List.getElem?_take_of_lt hi]
    refine ⟨zs.take len, by simp; omega, .inr ⟨x, cap, rfl, fun j u hu => ?_⟩, fun s hs => hw s (List.mem_of_mem_take hs), by omega, fun h0 => ?_⟩
    · rw [flat_one, List.getElem?_map] at hu
      cases hj : (zs.take len)[j]? with
      | none => rw [hj] at hu; cases hu
      | some s =>
        rw [hj] at hu
        cases hu
        have hjl := (List.getElem?_eq_some_iff.1 hj).1
        rw [List.length_take] at hjl
        have h1 := hc j (by omega)
        rw [← hg j (by omega), List.getD_eq_getElem?_getD, hj] at h1
        exact h1
    · have h1 := hc 0 (by omega)
      obtain ⟨b, o, s⟩ := x
      have hs : s = none := by have := World.cell?_spot h1; simpa [Addr.add] using this
      subst hs
      refine ⟨b, o, rfl, fun i hi => ?_⟩
      have := hc i (by omega)
      rw [Addr.add_lit] at this
      rw [hg i hi]
      exact this

set_option maxRecDepth 100000 in
set_option maxHeartbeats 16000000 in
theorem trakBetween_walk (a1 : Option Addr) (m cap1 : Nat) (z1 : List Int) (a2 : Option Addr) (n cap2 : Nat) (z2 : List Int) (size : Int) (w : World) (hz1 : Bas.IsRow .i32 w a1 m cap1 z1) (hz2 : Bas.IsRow .i16 w a2 n cap2 z2) (hsz : -2147483648 ≤ size ∧ size ≤ 2147483647) :
    Calls Try.prog 4 #[.slice a1 m cap1, .slice a2 n cap2, .int .i32 size] w fun e w' => e = .returned (.bool true) ∧ Below w.heap.size w w' := by
  obtain ⟨S, hSl, hS, hSw, hmS, hSc⟩ := row_open hz1
  obtain ⟨V, hVl, hV, hVw, hmV, hVc⟩ := row_open hz2
  unfold maxLen at hmS hmV
  have HS := Bas.hid hS
  have HV := Bas.hid hV
  have HSW := Bas.hid (fun s hs => Bas.wf_i32 (hSw s hs))
  have HVW := Bas.hid (fun s hs => Bas.wf_i16 (hVw s hs))
  have HSL := Bas.hid hSl
  have HVL := Bas.hid hVl
  have HSC := Bas.hid hSc
  have HVC := Bas.hid hVc
  have HSZ := Bas.hid hsz
  clear hz1 hz2 hS hSw hV hVw hSl hVl hSc hVc hsz
  by_cases hm0 : m = 0
  · subst hm0
    clear HS HV HSW HVW HSL HVL HSC HVC
    go_enter Try.func4, Try.ntmps4
    go_wp2_with (fail)
    refine (speaks_any _).mono ?_
    rintro e w1 ⟨rfl, hb1⟩
    have HB1 := Bas.hid hb1
    clear hb1
    go_wp2_with (fail)
    go_ret
    exact ⟨rfl, HB1.out⟩
  by_cases hm20 : 20 < m
  · have d1 : decide ((20 : Int) < (m : Int)) = true := by simp; omega
    have d2 : decide (20 < m) = true := by simp; omega
    clear HS HV HSW HVW HSL HVL HSC HVC hm20
    go_enter Try.func4, Try.ntmps4
    go_wp2_with (fail)
    refine (speaks_any _).mono ?_
    rintro e w1 ⟨rfl, hb1⟩
    have HB1 := Bas.hid hb1
    clear hb1
    go_wp2_with (fail)
    go_ret
    exact ⟨rfl, HB1.out⟩
  have d1 : decide ((20 : Int) < (m : Int)) = false := by simp; omega
  have d2 : decide (20 < m) = false := by simp; omega
  by_cases hnm : n = m
  case neg =>
    have e0 : ((m : Int) == 0) = false := by simp; omega
    have e1 : ((n : Int) != (m : Int)) = true := by simp; omega
    clear HS HV HSW HVW HSL HVL HSC HVC hm20
    go_enter Try.func4, Try.ntmps4
    go_wp2_with (fail)
    refine (speaks_any _).mono ?_
    rintro e w1 ⟨rfl, hb1⟩
    have HB1 := Bas.hid hb1
    clear hb1
    go_wp2_with (fail)
    go_ret
    exact ⟨rfl, HB1.out⟩
  subst hnm
  have hn20 : n ≤ 20 := by omega
  clear hm20
  obtain ⟨b1, o1, rfl, hc1⟩ := HSC.out (by omega)
  obtain ⟨b2, o2, rfl, hc2⟩ := HVC.out (by omega)
  have HC1 := Bas.hid hc1
  have HC2 := Bas.hid hc2
  have l1 := World.block_lt_of_cell? _ _ (hc1 0 (by omega))
  have l2 := World.block_lt_of_cell? _ _ (hc2 0 (by omega))
  clear HSC HVC hc1 hc2
  go_enter Try.func4, Try.ntmps4
  go_wp2_with (fail)
  refine (speaks_any _).mono ?_
  rintro e w1 ⟨rfl, hb1⟩
  have HB1 := Bas.hid hb1
  clear hb1
  go_wp2_with (fail)
  have k0 := Bas.heap_new w1 (.cells #[.int .i32 5, .slice none 0 0, .int .i32 0, .slice (some ⟨b2, o2, none⟩) n cap2] 48)
  have HB2 := Bas.hid (HB1.out.alloc HB1.out.size (.cells #[.int .i32 5, .slice none 0 0, .int .i32 0, .slice (some ⟨b2, o2, none⟩) n cap2] 48))
  generalize w1.alloc (.cells #[.int .i32 5, .slice none 0 0, .int .i32 0, .slice (some ⟨b2, o2, none⟩) n cap2] 48) = W at *
  have hin : PPlan W (.slice (some ⟨b1, o1, none⟩) n cap1) (.slice none 0 0) (.slice (some ⟨w1.heap.size, 0, none⟩) 2 2) (.slice none 0 0) (twoP S V) := by
    refine ⟨by have := Row.leads_below HS.out HB2.out; rw [← HSL.out] at this ⊢; exact this, .inl ⟨rfl, rfl, rfl⟩, ⟨[.slice none 0 0, .slice (some ⟨b2, o2, none⟩) n cap2], rfl, leads_heap k0, fun i c r hc hr => ?_⟩, ⟨[], rfl, .inl ⟨rfl, rfl, rfl⟩, fun i c r hc hr => by simp [twoP] at hc⟩⟩
    match i, hc, hr with
    | 0, hc, hr => cases hc; cases hr; exact .inl ⟨rfl, rfl, rfl⟩
    | 1, hc, hr =>
      cases hc; cases hr
      have := Row.leads_below HV.out HB2.out
      rw [← HVL.out] at this ⊢
      exact this
    | j + 2, hc, hr => simp [twoP] at hc
  have hsm : smallP (twoP S V) := ⟨⟨by show S.length ≤ 20; rw [HSL.out]; exact hn20, by show 2 ≤ 10; omega⟩, by show 0 ≤ 20; omega, by show 0 ≤ 10; omega⟩
  have hrg : rgPlan (twoP S V) := by
    refine ⟨⟨HSW.out, fun t ht => ?_⟩, fun s hs => (by cases hs), fun s hs => by cases hs⟩
    simp only [twoP, List.mem_cons, List.not_mem_nil, or_false] at ht
    rcases ht with rfl | rfl
    · exact ⟨by simp, fun s hs => by cases hs⟩
    · exact ⟨by simp, HVW.out⟩
  have HWR := Bas.hid (twrite_any _ _ _ _ (twoP S V) W hsm hrg hin)
  have HWL := Bas.hid (writeT_len (twoP S V) hsm)
  clear hsm hrg hin k0
  refine HWR.out.mono ?_
  rintro e w3 ⟨v3, rfl, hown, hb3⟩
  have hwl := HWL.out
  obtain ⟨g, cg, rfl, hgc, hgm, hvg⟩ := written hown (by omega) (writeT_byte (twoP S V)) (by omega)
  have HB3 := Bas.hid (Bas.on HB2.out hb3)
  have HRE := Bas.hid (tRead_any (some ⟨g, 0, none⟩) _ cg (writeT (twoP S V)) w3 hgc hgm hvg rfl (by omega))
  clear hown hb3 HWR HWL hvg hgc hgm hwl HB2
  go_wp2_with (fail)
  refine HRE.out.mono ?_
  rintro e w4 ⟨hb4, h⟩
  have HB4 := Bas.hid (Bas.on HB3.out hb4)
  have HTV := Bas.hid (fun t => tableAt_v _ (writeT_byte (twoP S V)) t)
  have HBK := Bas.hid (fun t => two_back S V (HSL.out ▸ hn20) (HVL.out.trans HSL.out.symm) HSW.out HVW.out t)
  clear hb4 HRE HB3
  cases hp : tableAt (writeT (twoP S V)) with
  | none =>
    rw [hp] at h
    subst h
    clear HTV hp HBK
    go_wp2_with (fail)
    go_ret
    exact ⟨rfl, HB4.out⟩
  | some t =>
    rw [hp] at h
    obtain ⟨G, rfl, htab⟩ := h
    have HTV2 := Bas.hid (HTV.out t hp)
    have HT1 := Bas.hid (HBK.out t (two_eq S V ▸ hp))
    have HX := Bas.hid (value_any t _ G 0 size w4 htab HTV2.out.1 HTV2.out.2 HSZ.out (by omega))
    have HT : Hid (TrkV ⟨S, V⟩) := by have := HTV2.out.1; rw [HT1.out] at this; exact this
    have HXV : Hid (valueV t 0 size = atV ⟨S, V⟩ size) := by
      have : valueV t 0 size = atV t.1 size := rfl
      rw [HT1.out] at this
      exact this
    rw [HXV.out] at HX
    have HCS : Hid (∀ i, i < n → w4.cell? ⟨b1, o1 + i, none⟩ = some (.int .i32 (S.getD i 0))) := fun i hi => (HB4.out.cell (p := ⟨b1, o1 + i, none⟩) l1).trans (HC1.out i hi)
    have HCV : Hid (∀ i, i < n → w4.cell? ⟨b2, o2 + i, none⟩ = some (.int .i16 (V.getD i 0))) := fun i hi => (HB4.out.cell (p := ⟨b2, o2 + i, none⟩) l2).trans (HC2.out i hi)
    clear HTV hp htab HBK HT1 HTV2 HXV
    obtain ⟨x, hx⟩ : ∃ x, atV ⟨S, V⟩ size = x := ⟨_, rfl⟩
    rw [hx] at HX
    have HXE := Bas.hid hx
    clear hx
    obtain ⟨k, rfl⟩ : ∃ k, n = k + 1 := ⟨n - 1, by omega⟩
    go_wp2_with (fail)
    refine HX.out.mono ?_
    rintro e w5 ⟨rfl, hb5⟩
    have HB5 := Bas.hid (Bas.on HB4.out hb5)
    have hw4 : w.heap.size ≤ w4.heap.size := HB4.out.size
    have HCS5 : Hid (∀ i, i < k + 1 → w5.cell? ⟨b1, o1 + i, none⟩ = some (.int .i32 (S.getD i 0))) := fun i hi => (hb5.cell (p := ⟨b1, o1 + i, none⟩) (Nat.lt_of_lt_of_le l1 hw4)).trans (HCS.out i hi)
    have HCV5 : Hid (∀ i, i < k + 1 → w5.cell? ⟨b2, o2 + i, none⟩ = some (.int .i16 (V.getD i 0))) := fun i hi => (hb5.cell (p := ⟨b2, o2 + i, none⟩) (Nat.lt_of_lt_of_le l2 hw4)).trans (HCV.out i hi)
    clear hb5 HX HB4 HCS HCV hw4
    obtain ⟨s0, hs0⟩ : ∃ s, S.getD 0 0 = s := ⟨_, rfl⟩
    have c0 := HCS5.out 0 (by omega)
    rw [hs0] at c0
    have HS0 := Bas.hid hs0
    clear hs0
    simp only [Nat.add_zero] at c0
    by_cases h0 : size ≤ s0
    · have g0 : decide (size ≤ s0) = true := by simpa using h0
      have y0 := HCV5.out 0 (by omega)
      simp only [Nat.add_zero] at y0
      have hxv : V.getD 0 0 = x := by
        have := atV_low ⟨S, V⟩ HT.out (by show 0 < V.length; rw [HVL.out]; omega) size (by show size ≤ S.getD 0 0; rw [HS0.out]; exact h0)
        rw [← HXE.out, this]
      rw [hxv] at y0
      have hxb : -32768 ≤ x ∧ x ≤ 32767 := hxv ▸ HT.out.vb 0
      obtain ⟨hx0, hx1⟩ := hxb
      clear hxv h0
      go_wp2_with (fail)
      go_ret
      exact ⟨rfl, HB5.out⟩
    have g0 : decide (size ≤ s0) = false := by simp; omega
    obtain ⟨sl, hsl⟩ : ∃ s, S.getD k 0 = s := ⟨_, rfl⟩
    have cl := HCS5.out k (by omega)
    rw [hsl] at cl
    have HSL' := Bas.hid hsl
    have HG0 := Bas.hid h0
    clear hsl h0
    by_cases h1 : sl ≤ size
    · have g1 : decide (sl ≤ size) = true := by simpa using h1
      have y0 := HCV5.out k (by omega)
      have hxv : V.getD k 0 = x := by
        have e : V.length - 1 = k := by rw [HVL.out]; omega
        have := atV_high ⟨S, V⟩ HT.out (by show 0 < V.length; rw [HVL.out]; omega) size (by show S.getD (V.length - 1) 0 ≤ size; rw [e, HSL'.out]; exact h1)
        rw [← HXE.out, this]
        show _ = V.getD (V.length - 1) 0
        rw [e]
      rw [hxv] at y0
      have hxb : -32768 ≤ x ∧ x ≤ 32767 := hxv ▸ HT.out.vb k
      obtain ⟨hx0, hx1⟩ := hxb
      clear hxv h1
      go_wp2_with (fail)
      go_ret
      exact ⟨rfl, HB5.out⟩
    have g1 : decide (sl ≤ size) = false := by simp; omega
    have HG1 := Bas.hid h1
    clear h1
    go_wp2_with (fail)
    clear c0 cl g0 g1
    go_loopw [83] (fun vi wr => ∃ i : Nat, i ≤ k ∧ vi = .int .i64 i ∧ wr = w5) (fun vi _ => k - (intOf vi).toNat)
    case atStart => exact ⟨0, by omega, rfl, rfl⟩
    case round =>
      obtain ⟨i, hi, rfl, rfl⟩ := hrel
      by_cases hik : i = k
      · subst hik
        go_wp2_with (fail)
        go_ret
        exact ⟨rfl, HB5.out⟩
      · have e1 : decide ((i : Int) < (k : Int)) = true := by simp; omega
        have e2 : decide (i < k) = true := by simp; omega
        obtain ⟨sa, hsa⟩ : ∃ s, S.getD i 0 = s := ⟨_, rfl⟩
        obtain ⟨sb, hsb⟩ : ∃ s, S.getD (i + 1) 0 = s := ⟨_, rfl⟩
        have ca := HCS5.out i (by omega)
        have cb := HCS5.out (i + 1) (by omega)
        rw [hsa] at ca
        rw [hsb] at cb
        have HSA := Bas.hid hsa
        have HSB := Bas.hid hsb
        clear hsa hsb
        by_cases h2 : sa ≤ size
        · have f1 : decide (sa ≤ size) = true := by simpa using h2
          by_cases h3 : size ≤ sb
          · have f2 : decide (size ≤ sb) = true := by simpa using h3
            obtain ⟨va, hva⟩ : ∃ s, V.getD i 0 = s := ⟨_, rfl⟩
            obtain ⟨vb, hvb⟩ : ∃ s, V.getD (i + 1) 0 = s := ⟨_, rfl⟩
            have ya := HCV5.out i (by omega)
            have yb := HCV5.out (i + 1) (by omega)
            rw [hva] at ya
            rw [hvb] at yb
            have hmid := atV_mid ⟨S, V⟩ HT.out i (by show i + 1 < V.length; rw [HVL.out]; omega) size (by show S.getD i 0 ≤ _; rw [HSA.out]; exact h2) (by show _ ≤ S.getD (i + 1) 0; rw [HSB.out]; exact h3)
            rw [HXE.out] at hmid
            have hmid' : min va vb ≤ x ∧ x ≤ max va vb := by
              rw [← hva, ← hvb]; exact hmid
            have hba : -32768 ≤ va ∧ va ≤ 32767 := hva ▸ HT.out.vb i
            have hbb : -32768 ≤ vb ∧ vb ≤ 32767 := hvb ▸ HT.out.vb (i + 1)
            have HM := Bas.hid hmid'
            obtain ⟨hba0, hba1⟩ := hba
            obtain ⟨hbb0, hbb1⟩ := hbb
            have li1 := World.block_lt_of_cell? _ _ ya
            clear h2 h3 hva hvb hmid hmid'
            go_wp2_with (fail)
            refine' Pl.region_v0 125 [] [0, 1, 2, 3, 4, 5, 6, 7, 8, 9, 10, 11, 12] [] _ (by kernel_rfl) (by kernel_rfl) (by simp) (fun _ _ _ _ e h => ⟨e ▸ h.1, h.2⟩) ?_ ?_
            rotate_left
            · intro I F hI hF
              simp only [Pl.selN, List.cons_append, List.nil_append, List.drop_succ_cons, List.drop_zero]
              have x0 := fun j => hF.cell li1 ya j
              have x1 := fun j => hF.cell li1 yb j
              repeat (go_big_quiet_step (fail))
              refine wpQuiet_nil ?_
              rfl
            intro u hu
            simp only [Pl.selN, List.drop_succ_cons, List.drop_zero]
            have HBU := Bas.hid (Bas.on HB5.out hu)
            clear hu ya yb ca cb li1
            go_wp2_with (fail)
            all_goals (first | (exfalso; have h := HM.out; omega) | (go_ret; refine ⟨?_, HBU.out⟩; first | rfl | (have h := HM.out; simp; omega)))
          · have f2 : decide (size ≤ sb) = false := by simp; omega
            clear h2 h3
            go_wp2_with (fail)
            go_roundw
            case rel => exact ⟨i + 1, by omega, by go_num, trivial⟩
            case measure => simp [intOf]; omega
        · have f1 : decide (sa ≤ size) = false := by simp; omega
          clear h2
          go_wp2_with (fail)
          go_roundw
          case rel => exact ⟨i + 1, by omega, by go_num, trivial⟩
          case measure => simp [intOf]; omega

theorem trakBetween_law (a1 : Option Addr) (m cap1 : Nat) (z1 : List Int) (a2 : Option Addr) (n cap2 : Nat) (z2 : List Int) (size : Int) (w : World) (hz1 : Bas.IsRow .i32 w a1 m cap1 z1) (hz2 : Bas.IsRow .i16 w a2 n cap2 z2) (hsz : (Lit.int .i32 size).wf = true) :
    Calls Try.prog 4 #[.slice a1 m cap1, .slice a2 n cap2, .int .i32 size] w fun e w' => e = .returned (.bool true) ∧ Below w.heap.size w w' :=
  trakBetween_walk a1 m cap1 z1 a2 n cap2 z2 size w hz1 hz2 (Bas.wf_i32 hsz)
end Tk
end Go.Proofs.Ytfocjagkhoonmaa
