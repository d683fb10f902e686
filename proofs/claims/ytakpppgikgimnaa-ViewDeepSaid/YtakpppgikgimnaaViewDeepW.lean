/- The walk of the law ViewDeep. -/
import Derived.Test.YtakpppgikgimnaaViewDeepB
import Derived.Test.YtakpppgikgimnaaArr
namespace Go.Proofs.Ytakpppgikgimnaa
open Go.RowKit
namespace Vw

theorem twice_i (a : Option Addr) (len cap : Nat) (bs : List Int) (p0 p1 p2 p3 : Nat) (q0 q1 q2 q3 : Int) (w : World) (e0 : q0 = p0) (e1 : q1 = p1) (e2 : q2 = p2) (e3 : q3 = p3) (fits : Bool) (cs : List Int) (hf : decide (p0 + p1 ≤ len ∧ p2 + p3 ≤ p1) = fits) (hcs : (((bs.drop p0).take p1).drop p2).take p3 = cs) (hl : len ≤ cap) (hc : cap ≤ maxLen) (hv : VB w a bs) (hbl : bs.length = len) :
    Calls Try.prog 43 #[.slice a len cap, .agg #[.int .i64 q0, .int .i64 q1, .int .i64 q2, .int .i64 q3]] w (OutPost w fits cs) := by
  subst e0 e1 e2 e3 hf hcs
  exact twice_any a len cap bs p0 p1 p2 p3 w hl hc hv hbl

theorem deep_list (bs : List Int) (p0 p1 p2 p3 : Nat) (h : p2 + p3 ≤ p1) : (((bs.drop (p0 + p2)).take p3).drop 0).take p3 = (((bs.drop p0).take p1).drop p2).take p3 := by
  rw [List.drop_zero, List.take_take, Nat.min_self, List.drop_take, List.take_take, List.drop_drop]
  congr 1
  omega

set_option maxHeartbeats 1000000 in
theorem viewDeep_walk (a : Option Addr) (len cap : Nat) (z : List Int) (p0 p1 p2 p3 : Nat) (w : World) (hz : Bas.IsRow .u8 w a len cap z) (l0 : p0 ≤ 255) (l1 : p1 ≤ 255) (l2 : p2 ≤ 255) (l3 : p3 ≤ 255) :
    Calls Try.prog 9 #[.slice a len cap, .agg #[.int .u8 p0, .int .u8 p1, .int .u8 p2, .int .u8 p3]] w fun e w' => e = .returned (.bool true) ∧ Below w.heap.size w w' := by
  by_cases hbig : 1000 < len
  · have hlm : len ≤ 9223372036854775807 := by
      rcases hz with ⟨rfl, rfl, rfl, rfl⟩ | ⟨x, rfl, hl, hm, _⟩
      · omega
      · unfold maxLen at hm; omega
    clear hz
    go_enter Try.func9, Try.ntmps9
    go_wp2_with (fail)
    refine (speaks_any _).mono ?_
    rintro e w1 ⟨rfl, hb1⟩
    go_wp2_with (fail)
    go_ret
    exact ⟨rfl, Bas.on ((Below.refl w.heap.size w).alloc (Nat.le_refl _) _) hb1⟩
  · obtain ⟨hv, hbl, hlc, hcm, hnil⟩ := VB_of_row hz (by omega)
    clear hz
    generalize z.take len = bs at hv hbl
    go_enter Try.func9, Try.ntmps9
    go_wp2_with (fail)
    refine (speaks_any _).mono ?_
    rintro e w1 ⟨rfl, hb1⟩
    obtain ⟨hc1, hf1⟩ := Bas.bcell hb1
    have HB1 : Below w.heap.size w w1 := Bas.on ((Below.refl w.heap.size w).alloc (Nat.le_refl _) _) hb1
    clear hb1
    have hv1 := hv.below HB1
    go_wp2_with (fail)
    go_quiet (fail)
    have hv2 : VB (w1.drewN nq) a bs := hv1.below (Bas.below_drewN (Below.refl _ _) _)
    have HB2 : Below w.heap.size w (w1.drewN nq) := Bas.below_drewN HB1 _
    clear hc1 hf1 hv1 HB1
    generalize w1.drewN nq = w2 at *
    go_wp2_with (fail)
    by_cases f1 : p0 + p1 ≤ len ∧ p2 + p3 ≤ p1
    · refine (twice_i a len cap bs p0 p1 p2 p3 _ _ _ _ w2 rfl rfl rfl rfl true _ (decide_eq_true f1) rfl hlc hcm hv2 hbl).mono ?_
      generalize hcs : (((bs.drop p0).take p1).drop p2).take p3 = cs
      rintro e w3 ⟨v, rfl, hb3, -, hv3⟩
      obtain ⟨g, cp, rfl, hgb, hgl, hgc, hgm, hvg, hOg⟩ := hv3 rfl
      have hv4 := hv2.below hb3
      have HCS := Bas.hid hcs
      clear hcs hv3 hv2
      obtain ⟨f2, f3⟩ := f1
      have d1 : decide (((p0 : Int) + (p1 : Int)) ≤ (len : Int)) = true := by simp; omega
      have d2 : decide (((p2 : Int) + (p3 : Int)) ≤ (p1 : Int)) = true := by simp; omega
      go_wp2_with (fail)
      refine (twice_i a len cap bs (p0 + p2) p3 0 p3 _ _ _ _ w3 (by omega) rfl rfl rfl true cs (decide_eq_true ⟨by omega, by omega⟩) ((deep_list bs p0 p1 p2 p3 f3).trans HCS.out) hlc hcm hv4 hbl).mono ?_
      rintro e w5 ⟨v5, rfl, hb5, -, hv5⟩
      obtain ⟨g5, cp5, rfl, hgb5, hgl5, hgc5, hgm5, hvg5, hOg5⟩ := hv5 rfl
      have cv1 := conv_vb (hvg.below hb5) cs.length cp rfl
      have cv2 := conv_vb hvg5 cs.length cp5 rfl
      clear hv5 hvg hOg
      go_wp2_with (fail)
      go_ret
      exact ⟨by simp, HB2.trans ((hb3.trans (hb5.mono hb3.size)).mono HB2.size)⟩
    · refine (twice_i a len cap bs p0 p1 p2 p3 _ _ _ _ w2 rfl rfl rfl rfl false _ (decide_eq_false f1) rfl hlc hcm hv2 hbl).mono ?_
      rintro e w3 ⟨v, rfl, hb3, hv3, -⟩
      obtain rfl := hv3 rfl
      have hv4 := hv2.below hb3
      clear hv3 hv2
      by_cases f2 : p0 + p1 ≤ len
      · have d1 : decide (((p0 : Int) + (p1 : Int)) ≤ (len : Int)) = true := by simp; omega
        have d2 : decide (((p2 : Int) + (p3 : Int)) ≤ (p1 : Int)) = false := by simp; omega
        clear f1
        go_wp2_with (fail)
        refine (twice_i a len cap bs (p0 + p2) p3 0 p3 _ _ _ _ w3 (by omega) rfl rfl rfl _ _ rfl rfl hlc hcm hv4 hbl).mono ?_
        generalize decide (p0 + p2 + p3 ≤ len ∧ 0 + p3 ≤ p3) = ok5
        rintro e w5 ⟨v5, rfl, hb5, -, -⟩
        go_wp2_with (fail)
        go_ret
        exact ⟨by simp, HB2.trans ((hb3.trans (hb5.mono hb3.size)).mono HB2.size)⟩
      · have d1 : decide (((p0 : Int) + (p1 : Int)) ≤ (len : Int)) = false := by simp; omega
        clear f1
        go_wp2_with (fail)
        refine (twice_i a len cap bs (p0 + p2) p3 0 p3 _ _ _ _ w3 (by omega) rfl rfl rfl _ _ rfl rfl hlc hcm hv4 hbl).mono ?_
        generalize decide (p0 + p2 + p3 ≤ len ∧ 0 + p3 ≤ p3) = ok5
        rintro e w5 ⟨v5, rfl, hb5, -, -⟩
        go_wp2_with (fail)
        go_ret
        exact ⟨by simp, HB2.trans ((hb3.trans (hb5.mono hb3.size)).mono HB2.size)⟩

theorem viewDeep_law {H : Type} {enc : TypeId × Value → H} (a : Option Addr) (len cap : Nat) (z : List Int) (v : Value) (d : DataW H) (p : List MemPlace) (W : World) (hz : Bas.IsRow .u8 W a len cap z) {base : Nat}
    (hv : Value.okWide Try.prog W .any base 43 v) (ht : DataW.Trod enc Try.prog W 0 (fun _ => true) true 43 v d p) :
    Calls Try.prog 9 #[.slice a len cap, v] W fun e w' => e = .returned (.bool true) ∧ Below W.heap.size W w' := by
  obtain ⟨xs, hl, rfl, hw⟩ := Bas.open_arr Try.underlying43 Try.underlying5 (by kernel_rfl) (by kernel_rfl) hv ht
  match xs, hl with
  | [x0, x1, x2, x3], _ =>
    have a0 := Bas.wf_u8 (hw x0 (by simp))
    have a1 := Bas.wf_u8 (hw x1 (by simp))
    have a2 := Bas.wf_u8 (hw x2 (by simp))
    have a3 := Bas.wf_u8 (hw x3 (by simp))
    obtain ⟨p0, rfl⟩ := Int.eq_ofNat_of_zero_le a0.1
    obtain ⟨p1, rfl⟩ := Int.eq_ofNat_of_zero_le a1.1
    obtain ⟨p2, rfl⟩ := Int.eq_ofNat_of_zero_le a2.1
    obtain ⟨p3, rfl⟩ := Int.eq_ofNat_of_zero_le a3.1
    exact viewDeep_walk a len cap z p0 p1 p2 p3 W hz (by omega) (by omega) (by omega) (by omega)
end Vw
end Go.Proofs.Ytakpppgikgimnaa
