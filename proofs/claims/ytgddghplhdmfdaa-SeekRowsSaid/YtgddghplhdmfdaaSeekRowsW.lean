/- The walk of the law SeekRows. -/
import Derived.Test.YtgddghplhdmfdaaSpeak5
import Derived.Test.YtgddghplhdmfdaaRef05
import Derived.Test.YtgddghplhdmfdaaArr
import Derived.Lib.SlBytesRow
namespace Go.Proofs.Ytgddghplhdmfdaa
open Go.RowKit
namespace Sk
open Vw

/-- What the questions are. -/
def bad (need keys : Int) : Prop := need < 2 ∨ keys < 1 ∨ need / 2 < keys

set_option maxHeartbeats 4000000 in
theorem seekRows_walk (a : Option Addr) (len cap : Nat) (z : List Int) (at' need keys : Int) (w : World) (hz : Bas.IsRow .u8 w a len cap z)
    (_hat0 : -9223372036854775808 ≤ at') (_hat1 : at' ≤ 9223372036854775807) (hn0 : -9223372036854775808 ≤ need) (hn1 : need ≤ 9223372036854775807) :
    Calls Try.prog 9 #[.slice a len cap, .int .i64 at', .agg #[.int .i64 need, .int .i64 keys]] w fun e w' => e = .returned (.bool true) ∧ Below w.heap.size w w' := by
  by_cases hbig : 2000 < len
  · have hlm : len ≤ 9223372036854775807 := by
      rcases hz with ⟨rfl, rfl, rfl, rfl⟩ | ⟨x, rfl, hl, hm, _⟩
      · omega
      · unfold maxLen at hm; omega
    clear hz
    go_enter Try.func9, Try.ntmps9
    go_wp2_with (fail)
    refine (speaks_any _).mono ?_
    rintro e w1 ⟨rfl, hb1⟩
    go_wp2_with (fail)
    go_ret
    exact ⟨rfl, Bas.on ((Below.refl w.heap.size w).alloc (Nat.le_refl _) _) hb1⟩
  · obtain ⟨hv, hbl, hlc, hcm, hnil⟩ := VB_of_row hz (by omega)
    clear hz
    generalize z.take len = bs at hv hbl
    have HV := Bas.hid hv
    clear hv hnil
    go_enter Try.func9, Try.ntmps9
    go_wp2_with (fail)
    refine (speaks_any _).mono ?_
    rintro e w1 ⟨rfl, hb1⟩
    have hs1 := hb1.size
    simp only [World.size_alloc] at hs1
    have k0 := (hb1.cell (p := ⟨w.heap.size, 0, none⟩) (by simp)).trans (by simp : _ = some (.int .i64 need))
    have k1 := (hb1.cell (p := ⟨w.heap.size, 1, none⟩) (by simp)).trans (by simp : _ = some (.int .i64 keys))
    have HB1 := Bas.hid (Bas.on ((Below.refl w.heap.size w).alloc (Nat.le_refl _) _) hb1)
    clear hb1
    go_wp2_with (fail)
    go_quiet (fail)
    go_wp2_with (fail)
    have HB2 := Bas.hid (Bas.below_drewN HB1.out nq)
    generalize w1.drewN nq = w2 at *
    clear k0 k1 HB1
    have hs2 := HB2.out.size
    by_cases hbad : bad need keys
    · have C := read_arg a len cap at' need keys w2 hn0 hn1 hbad
      have HC := Bas.hid C
      clear C
      refine HC.out.mono ?_
      rintro e w3 ⟨v, rfl, hb3, hmat⟩
      obtain ⟨ad, cp, rfl⟩ := mat_slice hmat
      have HB3 := Bas.hid (HB2.out.trans (hb3.mono hs2))
      clear hmat hb3 HC
      rcases (show need < 2 ∨ (¬ need < 2 ∧ keys < 1) ∨ (¬ need < 2 ∧ ¬ keys < 1 ∧ need / 2 < keys) by unfold bad at hbad; omega) with h | ⟨h, h'⟩ | ⟨h, h', h''⟩
      · have d1 : decide (need < 2) = true := by simpa using h
        clear hbad
        go_wp2_with (fail)
        go_ret
        exact ⟨by simp, HB3.out⟩
      · have d1 : decide (need < 2) = false := by simpa using h
        have d2 : decide (keys < 1) = true := by simpa using h'
        clear hbad
        go_wp2_with (fail)
        go_ret
        exact ⟨by simp, HB3.out⟩
      · have d1 : decide (need < 2) = false := by simpa using h
        have d2 : decide (keys < 1) = false := by simpa using h'
        have d3 : decide (need / 2 < keys) = true := by simpa using h''
        have b1 : 0 ≤ need := by omega
        clear hbad
        go_wp2_with (fail)
        go_ret
        exact ⟨by simp, HB3.out⟩
    · have h1 : 2 ≤ need := by unfold bad at hbad; omega
      have h2 : 1 ≤ keys := by unfold bad at hbad; omega
      have h3 : keys ≤ need / 2 := by unfold bad at hbad; omega
      clear hbad
      obtain ⟨k, rfl⟩ := Int.eq_ofNat_of_zero_le (show 0 ≤ keys by omega)
      have d1 : decide (need < 2) = false := by simpa using h1
      have d2 : decide ((k : Int) < 1) = false := by simp; omega
      have d3 : decide (need / 2 < (k : Int)) = false := by simpa using h3
      have b1 : 0 ≤ need := by omega
      have hv2 := HV.out.below HB2.out
      by_cases ht : takeB len bs at' need
      · obtain ⟨f0, f1, f2, f3⟩ := ht
        obtain ⟨p, rfl⟩ := Int.eq_ofNat_of_zero_le f0
        have C := read_yes a len cap bs p need k w2 hlc hcm hbl (by omega) h1 (by omega) h3 hn1 hv2 ⟨f0, f1, f2, f3⟩
        unfold readRows at C
        simp only [Int.toNat_natCast] at C f2 f3
        have hbs := be2_bd bs hv2.byte p (by omega)
        have hbn := be2_bd bs hv2.byte (p + 2) (by omega)
        have hs : be bs p 2 = ((be bs p 2).toNat : Int) := by omega
        have hn : be bs (p + 2) 2 = ((be bs (p + 2) 2).toNat : Int) := by omega
        generalize (be bs p 2).toNat = s at *
        generalize (be bs (p + 2) 2).toNat = n at *
        rw [hs] at f2 f3
        rw [hn] at f3
        have R := fun w' (hb : Below w2.heap.size w2 w') => refRows_yes a len cap bs p s n k need w' (by omega) (hv2.below hb) hbl (by omega) hs hn f2 (by omega) (by omega) f3
        have hmn : rowCount bs p s n k ≤ n := by unfold rowCount; split <;> omega
        have hns : p + 10 + n * s ≤ bs.length := by
          have := f3.2.2.2.2
          rw [← Int.natCast_mul] at this
          omega
        have hs2 : 2 ≤ s := by omega
        have hn65 : n ≤ 65535 := by omega
        generalize rowCount bs p s n k = m at *
        have HC := Bas.hid C
        have HR := Bas.hid R
        have HNS := Bas.hid hns
        clear C R hv2 hs hn hbs hbn f2 f3 f0 hns
        refine HC.out.mono ?_
        rintro e w3 ⟨v, rfl, hb3, hmat⟩
        obtain ⟨ad, cp, rfl⟩ := mat_slice hmat
        rw [rowL_len]
        have HR3 := Bas.hid (HR.out w3 hb3)
        have hb3s := hb3.size
        have HB3 := Bas.hid (HB2.out.trans (hb3.mono (HB2.out.size)))
        have HM := Bas.hid hmat
        clear hmat hb3 HC HR
        go_wp2_with (fail)
        refine HR3.out.mono ?_
        rintro e w4 ⟨ad4, cp4, rfl, hi4, hb4⟩
        have HB4 := Bas.hid (HB3.out.trans (hb4.mono HB3.out.size))
        have HM4 := Bas.hid (mat_keep HM.out (fun g _ hg => hb4.block g hg) hb4.size)
        have HI4 := Bas.hid hi4
        clear hi4 hb4 HR3 HM
        have q1 : ((m : Int) == (m : Int)) = true := by simp
        go_wp2_with (fail)
        go_loopw [81] (fun c wr => ∃ i : Nat, i ≤ m ∧ c = .int .i64 i ∧ Below w4.heap.size w4 wr) (fun c _ => m - (intOf c).toNat)
        case atStart => exact ⟨0, Nat.zero_le _, rfl, Below.refl _ _⟩
        case round =>
          obtain ⟨i, hi, rfl, hbr⟩ := hrel
          by_cases him : i < m
          · obtain ⟨b, o, rfl, hc⟩ := (HI4.out.below hbr).hcell i him
            rw [offs_get p s m i him] at hc
            obtain ⟨xs, hx1, hx2⟩ := HM4.out
            have hr0 : (rowL bs p s m)[i]? = some (rowB bs p s i) := by unfold rowL; rw [List.getElem?_map, List.getElem?_range him]; rfl
            obtain ⟨g, cg, h5, h6, h7, h8, h9, h10, -⟩ := hx2 i _ hr0
            obtain ⟨hvr, hrl⟩ := row_vb ((HV.out.below HB4.out).below hbr) HNS.out i (by omega)
            rcases Row.owned_parts hx1 with ⟨_, hn0, _⟩ | ⟨G, cG, hvG, hG, hGl, hGc, hGm, hcl, -⟩
            · rw [rowL_len] at hn0; omega
            cases hvG
            have hcG := (hbr.cell (p := ⟨G, i, none⟩) hGl).trans (hcl i _ h5)
            rw [hrl] at hcG
            have hq : p + 10 + s * i + s ≤ len := by
              have := HNS.out
              have h2 : s * i + s ≤ n * s := by
                have := Nat.mul_le_mul_left s (show i + 1 ≤ n by omega)
                rw [Nat.mul_add, Nat.mul_one, Nat.mul_comm s n] at this
                exact this
              omega
            obtain ⟨ba, oa, ha, -⟩ := HV.out.cell (p + 10 + s * i) (by omega)
            have hsz : ∀ w, (Go.sizeOf 5).run Try.prog w = .ok 1 w := fun _ => by kernel_rfl
            have SW := fun W => Lib.run_slice_window (P := Try.prog) W 26 5 Try.underlying26 hsz ba oa len cap (p + 10 + s * i) (p + 10 + s * i + s) (by omega) (by omega)
            have hsub : sub (sub a (p + 10) (n * s)) (s * i) s = some ⟨ba, oa + (p + 10 + s * i), none⟩ := by
              have h1 : 1 * 2 ≤ n * s := Nat.mul_le_mul (by omega) hs2
              have h2 : n * s ≠ 0 := by omega
              have h3 : s ≠ 0 := by omega
              rw [ha, sub_some _ _ _ _ h2, sub_some _ _ _ _ h3]
              simp [Nat.add_assoc]
            rw [hsub] at hvr
            have cv2 := fun n => conv_vb (hvr.below (Bas.below_drewN (Below.refl _ _) n)) s (cap - (p + 10 + s * i)) hrl
            have cv1 := fun n => conv_vb (h10.below (Bas.below_drewN hbr n)) s cg hrl
            have HBR := Bas.hid hbr
            clear hx1 hx2 hr0 h5 h10 hcl hvr hbr hsub hsz
            generalize hqq : p + 10 + s * i = q at hc hq SW cv2
            rw [show q + s - q = s by omega, Int.natCast_add] at SW
            obtain rfl := ha
            go_wp2_with (fail)
            go_quiet (fail)
            clear cv1 cv2 SW
            go_wp2_with (fail)
            go_roundw
            case rel => exact ⟨i + 1, by omega, by go_num, Bas.below_drewN HBR.out _⟩
            case measure => simp [intOf]; omega
          · have him2 : i = m := by omega
            subst him2
            have HBR := Bas.hid hbr
            clear hbr
            go_wp2_with (fail)
            go_ret
            exact ⟨rfl, HB4.out.trans (HBR.out.mono HB4.out.size)⟩
      · have C := read_no a len cap bs at' need k w2 hlc hcm hbl h1 (by omega) h3 hn1 hv2 ht
        have R := fun w' (hb : Below w2.heap.size w2 w') => refRows_no a len cap bs at' need k w' (by omega) (hv2.below hb) hbl ht
        have HC := Bas.hid C
        have HR := Bas.hid R
        clear C R ht hv2
        refine HC.out.mono ?_
        rintro e w3 ⟨v, rfl, hb3, hmat⟩
        obtain ⟨ad, cp, rfl⟩ := mat_slice hmat
        have HB3 := Bas.hid (HB2.out.trans (hb3.mono hs2))
        have HR3 := Bas.hid (HR.out w3 hb3)
        clear hmat hb3 HC HR
        go_wp2_with (fail)
        refine HR3.out.mono ?_
        rintro e w' ⟨rfl, rfl⟩
        go_wp2_with (fail)
        go_ret
        exact ⟨by simp, HB3.out⟩

set_option maxRecDepth 100000 in
theorem seekRows_law {H : Type} {enc : TypeId × Value → H} (a : Option Addr) (len cap : Nat) (z : List Int) (at' : Int) (v : Value) (d : DataW H) (p : List MemPlace) (W : World) (hz : Bas.IsRow .u8 W a len cap z) (hat : (Lit.int .i64 at').wf = true) {base : Nat}
    (hv : Value.okWide Try.prog W .any base 74 v) (ht : DataW.Trod enc Try.prog W 0 (fun _ => true) true 74 v d p) :
    Calls Try.prog 9 #[.slice a len cap, .int .i64 at', v] W fun e w' => e = .returned (.bool true) ∧ Below W.heap.size W w' := by
  obtain ⟨xs, hl, rfl, hw⟩ := Bas.open_arr Try.underlying74 Try.underlying3 (by kernel_rfl) (by kernel_rfl) hv ht
  match xs, hl with
  | [x0, x1], _ =>
    have a0 := Bas.wf_i64 (hw x0 (by simp))
    have a1 := Bas.wf_i64 hat
    exact seekRows_walk a len cap z at' x0 x1 W hz a1.1 a1.2 a0.1 a0.2
end Sk
end Go.Proofs.Ytgddghplhdmfdaa
