/- The walk of the law ChainReads. -/
import Derived.Test.YtgddghplhdmfdaaChainSpeak
import Derived.Test.YtgddghplhdmfdaaChainSame
namespace Go.Proofs.Ytgddghplhdmfdaa
open Go.RowKit
namespace Ch
open Vw

set_option maxRecDepth 100000 in
set_option maxHeartbeats 8000000 in
theorem chainReads_walk (a : Option Addr) (len cap : Nat) (z : List Int) (w : World) (hz : Bas.IsRow .u8 w a len cap z) :
    Calls Try.prog 4 #[.slice a len cap] w fun e w' => e = .returned (.bool true) ∧ Below w.heap.size w w' := by
  by_cases hbig : 2000 < len
  · have hlm : len ≤ 9223372036854775807 := by
      rcases hz with ⟨rfl, rfl, rfl, rfl⟩ | ⟨x, rfl, hl, hm, _⟩
      · omega
      · unfold maxLen at hm; omega
    clear hz
    go_enter Try.func4, Try.ntmps4
    go_wp2_with (fail)
    refine (speaks_any _).mono ?_
    rintro e w1 ⟨rfl, hb1⟩
    go_wp2_with (fail)
    go_ret
    exact ⟨rfl, hb1⟩
  · obtain ⟨hv, hbl, hlc, hcm, hnil⟩ := VB_of_row hz (by omega)
    clear hz
    generalize z.take len = bs at hv hbl
    have HV := Bas.hid hv
    clear hv hnil
    go_enter Try.func4, Try.ntmps4
    go_wp2_with (fail)
    refine (speaks_any _).mono ?_
    rintro e w1 ⟨rfl, hb1⟩
    have HB1 := Bas.hid hb1
    clear hb1
    go_wp2_with (fail)
    refine (chainRead_any a len cap bs w1 hlc hcm (HV.out.below HB1.out) hbl (by omega)).mono ?_
    rintro e w2 ⟨hb2, h⟩
    have HB2 := Bas.hid (Bas.on HB1.out hb2)
    have R := refRead_any a len cap bs w2 hlc hcm (by omega) (HV.out.below HB2.out) hbl
    have HR := Bas.hid R
    clear hb2 R HB1
    cases hp : parseAll bs with
    | none =>
      rw [hp] at h
      subst h
      go_wp2_with (fail)
      refine HR.out.mono ?_
      rintro e w3 ⟨hb3, h⟩
      rw [hp] at h
      subst h
      have HB3 := Bas.hid (Bas.on HB2.out hb3)
      clear hb3 hp HR HB2
      go_wp2_with (fail)
      go_ret
      exact ⟨rfl, HB3.out⟩
    | some cs =>
      rw [hp] at h
      obtain ⟨v, rs, rfl, hrow⟩ := h
      obtain ⟨ad, cp, rfl⟩ := own_slice hrow.own
      have HRW := Bas.hid hrow
      clear hrow
      go_wp2_with (fail)
      refine HR.out.mono ?_
      rintro e w3 ⟨hb3, h⟩
      rw [hp] at h
      obtain ⟨v2, rs2, rfl, hrow2⟩ := h
      obtain ⟨ad2, cp2, rfl⟩ := own_slice hrow2.own
      have HB3 := Bas.hid (Bas.on HB2.out hb3)
      have S := same_any a cap bs _ _ cs rs rs2 w1.heap.size w2.heap.size w3 (by omega) (by omega) (HV.out.below HB3.out) hp hcm (chRow_below HRW.out hb3) hrow2
      have HS := Bas.hid S
      clear S hb3 hrow2 hp HR HB2 HRW
      go_wp2_with (fail)
      refine HS.out.mono ?_
      rintro e w4 ⟨rfl, hb4⟩
      have HB4 := Bas.hid (Bas.on HB3.out hb4)
      clear hb4 HS HB3
      go_wp2_with (fail)
      go_ret
      exact ⟨rfl, HB4.out⟩
end Ch
end Go.Proofs.Ytgddghplhdmfdaa
