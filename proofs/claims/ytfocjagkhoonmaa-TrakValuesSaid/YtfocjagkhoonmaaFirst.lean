/- Layer 5 (seek): First, whatever function it is handed. -/
import Derived.Test.YtfocjagkhoonmaaBase
namespace Go.Proofs.Ytfocjagkhoonmaa
open Go.RowKit
namespace Sk

/-- One question: the relation is carried on by the answer. -/
def Asked (R : Nat → Nat → World → Prop) (lo hi mid : Nat) (e : Ending) (w' : World) : Prop :=
  ∃ b, e = .returned (.bool b) ∧ ((b = true ∧ R lo mid w') ∨ (b = false ∧ R (mid + 1) hi w'))

def Found (R : Nat → Nat → World → Prop) (n : Nat) (e : Ending) (w' : World) : Prop := ∃ k : Nat, k ≤ n ∧ e = .returned (.int .i64 k) ∧ R k k w'

set_option maxHeartbeats 1000000 in
theorem first_any (K : Nat) (caps : Array Value) (R : Nat → Nat → World → Prop) (n : Nat) (w : World) (hn : n ≤ 4294967296) (hcf : ∀ args w, (callFunc K args).run Try.prog w = .ok (.enter K args) w)
    (hstep : ∀ (lo hi : Nat) (w : World), lo < hi → hi ≤ n → R lo hi w → Calls Try.prog K (#[.int .i64 ((lo + (hi - lo) / 2 : Nat) : Int)] ++ caps) w (Asked R lo hi (lo + (hi - lo) / 2))) (h0 : R 0 n w) :
    Calls Try.prog 72 #[.int .i64 n, .func (.func K) #[] caps] w (Found R n) := by
  have HS := Bas.hid hstep
  clear hstep
  go_enter Try.func72, Try.ntmps72
  go_wp2_with (fail)
  go_loopw [5, 6] (fun a b wr => ∃ lo hi : Nat, lo ≤ hi ∧ hi ≤ n ∧ a = .int .i64 lo ∧ b = .int .i64 hi ∧ R lo hi wr) (fun a b _ => (intOf b - intOf a).toNat)
  case atStart => exact ⟨0, n, by omega, by omega, rfl, rfl, h0⟩
  case round =>
    obtain ⟨lo, hi, hlh, hhn, rfl, rfl, hR⟩ := hrel
    have HR := Bas.hid hR
    clear hR h0
    by_cases hlt : lo < hi
    · have C := HS.out lo hi wr hlt hhn HR.out
      have e1 : ((lo : Int) + ((hi : Int) - (lo : Int)) / 2) = ((lo + (hi - lo) / 2 : Nat) : Int) := by omega
      have hm1 : lo ≤ lo + (hi - lo) / 2 := by omega
      have hm2 : lo + (hi - lo) / 2 < hi := by omega
      rw [← e1] at C
      have HC := Bas.hid C
      have HE := Bas.hid e1
      clear C e1
      go_wp2_with (fail)
      refine HC.out.mono ?_
      rintro e w2 ⟨b, rfl, ⟨rfl, hR2⟩ | ⟨rfl, hR2⟩⟩
      · have HR2 := Bas.hid hR2
        clear hR2
        go_wp2_with (fail)
        go_roundw
        case rel => exact ⟨lo, lo + (hi - lo) / 2, hm1, by omega, rfl, by rw [HE.out], HR2.out⟩
        case measure => simp [intOf]; omega
      · have HR2 := Bas.hid hR2
        clear hR2
        go_wp2_with (fail)
        go_roundw
        case rel => exact ⟨lo + (hi - lo) / 2 + 1, hi, by omega, hhn, by rw [HE.out]; go_num, rfl, HR2.out⟩
        case measure => simp [intOf]; omega
    · have : lo = hi := by omega
      subst this
      go_wp2_with (fail)
      go_ret
      exact ⟨lo, hhn, rfl, HR.out⟩
end Sk
end Go.Proofs.Ytfocjagkhoonmaa
