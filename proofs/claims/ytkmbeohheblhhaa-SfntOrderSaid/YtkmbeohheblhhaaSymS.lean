/- slices.SortStableFunc at parts, no more than 30 of them. -/
import Derived.Test.YtkmbeohheblhhaaSymN
namespace Go.Proofs.Ytkmbeohheblhhaa
open Go.RowKit
namespace Sy
open Fo

theorem insertion_all (base n a b : Nat) (sv : Value) (D : Nat → Pt) (w : World) (h : At w base n sv D) (hn : n ≤ 1000) (hab : a ≤ b) (hb : b ≤ n) :
    Calls Try.prog 47 #[sv, .int .i64 a, .int .i64 b, .func (.func 23) #[] #[]] w (SrtP base n a b sv D w) := by
  by_cases h1 : a < b
  · exact insertion_any base n a b sv D w h hn h1 hb
  · exact insertion_none base n a b sv D w h (by omega) (by omega)

set_option maxRecDepth 100000 in
set_option maxHeartbeats 4000000 in
theorem stable_lo (base n : Nat) (sv : Value) (D : Nat → Pt) (w : World) (h : At w base n sv D) (hn : n < 20) :
    Calls Try.prog 39 #[sv, .int .i64 n, .func (.func 23) #[] #[]] w (SrtP base n 0 n sv D w) := by
  have HC := Bas.hid (insertion_all base n 0 n sv D w h (by omega) (by omega) (by omega))
  have e1 : decide ((20 : Int) ≤ (n : Int)) = false := by simp; omega
  have e2 : decide (20 ≤ n) = false := by simp; omega
  have e3 : decide ((20 : Int) < (n : Int)) = false := by simp; omega
  have e4 : decide (20 < n) = false := by simp; omega
  clear h
  go_enter Try.func39, Try.ntmps39
  go_wp2_with (fail)
  go_loopw [7, 8] (fun va vb wr => va = .int .i64 0 ∧ vb = .int .i64 20 ∧ wr = w) (fun _ _ _ => 0)
  case atStart => exact ⟨rfl, rfl, rfl⟩
  case round =>
    obtain ⟨rfl, rfl, rfl⟩ := hrel
    go_wp2_with (fail)
    refine HC.out.mono ?_
    rintro e w2 ⟨rfl, E, ha2, hs2, hp2, hg2⟩
    have HP : Hid (SrtP base n 0 n sv D wr (.returned (.tuple #[])) w2) := ⟨rfl, E, ha2, hs2, hp2, hg2⟩
    clear ha2 hs2 hp2 hg2 HC
    go_wp2_with (fail)
    go_loopw [6] (fun v6 w3 => v6 = .int .i64 20 ∧ w3 = w2) (fun _ _ => 0)
    case atStart => exact ⟨rfl, rfl⟩
    case round =>
      obtain ⟨rfl, rfl⟩ := hrel
      go_wp2_with (fail)
      go_end0
      exact HP.out

set_option maxRecDepth 100000 in
set_option maxHeartbeats 4000000 in
theorem stable_hi (base n : Nat) (sv : Value) (D : Nat → Pt) (w : World) (h : At w base n sv D) (hn : 20 ≤ n) (hn2 : n ≤ 30) :
    Calls Try.prog 39 #[sv, .int .i64 n, .func (.func 23) #[] #[]] w (SrtP base n 0 n sv D w) := by
  have HC := Bas.hid (insertion_all base n 0 20 sv D w h (by omega) (by omega) hn)
  have e1 : decide ((20 : Int) ≤ (n : Int)) = true := by simp; omega
  have e2 : decide (20 ≤ n) = true := by simp; omega
  have e3 : decide ((40 : Int) ≤ (n : Int)) = false := by simp; omega
  have e4 : decide (40 ≤ n) = false := by simp; omega
  have e5 : decide ((40 : Int) < (n : Int)) = false := by simp; omega
  have e6 : decide (40 < n) = false := by simp; omega
  clear h
  go_enter Try.func39, Try.ntmps39
  go_wp2_with (fail)
  go_loopw [7, 8] (fun va vb wr => va = .int .i64 0 ∧ vb = .int .i64 20 ∧ wr = w ∨ va = .int .i64 20 ∧ vb = .int .i64 40 ∧ ∃ E, At wr base n sv E ∧ Srt ltP E 0 20 ∧ Pm 0 20 D E ∧ w.grownBy wr sv.ownBlock) (fun _ vb _ => 40 - (intOf vb).toNat)
  case atStart => exact .inl ⟨rfl, rfl, rfl⟩
  case round =>
    rcases hrel with ⟨rfl, rfl, rfl⟩ | ⟨rfl, rfl, E, ha, hs, hp, hg⟩
    · go_wp2_with (fail)
      refine HC.out.mono ?_
      rintro e w2 ⟨rfl, E, ha2, hs2, hp2, hg2⟩
      have HP : Hid (∃ E, At w2 base n sv E ∧ Srt ltP E 0 20 ∧ Pm 0 20 D E ∧ wr.grownBy w2 sv.ownBlock) := ⟨E, ha2, hs2, hp2, hg2⟩
      clear ha2 hs2 hp2 hg2 HC
      go_wp2_with (fail)
      go_roundw
      case rel => exact .inr ⟨rfl, rfl, HP.out⟩
      case measure => simp [intOf]
    · have HI := Bas.hid (insertion_all base n 20 n sv E wr ha (by omega) hn (Nat.le_refl _))
      have HS := Bas.hid hs
      have HP := Bas.hid hp
      have HG := Bas.hid hg
      clear ha hs hp hg HC
      go_wp2_with (fail)
      refine HI.out.mono ?_
      rintro e w2 ⟨rfl, E2, ha2, hs2, hp2, hg2⟩
      have HA2 := Bas.hid ha2
      have HS2 := Bas.hid hs2
      have HS1 : Hid (Srt ltP E2 0 20) := HS.out.same fun i _ hi => hp2.out (.inl hi)
      have HP2 : Hid (Pm 0 n D E2) := (HP.out.wide (Nat.le_refl _) hn).trans (hp2.wide (Nat.zero_le _) (Nat.le_refl _))
      have HG2 := Bas.hid (Bas.gtrans HG.out hg2)
      clear ha2 hs2 hp2 hg2 HI HS HP HG
      go_wp2_with (fail)
      go_loopw [6] (fun v6 w3 => v6 = .int .i64 20 ∧ w3 = w2 ∨ v6 = .int .i64 40 ∧ SrtP base n 0 n sv D w (.returned (.tuple #[])) w3) (fun v6 _ => 40 - (intOf v6).toNat)
      case atStart => exact .inl ⟨rfl, rfl⟩
      case round =>
        rcases hrel with ⟨rfl, rfl⟩ | ⟨rfl, hsp⟩
        · by_cases hn20 : n = 20
          · subst hn20
            clear e1 e2 e3 e4 e5 e6
            go_wp2_with (fail)
            go_end0
            exact ⟨rfl, E2, HA2.out, HS1.out, HP2.out, HG2.out⟩
          · have f1 : decide ((20 : Int) < (n : Int)) = true := by simp; omega
            have f2 : decide (20 < n) = true := by simp; omega
            have HM := Bas.hid (symMerge_any base n sv (by omega) n 0 20 n E2 wr (by omega) HA2.out (by omega) (by omega) (Nat.le_refl _) HS1.out HS2.out)
            go_wp2_with (fail)
            go_loopw [7, 8] (fun va vb w4 => va = .int .i64 0 ∧ vb = .int .i64 40 ∧ w4 = wr) (fun _ _ _ => 0)
            case atStart => exact ⟨rfl, rfl, rfl⟩
            case round =>
              obtain ⟨rfl, rfl, rfl⟩ := hrel
              go_wp2_with (fail)
              refine HM.out.mono ?_
              rintro e w5 ⟨rfl, E3, ha5, hs5, hp5, hg5⟩
              have HX : Hid (SrtP base n 0 n sv D w (.returned (.tuple #[])) w5) := ⟨rfl, E3, ha5, hs5, HP2.out.trans hp5, Bas.gtrans HG2.out hg5⟩
              clear ha5 hs5 hp5 hg5 HM
              go_wp2_with (fail)
              go_roundw
              case rel => exact .inr ⟨rfl, HX.out⟩
              case measure => simp [intOf]
        · have HX := Bas.hid hsp
          clear hsp
          go_wp2_with (fail)
          go_end0
          exact HX.out

set_option maxHeartbeats 1000000 in
theorem sort_any (base n : Nat) (ad : Option Addr) (cp : Nat) (D : Nat → Pt) (w : World) (h : At w base n (.slice ad n cp) D) (hn2 : n ≤ 30) :
    Calls Try.prog 22 #[.slice ad n cp, .func (.func 23) #[] #[]] w (SrtP base n 0 n (.slice ad n cp) D w) := by
  have HC : Hid (Calls Try.prog 39 #[.slice ad n cp, .int .i64 n, .func (.func 23) #[] #[]] w (SrtP base n 0 n (.slice ad n cp) D w)) := by
    by_cases hn : n < 20
    · exact stable_lo base n _ D w h hn
    · exact stable_hi base n _ D w h (by omega) hn2
  clear h
  go_enter Try.func22, Try.ntmps22
  go_wp2_with (fail)
  refine HC.out.mono ?_
  rintro e w2 ⟨rfl, hx⟩
  have HX := Bas.hid hx
  clear hx HC
  go_wp2_with (fail)
  go_end0
  exact ⟨rfl, HX.out⟩
end Sy
end Go.Proofs.Ytkmbeohheblhhaa
