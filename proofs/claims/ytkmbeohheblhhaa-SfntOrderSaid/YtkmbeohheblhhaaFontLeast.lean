/- Layer 2 (the reference's Make): the least part above another. -/
import Derived.Test.YtkmbeohheblhhaaFontD
namespace Go.Proofs.Ytkmbeohheblhhaa
open Go.RowKit
namespace Fo
open Vw

def ltS (a b : ByteArray) : Bool := Op.bytesLess a.toList b.toList
def gtS (a b : ByteArray) : Bool := !(Op.bytesLess a.toList b.toList || a.toList == b.toList)
def leastStep (T : List ByteArray) (above : ByteArray) (fst' : Bool) (best : Int) (i : Nat) : Int :=
  if (fst' || gtS (T.getD i ⟨#[]⟩) above) && (decide (best < 0) || ltS (T.getD i ⟨#[]⟩) (T.getD best.toNat ⟨#[]⟩)) then i else best
def leastTo (T : List ByteArray) (above : ByteArray) (fst' : Bool) : Nat → Int
  | 0 => -1
  | k + 1 => leastStep T above fst' (leastTo T above fst' k) k

set_option maxRecDepth 100000 in
set_option maxHeartbeats 8000000 in
theorem least_core (B O n cp : Nat) (T : List ByteArray) (above : ByteArray) (fst' : Bool) (w : World) (hn : n ≤ 1000000) (hc : ∀ i, i < n → w.cell? ⟨B, O + i * 2, none⟩ = some (.string (T.getD i ⟨#[]⟩))) :
    Calls Try.prog 16 #[.slice (some ⟨B, O, none⟩) n cp, .string above, .bool fst'] w fun e w' => e = .returned (.int .i64 (leastTo T above fst' n)) ∧ Below w.heap.size w w' := by
  have HC := Bas.hid hc
  have HB0 := Bas.hid (Below.refl w.heap.size w)
  clear hc
  go_enter Try.func16, Try.ntmps16
  go_wp2_with (fail)
  go_loopw [7, 8] (fun vb vi wr => ∃ (k : Nat) (best : Int), k ≤ n ∧ vi = .int .i64 k ∧ vb = .int .i64 best ∧ leastTo T above fst' k = best ∧ (best = -1 ∨ ∃ j : Nat, best = j ∧ j < k) ∧ Below w.heap.size w wr) (fun _ vi _ => n - (intOf vi).toNat)
  case atStart => exact ⟨0, -1, Nat.zero_le _, rfl, rfl, rfl, .inl rfl, HB0.out⟩
  case round =>
    obtain ⟨k, best, hk, rfl, rfl, hbst, hbb, hb⟩ := hrel
    have HB := Bas.hid hb
    have LB : ∀ i, i < n → wr.cell? ⟨B, O + i * 2, none⟩ = some (.string (T.getD i ⟨#[]⟩)) := fun i hi => (hb.cell (p := ⟨B, O + i * 2, none⟩) (World.block_lt_of_cell? _ _ (HC.out i hi))).trans (HC.out i hi)
    clear hb HB0
    by_cases hkn : k < n
    · have e1 : decide ((k : Int) < (n : Int)) = true := by simp; omega
      have e2 : decide (k < n) = true := by simp; omega
      have ci := LB k hkn
      have li := World.block_lt_of_cell? _ _ ci
      obtain ⟨tk, htk⟩ : ∃ t, T.getD k ⟨#[]⟩ = t := ⟨_, rfl⟩
      rw [htk] at ci
      have HTK := Bas.hid htk
      clear htk
      cases fst' with
      | true =>
        rcases hbb with rfl | ⟨j, rfl, hjk⟩
        · have HST : Hid (leastTo T above true (k + 1) = (k : Int)) := by unfold Hid leastTo; rw [hbst]; unfold leastStep; rw [HTK.out]; first | (simp; done) | (simp; omega)
          clear hbst
          go_wp2_with (fail)
          refine' Pl.region_v0 44 [] [0, 1, 2, 3, 4, 5, 6, 7, 8, 9, 10, 11, 12, 13, 14, 15, 16, 17, 18, 19, 20, 21, 22, 23, 24, 25, 26] [] _ (by kernel_rfl) (by kernel_rfl) (by simp) (fun _ _ _ _ e h => ⟨e ▸ h.1, h.2⟩) ?_ ?_
          rotate_left
          · intro I F hI hF
            simp only [Pl.selN, List.nil_append, List.drop_succ_cons, List.drop_zero]
            have x1 := fun q => hF.cell li ci q
            repeat (go_big_quiet_step (fail))
            refine wpQuiet_nil ?_
            rfl
          intro u hu
          simp only [Pl.selN]
          have HBU := Bas.hid (HB.out.trans (hu.mono HB.out.size))
          clear hu ci
          go_wp2_with (fail)
          go_roundw
          case rel => exact ⟨k + 1, (k : Int), by omega, by go_num, rfl, HST.out, .inr ⟨k, rfl, by omega⟩, HBU.out⟩
          case measure => simp [intOf]; omega
        · have hcj := LB j (by omega)
          have dj : decide ((j : Int) < 0) = false := by simp
          have lb := World.block_lt_of_cell? _ _ hcj
          obtain ⟨tj, htj⟩ : ∃ t, T.getD j ⟨#[]⟩ = t := ⟨_, rfl⟩
          have cb := hcj
          rw [htj] at cb
          have HTJ := Bas.hid htj
          clear hcj htj
          cases h3 : Op.bytesLess tk.toList tj.toList with
          | true =>
            have HST : Hid (leastTo T above true (k + 1) = (k : Int)) := by unfold Hid leastTo; rw [hbst]; unfold leastStep; rw [HTK.out, Int.toNat_natCast, HTJ.out]; first | (simp [ltS, h3]; done) | (simp [ltS, h3]; omega)
            clear hbst
            go_wp2_with (fail)
            refine' Pl.region_v0 44 [] [0, 1, 2, 3, 4, 5, 6, 7, 8, 9, 10, 11, 12, 13, 14, 15, 16, 17, 18, 19, 20, 21, 22, 23, 24, 25, 26] [] _ (by kernel_rfl) (by kernel_rfl) (by simp) (fun _ _ _ _ e h => ⟨e ▸ h.1, h.2⟩) ?_ ?_
            rotate_left
            · intro I F hI hF
              simp only [Pl.selN, List.nil_append, List.drop_succ_cons, List.drop_zero]
              have x1 := fun q => hF.cell li ci q
              have x2 := fun q => hF.cell lb cb q
              repeat (go_big_quiet_step (fail))
              refine wpQuiet_nil ?_
              rfl
            intro u hu
            simp only [Pl.selN]
            have HBU := Bas.hid (HB.out.trans (hu.mono HB.out.size))
            clear hu ci cb
            go_wp2_with (fail)
            go_roundw
            case rel => exact ⟨k + 1, (k : Int), by omega, by go_num, rfl, HST.out, .inr ⟨k, rfl, by omega⟩, HBU.out⟩
            case measure => simp [intOf]; omega
          | false =>
            have HST : Hid (leastTo T above true (k + 1) = (j : Int)) := by unfold Hid leastTo; rw [hbst]; unfold leastStep; rw [HTK.out, Int.toNat_natCast, HTJ.out]; first | (simp [ltS, h3]; done) | (simp [ltS, h3]; omega)
            clear hbst
            go_wp2_with (fail)
            refine' Pl.region_v0 44 [] [0, 1, 2, 3, 4, 5, 6, 7, 8, 9, 10, 11, 12, 13, 14, 15, 16, 17, 18, 19, 20, 21, 22, 23, 24, 25, 26] [] _ (by kernel_rfl) (by kernel_rfl) (by simp) (fun _ _ _ _ e h => ⟨e ▸ h.1, h.2⟩) ?_ ?_
            rotate_left
            · intro I F hI hF
              simp only [Pl.selN, List.nil_append, List.drop_succ_cons, List.drop_zero]
              have x1 := fun q => hF.cell li ci q
              have x2 := fun q => hF.cell lb cb q
              repeat (go_big_quiet_step (fail))
              refine wpQuiet_nil ?_
              rfl
            intro u hu
            simp only [Pl.selN]
            have HBU := Bas.hid (HB.out.trans (hu.mono HB.out.size))
            clear hu ci cb
            go_wp2_with (fail)
            go_roundw
            case rel => exact ⟨k + 1, (j : Int), by omega, by go_num, rfl, HST.out, .inr ⟨j, rfl, by omega⟩, HBU.out⟩
            case measure => simp [intOf]; omega
      | false =>
        cases h1 : Op.bytesLess tk.toList above.toList with
        | true =>
          rcases hbb with rfl | ⟨j, rfl, hjk⟩
          · have HST : Hid (leastTo T above false (k + 1) = -1) := by unfold Hid leastTo; rw [hbst]; unfold leastStep; rw [HTK.out]; first | (simp [gtS, h1]; done) | (simp [gtS, h1]; omega)
            clear hbst
            go_wp2_with (fail)
            refine' Pl.region_v0 44 [] [0, 1, 2, 3, 4, 5, 6, 7, 8, 9, 10, 11, 12, 13, 14, 15, 16, 17, 18, 19, 20, 21, 22, 23, 24, 25, 26] [] _ (by kernel_rfl) (by kernel_rfl) (by simp) (fun _ _ _ _ e h => ⟨e ▸ h.1, h.2⟩) ?_ ?_
            rotate_left
            · intro I F hI hF
              simp only [Pl.selN, List.nil_append, List.drop_succ_cons, List.drop_zero]
              have x1 := fun q => hF.cell li ci q
              repeat (go_big_quiet_step (fail))
              refine wpQuiet_nil ?_
              rfl
            intro u hu
            simp only [Pl.selN]
            have HBU := Bas.hid (HB.out.trans (hu.mono HB.out.size))
            clear hu ci
            go_wp2_with (fail)
            go_roundw
            case rel => exact ⟨k + 1, -1, by omega, by go_num, rfl, HST.out, .inl rfl, HBU.out⟩
            case measure => simp [intOf]; omega
          · have HST : Hid (leastTo T above false (k + 1) = (j : Int)) := by unfold Hid leastTo; rw [hbst]; unfold leastStep; rw [HTK.out]; first | (simp [gtS, h1]; done) | (simp [gtS, h1]; omega)
            clear hbst
            go_wp2_with (fail)
            refine' Pl.region_v0 44 [] [0, 1, 2, 3, 4, 5, 6, 7, 8, 9, 10, 11, 12, 13, 14, 15, 16, 17, 18, 19, 20, 21, 22, 23, 24, 25, 26] [] _ (by kernel_rfl) (by kernel_rfl) (by simp) (fun _ _ _ _ e h => ⟨e ▸ h.1, h.2⟩) ?_ ?_
            rotate_left
            · intro I F hI hF
              simp only [Pl.selN, List.nil_append, List.drop_succ_cons, List.drop_zero]
              have x1 := fun q => hF.cell li ci q
              repeat (go_big_quiet_step (fail))
              refine wpQuiet_nil ?_
              rfl
            intro u hu
            simp only [Pl.selN]
            have HBU := Bas.hid (HB.out.trans (hu.mono HB.out.size))
            clear hu ci
            go_wp2_with (fail)
            go_roundw
            case rel => exact ⟨k + 1, (j : Int), by omega, by go_num, rfl, HST.out, .inr ⟨j, rfl, by omega⟩, HBU.out⟩
            case measure => simp [intOf]; omega
        | false =>
          cases h2 : tk.toList == above.toList with
          | true =>
            rcases hbb with rfl | ⟨j, rfl, hjk⟩
            · have HST : Hid (leastTo T above false (k + 1) = -1) := by unfold Hid leastTo; rw [hbst]; unfold leastStep; rw [HTK.out]; first | (simp [gtS, h1, h2]; done) | (simp [gtS, h1, h2]; omega)
              clear hbst
              go_wp2_with (fail)
              refine' Pl.region_v0 44 [] [0, 1, 2, 3, 4, 5, 6, 7, 8, 9, 10, 11, 12, 13, 14, 15, 16, 17, 18, 19, 20, 21, 22, 23, 24, 25, 26] [] _ (by kernel_rfl) (by kernel_rfl) (by simp) (fun _ _ _ _ e h => ⟨e ▸ h.1, h.2⟩) ?_ ?_
              rotate_left
              · intro I F hI hF
                simp only [Pl.selN, List.nil_append, List.drop_succ_cons, List.drop_zero]
                have x1 := fun q => hF.cell li ci q
                repeat (go_big_quiet_step (fail))
                refine wpQuiet_nil ?_
                rfl
              intro u hu
              simp only [Pl.selN]
              have HBU := Bas.hid (HB.out.trans (hu.mono HB.out.size))
              clear hu ci
              go_wp2_with (fail)
              go_roundw
              case rel => exact ⟨k + 1, -1, by omega, by go_num, rfl, HST.out, .inl rfl, HBU.out⟩
              case measure => simp [intOf]; omega
            · have HST : Hid (leastTo T above false (k + 1) = (j : Int)) := by unfold Hid leastTo; rw [hbst]; unfold leastStep; rw [HTK.out]; first | (simp [gtS, h1, h2]; done) | (simp [gtS, h1, h2]; omega)
              clear hbst
              go_wp2_with (fail)
              refine' Pl.region_v0 44 [] [0, 1, 2, 3, 4, 5, 6, 7, 8, 9, 10, 11, 12, 13, 14, 15, 16, 17, 18, 19, 20, 21, 22, 23, 24, 25, 26] [] _ (by kernel_rfl) (by kernel_rfl) (by simp) (fun _ _ _ _ e h => ⟨e ▸ h.1, h.2⟩) ?_ ?_
              rotate_left
              · intro I F hI hF
                simp only [Pl.selN, List.nil_append, List.drop_succ_cons, List.drop_zero]
                have x1 := fun q => hF.cell li ci q
                repeat (go_big_quiet_step (fail))
                refine wpQuiet_nil ?_
                rfl
              intro u hu
              simp only [Pl.selN]
              have HBU := Bas.hid (HB.out.trans (hu.mono HB.out.size))
              clear hu ci
              go_wp2_with (fail)
              go_roundw
              case rel => exact ⟨k + 1, (j : Int), by omega, by go_num, rfl, HST.out, .inr ⟨j, rfl, by omega⟩, HBU.out⟩
              case measure => simp [intOf]; omega
          | false =>
            rcases hbb with rfl | ⟨j, rfl, hjk⟩
            · have HST : Hid (leastTo T above false (k + 1) = (k : Int)) := by unfold Hid leastTo; rw [hbst]; unfold leastStep; rw [HTK.out]; first | (simp [gtS, h1, h2]; done) | (simp [gtS, h1, h2]; omega)
              clear hbst
              go_wp2_with (fail)
              refine' Pl.region_v0 44 [] [0, 1, 2, 3, 4, 5, 6, 7, 8, 9, 10, 11, 12, 13, 14, 15, 16, 17, 18, 19, 20, 21, 22, 23, 24, 25, 26] [] _ (by kernel_rfl) (by kernel_rfl) (by simp) (fun _ _ _ _ e h => ⟨e ▸ h.1, h.2⟩) ?_ ?_
              rotate_left
              · intro I F hI hF
                simp only [Pl.selN, List.nil_append, List.drop_succ_cons, List.drop_zero]
                have x1 := fun q => hF.cell li ci q
                repeat (go_big_quiet_step (fail))
                refine wpQuiet_nil ?_
                rfl
              intro u hu
              simp only [Pl.selN]
              have HBU := Bas.hid (HB.out.trans (hu.mono HB.out.size))
              clear hu ci
              go_wp2_with (fail)
              go_roundw
              case rel => exact ⟨k + 1, (k : Int), by omega, by go_num, rfl, HST.out, .inr ⟨k, rfl, by omega⟩, HBU.out⟩
              case measure => simp [intOf]; omega
            · have hcj := LB j (by omega)
              have dj : decide ((j : Int) < 0) = false := by simp
              have lb := World.block_lt_of_cell? _ _ hcj
              obtain ⟨tj, htj⟩ : ∃ t, T.getD j ⟨#[]⟩ = t := ⟨_, rfl⟩
              have cb := hcj
              rw [htj] at cb
              have HTJ := Bas.hid htj
              clear hcj htj
              cases h3 : Op.bytesLess tk.toList tj.toList with
              | true =>
                have HST : Hid (leastTo T above false (k + 1) = (k : Int)) := by unfold Hid leastTo; rw [hbst]; unfold leastStep; rw [HTK.out, Int.toNat_natCast, HTJ.out]; first | (simp [gtS, h1, h2, ltS, h3]; done) | (simp [gtS, h1, h2, ltS, h3]; omega)
                clear hbst
                go_wp2_with (fail)
                refine' Pl.region_v0 44 [] [0, 1, 2, 3, 4, 5, 6, 7, 8, 9, 10, 11, 12, 13, 14, 15, 16, 17, 18, 19, 20, 21, 22, 23, 24, 25, 26] [] _ (by kernel_rfl) (by kernel_rfl) (by simp) (fun _ _ _ _ e h => ⟨e ▸ h.1, h.2⟩) ?_ ?_
                rotate_left
                · intro I F hI hF
                  simp only [Pl.selN, List.nil_append, List.drop_succ_cons, List.drop_zero]
                  have x1 := fun q => hF.cell li ci q
                  have x2 := fun q => hF.cell lb cb q
                  repeat (go_big_quiet_step (fail))
                  refine wpQuiet_nil ?_
                  rfl
                intro u hu
                simp only [Pl.selN]
                have HBU := Bas.hid (HB.out.trans (hu.mono HB.out.size))
                clear hu ci cb
                go_wp2_with (fail)
                go_roundw
                case rel => exact ⟨k + 1, (k : Int), by omega, by go_num, rfl, HST.out, .inr ⟨k, rfl, by omega⟩, HBU.out⟩
                case measure => simp [intOf]; omega
              | false =>
                have HST : Hid (leastTo T above false (k + 1) = (j : Int)) := by unfold Hid leastTo; rw [hbst]; unfold leastStep; rw [HTK.out, Int.toNat_natCast, HTJ.out]; first | (simp [gtS, h1, h2, ltS, h3]; done) | (simp [gtS, h1, h2, ltS, h3]; omega)
                clear hbst
                go_wp2_with (fail)
                refine' Pl.region_v0 44 [] [0, 1, 2, 3, 4, 5, 6, 7, 8, 9, 10, 11, 12, 13, 14, 15, 16, 17, 18, 19, 20, 21, 22, 23, 24, 25, 26] [] _ (by kernel_rfl) (by kernel_rfl) (by simp) (fun _ _ _ _ e h => ⟨e ▸ h.1, h.2⟩) ?_ ?_
                rotate_left
                · intro I F hI hF
                  simp only [Pl.selN, List.nil_append, List.drop_succ_cons, List.drop_zero]
                  have x1 := fun q => hF.cell li ci q
                  have x2 := fun q => hF.cell lb cb q
                  repeat (go_big_quiet_step (fail))
                  refine wpQuiet_nil ?_
                  rfl
                intro u hu
                simp only [Pl.selN]
                have HBU := Bas.hid (HB.out.trans (hu.mono HB.out.size))
                clear hu ci cb
                go_wp2_with (fail)
                go_roundw
                case rel => exact ⟨k + 1, (j : Int), by omega, by go_num, rfl, HST.out, .inr ⟨j, rfl, by omega⟩, HBU.out⟩
                case measure => simp [intOf]; omega
    · have hkn2 : k = n := by omega
      subst hkn2
      have HBST := Bas.hid hbst
      clear hbst
      go_wp2_with (fail)
      go_ret
      exact ⟨by rw [HBST.out]; rfl, HB.out⟩
end Fo
end Go.Proofs.Ytkmbeohheblhhaa
