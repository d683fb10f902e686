/- The walk of the law VerbPairs. -/
import Derived.Test.YtakpppgikgimnaaVerbKeepsW
namespace Go.Proofs.Ytakpppgikgimnaa
open Go.RowKit
namespace Vb

def F (v n i : Nat) : Int := ordF (endsV v).1 (endsV v).2.1 (endsV v).2.2.1 (endsV v).2.2.2 n i

/-- Two verbs undo each other. -/
def Undo (a b : Nat) : Prop := ∀ n i : Nat, 4 ≤ n → i < n → ∃ j : Nat, j < n ∧ F b n i = j ∧ F a n j = i

theorem undo_1_2 : Undo 1 2 := by
  intro n i hn hi
  have hb : 0 ≤ F 2 n i ∧ F 2 n i < n := ordF_bd _ _ _ _ n i (by simp [endsV]; omega) hi
  refine ⟨(F 2 n i).toNat, by omega, by omega, ?_⟩
  generalize hy : F 2 n i = y at hb
  obtain ⟨j, rfl⟩ := Int.eq_ofNat_of_zero_le hb.1
  rw [Int.toNat_natCast]
  simp only [F, endsV, ordF, Bool.false_eq_true, if_false] at hy ⊢
  repeat' split at hy
  all_goals repeat' split
  all_goals omega

theorem undo_2_1 : Undo 2 1 := by
  intro n i hn hi
  have hb : 0 ≤ F 1 n i ∧ F 1 n i < n := ordF_bd _ _ _ _ n i (by simp [endsV]; omega) hi
  refine ⟨(F 1 n i).toNat, by omega, by omega, ?_⟩
  generalize hy : F 1 n i = y at hb
  obtain ⟨j, rfl⟩ := Int.eq_ofNat_of_zero_le hb.1
  rw [Int.toNat_natCast]
  simp only [F, endsV, ordF, Bool.false_eq_true, if_false] at hy ⊢
  repeat' split at hy
  all_goals repeat' split
  all_goals omega

theorem undo_3_3 : Undo 3 3 := by
  intro n i hn hi
  have hb : 0 ≤ F 3 n i ∧ F 3 n i < n := ordF_bd _ _ _ _ n i (by simp [endsV]; omega) hi
  refine ⟨(F 3 n i).toNat, by omega, by omega, ?_⟩
  generalize hy : F 3 n i = y at hb
  obtain ⟨j, rfl⟩ := Int.eq_ofNat_of_zero_le hb.1
  rw [Int.toNat_natCast]
  simp only [F, endsV, ordF, Bool.false_eq_true, if_false] at hy ⊢
  repeat' split at hy
  all_goals repeat' split
  all_goals omega

theorem undo_4_6 : Undo 4 6 := by
  intro n i hn hi
  have hb : 0 ≤ F 6 n i ∧ F 6 n i < n := ordF_bd _ _ _ _ n i (by simp [endsV]; omega) hi
  refine ⟨(F 6 n i).toNat, by omega, by omega, ?_⟩
  generalize hy : F 6 n i = y at hb
  obtain ⟨j, rfl⟩ := Int.eq_ofNat_of_zero_le hb.1
  rw [Int.toNat_natCast]
  simp only [F, endsV, ordF, Bool.false_eq_true, if_false] at hy ⊢
  repeat' split at hy
  all_goals repeat' split
  all_goals omega

theorem undo_6_4 : Undo 6 4 := by
  intro n i hn hi
  have hb : 0 ≤ F 4 n i ∧ F 4 n i < n := ordF_bd _ _ _ _ n i (by simp [endsV]; omega) hi
  refine ⟨(F 4 n i).toNat, by omega, by omega, ?_⟩
  generalize hy : F 4 n i = y at hb
  obtain ⟨j, rfl⟩ := Int.eq_ofNat_of_zero_le hb.1
  rw [Int.toNat_natCast]
  simp only [F, endsV, ordF, Bool.false_eq_true, if_false] at hy ⊢
  repeat' split at hy
  all_goals repeat' split
  all_goals omega

theorem undo_8_10 : Undo 8 10 := by
  intro n i hn hi
  have hb : 0 ≤ F 10 n i ∧ F 10 n i < n := ordF_bd _ _ _ _ n i (by simp [endsV]; omega) hi
  refine ⟨(F 10 n i).toNat, by omega, by omega, ?_⟩
  generalize hy : F 10 n i = y at hb
  obtain ⟨j, rfl⟩ := Int.eq_ofNat_of_zero_le hb.1
  rw [Int.toNat_natCast]
  simp only [F, endsV, ordF, Bool.false_eq_true, if_false] at hy ⊢
  repeat' split at hy
  all_goals repeat' split
  all_goals omega

theorem undo_10_8 : Undo 10 8 := by
  intro n i hn hi
  have hb : 0 ≤ F 8 n i ∧ F 8 n i < n := ordF_bd _ _ _ _ n i (by simp [endsV]; omega) hi
  refine ⟨(F 8 n i).toNat, by omega, by omega, ?_⟩
  generalize hy : F 8 n i = y at hb
  obtain ⟨j, rfl⟩ := Int.eq_ofNat_of_zero_le hb.1
  rw [Int.toNat_natCast]
  simp only [F, endsV, ordF, Bool.false_eq_true, if_false] at hy ⊢
  repeat' split at hy
  all_goals repeat' split
  all_goals omega

theorem undo_12_12 : Undo 12 12 := by
  intro n i hn hi
  have hb : 0 ≤ F 12 n i ∧ F 12 n i < n := ordF_bd _ _ _ _ n i (by simp [endsV]; omega) hi
  refine ⟨(F 12 n i).toNat, by omega, by omega, ?_⟩
  generalize hy : F 12 n i = y at hb
  obtain ⟨j, rfl⟩ := Int.eq_ofNat_of_zero_le hb.1
  rw [Int.toNat_natCast]
  simp only [F, endsV, ordF, Bool.false_eq_true, if_false] at hy ⊢
  repeat' split at hy
  all_goals repeat' split
  all_goals omega

theorem undo_15_15 : Undo 15 15 := by
  intro n i hn hi
  have hb : 0 ≤ F 15 n i ∧ F 15 n i < n := ordF_bd _ _ _ _ n i (by simp [endsV]; omega) hi
  refine ⟨(F 15 n i).toNat, by omega, by omega, ?_⟩
  generalize hy : F 15 n i = y at hb
  obtain ⟨j, rfl⟩ := Int.eq_ofNat_of_zero_le hb.1
  rw [Int.toNat_natCast]
  simp only [F, endsV, ordF, Bool.false_eq_true, if_false, if_true] at hy ⊢
  repeat' split at hy
  all_goals repeat' split
  all_goals omega

set_option maxRecDepth 100000 in
set_option maxHeartbeats 2000000 in
theorem verbPairs_walk (n : Int) (w : World) (_wn : (Lit.int .i64 n).wf = true) :
    Calls Try.prog 14 #[.int .i64 n] w fun e w' => e = .returned (.bool true) ∧ Below w.heap.size w w' := by
  by_cases hs : n < 4
  · go_enter Try.func14, Try.ntmps14
    go_wp2_with (fail)
    refine (speaks_any _).mono ?_
    rintro e w1 ⟨rfl, hb1⟩
    go_wp2_with (fail)
    go_ret
    exact ⟨rfl, hb1⟩
  by_cases hb : 200 < n
  · go_enter Try.func14, Try.ntmps14
    go_wp2_with (fail)
    refine (speaks_any _).mono ?_
    rintro e w1 ⟨rfl, hb1⟩
    go_wp2_with (fail)
    go_ret
    exact ⟨rfl, hb1⟩
  obtain ⟨m, rfl⟩ := Int.eq_ofNat_of_zero_le (by omega : 0 ≤ n)
  have hm4 : 4 ≤ m := by omega
  have hm2 : m ≤ 200 := by omega
  have hi : ∀ (k : Nat), k < 9 → ∃ a b : Nat, (∀ w, (Instr.index 70 (.agg #[.int .i64 1, .int .i64 2, .int .i64 2, .int .i64 1, .int .i64 3, .int .i64 3, .int .i64 4, .int .i64 6, .int .i64 6, .int .i64 4, .int .i64 8, .int .i64 10, .int .i64 10, .int .i64 8, .int .i64 12, .int .i64 12, .int .i64 15, .int .i64 15]) (.int .i64 k)).run Try.prog w = .ok (.agg #[.int .i64 a, .int .i64 b]) w) ∧ 1 ≤ a ∧ a ≤ 15 ∧ 1 ≤ b ∧ b ≤ 15 ∧ Undo a b := by
    intro k hk
    rcases (by omega : k = 0 ∨ k = 1 ∨ k = 2 ∨ k = 3 ∨ k = 4 ∨ k = 5 ∨ k = 6 ∨ k = 7 ∨ k = 8) with rfl | rfl | rfl | rfl | rfl | rfl | rfl | rfl | rfl
    · exact ⟨1, 2, fun _ => by kernel_rfl, by omega, by omega, by omega, by omega, undo_1_2⟩
    · exact ⟨2, 1, fun _ => by kernel_rfl, by omega, by omega, by omega, by omega, undo_2_1⟩
    · exact ⟨3, 3, fun _ => by kernel_rfl, by omega, by omega, by omega, by omega, undo_3_3⟩
    · exact ⟨4, 6, fun _ => by kernel_rfl, by omega, by omega, by omega, by omega, undo_4_6⟩
    · exact ⟨6, 4, fun _ => by kernel_rfl, by omega, by omega, by omega, by omega, undo_6_4⟩
    · exact ⟨8, 10, fun _ => by kernel_rfl, by omega, by omega, by omega, by omega, undo_8_10⟩
    · exact ⟨10, 8, fun _ => by kernel_rfl, by omega, by omega, by omega, by omega, undo_10_8⟩
    · exact ⟨12, 12, fun _ => by kernel_rfl, by omega, by omega, by omega, by omega, undo_12_12⟩
    · exact ⟨15, 15, fun _ => by kernel_rfl, by omega, by omega, by omega, by omega, undo_15_15⟩
  have HI := Bas.hid hi
  clear hi hs hb
  go_enter Try.func14, Try.ntmps14
  go_wp2_with (fail)
  refine (speaks_any _).mono ?_
  rintro e w1 ⟨rfl, hb1⟩
  go_wp2_with (fail)
  go_loopw [28] (fun c wr => ∃ k : Nat, k ≤ 9 ∧ c = .int .i64 k ∧ Below w.heap.size w wr) (fun c _ => 9 - (intOf c).toNat)
  case atStart => exact ⟨0, by omega, rfl, hb1⟩
  case round =>
    obtain ⟨k, hk, rfl, hbr⟩ := hrel
    by_cases hk9 : k < 9
    · obtain ⟨a, b, hidx, a1, a2, b1, b2, hU⟩ := HI.out k hk9
      have hla := ends_le a
      have hlb := ends_le b
      have OA := fun w => order_yes a m w a1 a2 (by omega) (by omega)
      have OB := fun w => order_yes b m w b1 b2 (by omega) (by omega)
      have lenA := order_len a m (by omega)
      have lenB := order_len b m (by omega)
      have getA := fun i hi => order_get a m i (by omega) hi
      have getB := fun i hi => order_get b m i (by omega) hi
      have HOA := Bas.hid OA
      have HOB := Bas.hid OB
      have HU := Bas.hid hU
      clear OA OB hU
      go_wp2_with (fail)
      refine (HOA.out _).mono ?_
      rintro e w2 ⟨va, rfl, hownA, hb2⟩
      have HB2 : Below w.heap.size w w2 := hbr.trans ((((Below.refl _ _).alloc (Nat.le_refl _) _).trans (hb2.mono (by simp))).mono hbr.size)
      obtain ⟨hc2, hf2⟩ := Bas.bcell hb2
      have hz2 : wr.heap.size < w2.heap.size := by have := hb2.size; simp at this; omega
      go_wp2_with (fail)
      refine (HOB.out _).mono ?_
      rintro e w3 ⟨vb, rfl, hownB, hb3⟩
      have HB3 : Below w.heap.size w w3 := HB2.trans (hb3.mono HB2.size)
      have hownA' := Row.owned_below hownA hb3
      rw [lenA] at hownA'
      rw [lenB] at hownB
      rcases Row.owned_parts hownA' with ⟨_, h0, _⟩ | ⟨ga, ca, rfl, hga, hgla, hca, hma, hcA, hfA⟩
      · omega
      rcases Row.owned_parts hownB with ⟨_, h0, _⟩ | ⟨gb, cb, rfl, hgb, hglb, hcb, hmb, hcB, hfB⟩
      · omega
      have hA : Hid (∀ i, i < m → w3.cell? ⟨ga, i, none⟩ = some (.int .i64 (F a m i))) := fun i hi => hcA i _ (by rw [List.getElem?_map, getA i hi]; rfl)
      have hB : Hid (∀ i, i < m → w3.cell? ⟨gb, i, none⟩ = some (.int .i64 (F b m i))) := fun i hi => hcB i _ (by rw [List.getElem?_map, getB i hi]; rfl)
      have HIDX := Bas.hid hidx
      clear hidx hc2 hf2 hownA hownA' hownB hcA hcB hfA hfB getA getB lenA lenB hb2 hb3 HOA HOB
      go_wp2_with (fail)
      go_loop [64] (fun c => ∃ i : Nat, i ≤ m ∧ c = .int .i64 i) (fun c => m - (intOf c).toNat)
      case atStart => exact ⟨0, by omega, rfl⟩
      case round =>
        obtain ⟨i, hi, rfl⟩ := hrel
        by_cases him : i < m
        · obtain ⟨j, hj, e1, e2⟩ := HU.out m i hm4 him
          have c1 := hB.out i him
          have c2 := hA.out j hj
          rw [e1] at c1
          rw [e2] at c2
          clear e1 e2
          go_wp2_with (fail)
          go_round
          case rel => exact ⟨i + 1, by omega, by go_num⟩
          case measure => simp [intOf]; omega
        · go_wp2_with (fail)
          go_roundw
          case rel => exact ⟨k + 1, by omega, by go_num, HB3⟩
          case measure => simp [intOf]; omega
    · go_wp2_with (fail)
      go_ret
      exact ⟨rfl, hbr⟩
end Vb
end Go.Proofs.Ytakpppgikgimnaa
