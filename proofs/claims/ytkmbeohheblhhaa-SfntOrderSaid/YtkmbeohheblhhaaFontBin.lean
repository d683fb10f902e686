/- Layer 2 (sfnt): BinarySearchFunc by tags, and Find. -/
import Derived.Test.YtkmbeohheblhhaaFontFind
namespace Go.Proofs.Ytkmbeohheblhhaa
open Go.RowKit
namespace Fo
open Vw Wr

def BsP (w : World) (T : Nat → ByteArray) (t : ByteArray) (n : Nat) (e : Ending) (w' : World) : Prop :=
  ∃ k, k ≤ n ∧ (∀ j, j < k → ltS (T j) t = true) ∧ (∀ j, k ≤ j → j < n → ltS (T j) t = false) ∧ e = .returned (.tuple #[.int .i64 (k : Nat), .bool (decide (k < n) && (cmpS (T k) t == 0))]) ∧ Below w.heap.size w w'

set_option maxRecDepth 100000 in
set_option maxHeartbeats 4000000 in
theorem bs_any (G n cp : Nat) (T : Nat → ByteArray) (A L : Nat → Int) (t : ByteArray) (w : World) (hn : n ≤ 100000) (hc : ∀ j, j < n → w.cell? ⟨G, j * 3, none⟩ = some (.string (T j)) ∧ w.cell? ⟨G, j * 3 + 1, none⟩ = some (.int .i64 (A j)) ∧ w.cell? ⟨G, j * 3 + 2, none⟩ = some (.int .i64 (L j)))
    (hr : ∀ i j, i < j → j < n → ltS (T i) (T j) = true) :
    Calls Try.prog 37 #[.slice (some ⟨G, 0, none⟩) n cp, .string t, .func (.func 38) #[] #[]] w (BsP w T t n) := by
  have hcf : ∀ args w, (callFunc 38 args).run Try.prog w = .ok (.enter 38 args) w := fun args w => by simp [go_sem]
  have HC := Bas.hid hc
  have HR := Bas.hid hr
  have HB0 := Bas.hid (Below.refl w.heap.size w)
  clear hc hr
  go_enter Try.func37, Try.ntmps37
  go_wp2_with (fail)
  go_loopw [9, 10] (fun va vb wr => ∃ lo hi : Nat, lo ≤ hi ∧ hi ≤ n ∧ va = .int .i64 lo ∧ vb = .int .i64 hi ∧ (∀ j, j < lo → ltS (T j) t = true) ∧ (∀ j, hi ≤ j → j < n → ltS (T j) t = false) ∧ Below w.heap.size w wr) (fun va vb _ => (intOf vb).toNat - (intOf va).toNat)
  case atStart => exact ⟨0, n, by omega, by omega, rfl, rfl, fun j h => by omega, fun j h h' => by omega, HB0.out⟩
  case round =>
    obtain ⟨lo, hi, hlh, hhn, rfl, rfl, hA, hB, hb⟩ := hrel
    have HA := Bas.hid hA
    have HBB := Bas.hid hB
    have HB := Bas.hid hb
    clear hA hB hb
    by_cases hlt : lo < hi
    · have e1 : decide ((lo : Int) < (hi : Int)) = true := by simp; omega
      have e2 : decide (lo < hi) = true := by simp; omega
      obtain ⟨m, hm⟩ : ∃ m : Nat, (lo + hi) / 2 = m := ⟨_, rfl⟩
      obtain ⟨h0, h1, h2⟩ := HC.out m (by omega)
      have c0 := (HB.out.cell (p := ⟨G, m * 3, none⟩) (World.block_lt_of_cell? _ _ h0)).trans h0
      have c1 := (HB.out.cell (p := ⟨G, m * 3 + 1, none⟩) (World.block_lt_of_cell? _ _ h1)).trans h1
      have c2 := (HB.out.cell (p := ⟨G, m * 3 + 2, none⟩) (World.block_lt_of_cell? _ _ h2)).trans h2
      have hmm : ((lo : Int) + (hi : Int)) / 2 = (m : Int) := by omega
      clear h0 h1 h2
      go_wp2_with (fail)
      obtain ⟨cv, hcv⟩ : ∃ cv, cmpS (T m) t = cv := ⟨_, rfl⟩
      refine (find1_any (T m) t (A m) (L m) wr).mono ?_
      rintro e w2 ⟨rfl, hb2⟩
      have HB2 := Bas.hid (HB.out.trans (hb2.mono HB.out.size))
      have hneg := cmpS_neg (T m) t
      rw [hcv] at hneg ⊢
      have HNEG := Bas.hid hneg
      clear hb2 hcv hneg c0 c1 c2
      by_cases hl : cv < 0
      · have f1 : decide (cv < 0) = true := by simpa using hl
        have hlm := HNEG.out.1 hl
        have HA2 : Hid (∀ j, j < m + 1 → ltS (T j) t = true) := fun j hj => by
          by_cases hjm : j = m
          · subst hjm; exact hlm
          · exact ltS_trans (HR.out j m (by omega) (by omega)) hlm
        clear hl hlm
        go_wp2_with (fail)
        go_roundw
        case rel => exact ⟨m + 1, hi, by omega, hhn, by go_num, rfl, HA2.out, HBB.out, HB2.out⟩
        case measure => simp [intOf]; omega
      · have f1 : decide (cv < 0) = false := by simpa using hl
        have hlm : ltS (T m) t = false := by
          cases h : ltS (T m) t with
          | false => rfl
          | true => exact absurd (HNEG.out.2 h) hl
        have HB3 : Hid (∀ j, m ≤ j → j < n → ltS (T j) t = false) := fun j h1 h2 => by
          cases h : ltS (T j) t with
          | false => rfl
          | true =>
            by_cases hjm : m = j
            · subst hjm; rw [h] at hlm; cases hlm
            · have := ltS_trans (HR.out m j (by omega) h2) h
              rw [this] at hlm; cases hlm
        clear hl hlm
        go_wp2_with (fail)
        go_roundw
        case rel => exact ⟨lo, m, by omega, by omega, rfl, by go_num, HA.out, HB3.out, HB2.out⟩
        case measure => simp [intOf]; omega
    · have hlh2 : lo = hi := by omega
      subst hlh2
      clear hlt
      by_cases hkn : lo < n
      · have e1 : decide ((lo : Int) < (n : Int)) = true := by simp; omega
        have e2 : decide (lo < n) = true := by simp; omega
        obtain ⟨h0, h1, h2⟩ := HC.out lo hkn
        have c0 := (HB.out.cell (p := ⟨G, lo * 3, none⟩) (World.block_lt_of_cell? _ _ h0)).trans h0
        have c1 := (HB.out.cell (p := ⟨G, lo * 3 + 1, none⟩) (World.block_lt_of_cell? _ _ h1)).trans h1
        have c2 := (HB.out.cell (p := ⟨G, lo * 3 + 2, none⟩) (World.block_lt_of_cell? _ _ h2)).trans h2
        clear h0 h1 h2
        go_wp2_with (fail)
        obtain ⟨cv, hcv⟩ : ∃ cv, cmpS (T lo) t = cv := ⟨_, rfl⟩
        refine (find1_any (T lo) t (A lo) (L lo) wr).mono ?_
        rintro e w2 ⟨rfl, hb2⟩
        have HB2 := Bas.hid (HB.out.trans (hb2.mono HB.out.size))
        have HCV := Bas.hid hcv
        rw [hcv]
        have E2 := Bas.hid e2
        clear hb2 hcv c0 c1 c2 e2 e1
        go_wp2_with (fail)
        refine bodyPost_ret (v := .tuple #[.int .i64 (lo : Nat), .bool (cv == 0)]) (by simp [results, Try.results37, go_sem]) rfl ⟨lo, hhn, HA.out, HBB.out, ?_, HB2.out⟩
        rw [E2.out, HCV.out]
        rfl
      · have e1 : decide ((lo : Int) < (n : Int)) = false := by simp; omega
        have e2 : decide (lo < n) = false := by simp; omega
        have E2 := Bas.hid e2
        go_wp2_with (fail)
        refine bodyPost_ret (v := .tuple #[.int .i64 (lo : Nat), .bool false]) (by simp [results, Try.results37, go_sem]) rfl ⟨lo, hhn, HA.out, HBB.out, ?_, HB.out⟩
        rw [E2.out]
        rfl
end Fo
end Go.Proofs.Ytkmbeohheblhhaa
