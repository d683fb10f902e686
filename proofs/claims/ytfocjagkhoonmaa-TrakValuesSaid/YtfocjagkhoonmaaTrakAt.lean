/- Layer 27 (trak): floor, at, Value. -/
import Derived.Test.YtfocjagkhoonmaaTrakVal
import Derived.Test.YtfocjagkhoonmaaTrakReadB
import Derived.Test.YtfocjagkhoonmaaFirst
namespace Go.Proofs.Ytfocjagkhoonmaa
open Go.RowKit
namespace Tk
open Vw

theorem tdiv_down (a b : Int) (hb : 0 < b) (h : Int.tmod a b < 0) : Int.tdiv a b - 1 = a / b := by
  have h1 := Int.mul_tdiv_add_tmod a b
  have h2 := Int.mul_ediv_add_emod a b
  have h3 := Int.emod_nonneg a (Int.ne_of_gt hb)
  have h4 := Int.emod_lt_of_pos a hb
  have h5 := Int.lt_tmod_of_pos a hb
  generalize a / b = q at *
  generalize Int.tdiv a b = t at *
  generalize a % b = r at *
  generalize Int.tmod a b = s at *
  have e : b * (t - q) = r - s := by rw [Int.mul_sub]; omega
  have hq : t - q = 1 := by
    rcases Int.lt_trichotomy (t - q) 1 with h | h | h
    · have : b * (t - q) ≤ b * 0 := Int.mul_le_mul_of_nonneg_left (by omega) (by omega)
      omega
    · exact h
    · have : b * 2 ≤ b * (t - q) := Int.mul_le_mul_of_nonneg_left (by omega) (by omega)
      omega
  omega
theorem tdiv_even (a b : Int) (hb : 0 < b) (h : ¬ Int.tmod a b < 0) : Int.tdiv a b = a / b := by
  have h1 := Int.mul_tdiv_add_tmod a b
  have h2 := Int.mul_ediv_add_emod a b
  have h3 := Int.emod_nonneg a (Int.ne_of_gt hb)
  have h4 := Int.emod_lt_of_pos a hb
  have h5 := Int.tmod_lt_of_pos a hb
  generalize a / b = q at *
  generalize Int.tdiv a b = t at *
  generalize a % b = r at *
  generalize Int.tmod a b = s at *
  have e : b * (t - q) = r - s := by rw [Int.mul_sub]; omega
  rcases Int.lt_trichotomy (t - q) 0 with h | h | h
  · have : b * (t - q) ≤ b * (-1) := Int.mul_le_mul_of_nonneg_left (by omega) (by omega)
    omega
  · omega
  · have : b * 1 ≤ b * (t - q) := Int.mul_le_mul_of_nonneg_left (by omega) (by omega)
    omega

set_option maxHeartbeats 1000000 in
theorem floor_ok (x y : Int) (w : World) (hx : -1152921504606846976 ≤ x ∧ x ≤ 1152921504606846976) (hy : 0 < y ∧ y ≤ 1152921504606846976) :
    Calls Try.prog 74 #[.int .i64 x, .int .i64 y] w fun e w' => e = .returned (.int .i64 (x / y)) ∧ w = w' := by
  have h0 : (y == 0) = false := by simp; omega
  have hb : -1152921504606846976 ≤ Int.tdiv x y ∧ Int.tdiv x y ≤ 1152921504606846976 := by
    have := Int.natAbs_tdiv_le_natAbs x y
    omega
  have hm : -1152921504606846976 ≤ Int.tmod x y ∧ Int.tmod x y ≤ 1152921504606846976 := by
    have := Int.lt_tmod_of_pos x hy.1
    have := Int.tmod_lt_of_pos x hy.1
    omega
  by_cases hn : Int.tmod x y < 0
  · have hd := Bas.hid (tdiv_down x y hy.1 hn)
    have hnb : decide (Int.tmod x y < 0) = true := by simpa using hn
    go_enter Try.func74, Try.ntmps74
    go_wp2_with (fail)
    go_ret
    exact ⟨by rw [hd.out]; rfl, rfl⟩
  · have hd := Bas.hid (tdiv_even x y hy.1 hn)
    have hnb : decide (Int.tmod x y < 0) = false := by simpa using hn
    go_enter Try.func74, Try.ntmps74
    go_wp2_with (fail)
    go_ret
    exact ⟨by rw [hd.out]; rfl, rfl⟩

theorem leads_cell {w : World} {base : Nat} {v : Value} {l : List Int} (h : w.ownsRow base 3 1 v l.length (l.map (Value.int .i64))) :
    ∃ ad cp, v = .slice ad l.length cp ∧ ∀ j, j < l.length → ∃ G, ad = some ⟨G, 0, none⟩ ∧ G < w.heap.size ∧ w.cell? ⟨G, j, none⟩ = some (.int .i64 (l.getD j 0)) := by
  rcases Row.owned_parts h with ⟨h1, h2, _⟩ | ⟨G, cp, h1, _, hG, _, _, hc, _⟩
  · rw [h2]; exact ⟨_, _, h1, fun j hj => by omega⟩
  · exact ⟨_, _, h1, fun j hj => ⟨G, rfl, hG, hc j _ (by rw [List.getElem?_map, List.getElem?_eq_getElem hj, List.getD_eq_getElem?_getD, List.getElem?_eq_getElem hj]; rfl)⟩⟩

set_option maxHeartbeats 2000000 in
theorem at1_ok (b1 b2 : Nat) (v2 : Value) (G n cp : Nat) (x size : Int) (j : Nat) (w : World) (hj : j < n) (hn : n ≤ 65535)
    (h1 : w.heap[b1]? = some (.cells #[.slice (some ⟨G, 0, none⟩) n cp, v2] 52 (0, 0))) (h2 : w.heap[b2]? = some (.cells #[.int .i64 size] 3 (0, 0))) (hG : G < w.heap.size) (hc : w.cell? ⟨G, j, none⟩ = some (.int .i64 x)) :
    Calls Try.prog 73 #[.int .i64 j, .pointer (some ⟨b1, 0, none⟩), .pointer (some ⟨b2, 0, none⟩)] w fun e w' => e = .returned (.bool (decide (size ≤ x))) ∧ Below w.heap.size w w' := by
  have HBR := Bas.hid (Below.refl w.heap.size w)
  go_enter Try.func73, Try.ntmps73
  go_wp2_with (fail)
  refine' Pl.region_v0 12 [] [0, 1, 2, 3, 4, 5, 6, 7] [] _ (by kernel_rfl) (by kernel_rfl) (by simp) (fun _ _ _ _ e h => ⟨e ▸ h.1, h.2⟩) ?_ ?_
  rotate_left
  · intro I F hI hF
    simp only [Pl.selN, List.nil_append, List.drop_succ_cons, List.drop_zero]
    have x1 := fun i => hF.cell (heap_lt h1) (cell_of_heap (i := 0) (v := .slice (some ⟨G, 0, none⟩) n cp) h1 rfl) i
    have x2 := fun i => hF.cell (heap_lt h2) (cell_of_heap (i := 0) (v := .int .i64 size) h2 rfl) i
    have x3 := fun i => hF.cell hG hc i
    repeat (go_big_quiet_step (fail))
    refine wpQuiet_nil ?_
    rfl
  intro u hu
  simp only [Pl.selN]
  have HB := Bas.hid (HBR.out.trans hu)
  clear hu HBR
  go_wp2_with (fail)
  go_ret
  exact ⟨rfl, HB.out⟩

/-- The relation that First's rounds carry on. -/
def AtR (W : World) (S : Nat → Int) (size : Int) (n : Nat) (lo hi : Nat) (wr : World) : Prop := Below W.heap.size W wr ∧ (∀ j, j < lo → S j < size) ∧ ∀ j, hi ≤ j → j < n → size ≤ S j

/-- The value, of the place that was found. -/
def atK (S V : Nat → Int) (size : Int) (n k : Nat) : Int :=
  if n = 0 then 0 else if k = 0 then V 0 else if k = n then V (n - 1) else V (k - 1) + (V k - V (k - 1)) * (size - S (k - 1)) / (S k - S (k - 1))

def AtP (w : World) (S V : Nat → Int) (size : Int) (n : Nat) (e : Ending) (w' : World) : Prop :=
  ∃ k, k ≤ n ∧ (∀ j, j < k → S j < size) ∧ (∀ j, k ≤ j → j < n → size ≤ S j) ∧ e = .returned (.int .i64 (atK S V size n k)) ∧ Below w.heap.size w w'

theorem mul_bd (x y : Int) (hx : -65535 ≤ x ∧ x ≤ 65535) (hy : 0 ≤ y ∧ y ≤ 4294967295) : -281474976710656 ≤ x * y ∧ x * y ≤ 281474976710656 := by
  have h1 : x * y ≤ 65535 * y := Int.mul_le_mul_of_nonneg_right hx.2 hy.1
  have h2 : -65535 * y ≤ x * y := Int.mul_le_mul_of_nonneg_right hx.1 hy.1
  omega

set_option maxRecDepth 100000 in
set_option maxHeartbeats 4000000 in
theorem at_zero (v1 v2 : Option Addr) (S V : Nat → Int) (size : Int) (w : World) (c1 c2 : Nat) :
    Calls Try.prog 42 #[.agg #[.slice v1 0 c1, .slice v2 0 c2], .int .i64 size] w (AtP w S V size 0) := by
  have hmf : ∀ (fn : Fn) (first cap : Array Value) (w : World), (Instr.makeFunc fn first cap).run Try.prog w = .ok (.func fn first cap) w := fun _ _ _ _ => rfl
  have hcf : ∀ args w, (callFunc 73 args).run Try.prog w = .ok (.enter 73 args) w := fun args w => by simp [go_sem]
  have HCF := Bas.hid hcf
  clear hcf
  go_enter Try.func42, Try.ntmps42
  go_wp2_with (fail)
  have HB0 := Bas.hid (((Below.refl w.heap.size w).alloc (Nat.le_refl _) (.cells #[.slice v1 0 c1, .slice v2 0 c2] 52)).alloc (by simp) (.cells #[.int .i64 size] 3))
  generalize (w.alloc (.cells #[.slice v1 0 c1, .slice v2 0 c2] 52)).alloc (.cells #[.int .i64 size] 3) = W at *
  refine (Sk.first_any _ _ (AtR W S size 0) 0 _ (by omega) HCF.out (fun lo hi w h1 h2 => by omega) ⟨Below.refl _ _, fun j h => by omega, fun j _ h => by omega⟩).mono ?_
  rintro e w2 ⟨k, hk, rfl, hb, _, _⟩
  obtain rfl : k = 0 := by omega
  have HB := Bas.hid (HB0.out.trans (hb.mono HB0.out.size))
  clear hb HB0 hk
  go_wp2_with (fail)
  go_ret
  exact ⟨0, Nat.le_refl _, fun j h => by omega, fun j _ h => by omega, rfl, HB.out⟩

set_option maxRecDepth 100000 in
set_option maxHeartbeats 8000000 in
theorem at_core (n G1 G2 c1 c2 : Nat) (S V : Nat → Int) (size : Int) (w : World) (hn0 : 0 < n) (hn : n ≤ 65535) (hsz : -2147483648 ≤ size ∧ size ≤ 2147483647) (hG1 : G1 < w.heap.size) (hG2 : G2 < w.heap.size)
    (hS : ∀ j, j < n → w.cell? ⟨G1, j, none⟩ = some (.int .i64 (S j))) (hV : ∀ j, j < n → w.cell? ⟨G2, j, none⟩ = some (.int .i64 (V j)))
    (hrise : ∀ i j, i < j → j < n → S i < S j) (hsb : ∀ i, -2147483648 ≤ S i ∧ S i ≤ 2147483647) (hvb : ∀ i, -32768 ≤ V i ∧ V i ≤ 32767) :
    Calls Try.prog 42 #[.agg #[.slice (some ⟨G1, 0, none⟩) n c1, .slice (some ⟨G2, 0, none⟩) n c2], .int .i64 size] w (AtP w S V size n) := by
  have hmf : ∀ (fn : Fn) (first cap : Array Value) (w : World), (Instr.makeFunc fn first cap).run Try.prog w = .ok (.func fn first cap) w := fun _ _ _ _ => rfl
  have hcf : ∀ args w, (callFunc 73 args).run Try.prog w = .ok (.enter 73 args) w := fun args w => by simp [go_sem]
  have HCF := Bas.hid hcf
  clear hcf
  have HS := Bas.hid hS
  have HV := Bas.hid hV
  have HR := Bas.hid hrise
  have HSB := Bas.hid hsb
  have HVB := Bas.hid hvb
  clear hS hV hrise hsb hvb
  go_enter Try.func42, Try.ntmps42
  go_wp2_with (fail)
  have HB0 := Bas.hid (((Below.refl w.heap.size w).alloc (Nat.le_refl _) (.cells #[.slice (some ⟨G1, 0, none⟩) n c1, .slice (some ⟨G2, 0, none⟩) n c2] 52)).alloc (by simp) (.cells #[.int .i64 size] 3))
  have k1 : ((w.alloc (.cells #[.slice (some ⟨G1, 0, none⟩) n c1, .slice (some ⟨G2, 0, none⟩) n c2] 52)).alloc (.cells #[.int .i64 size] 3)).heap[w.heap.size]? = some (.cells #[.slice (some ⟨G1, 0, none⟩) n c1, .slice (some ⟨G2, 0, none⟩) n c2] 52 (0, 0)) := by
    rw [Below.heap_alloc _ _ _ (by simp)]; exact Bas.heap_new _ _
  have k2 := Bas.heap_new2 w (.cells #[.slice (some ⟨G1, 0, none⟩) n c1, .slice (some ⟨G2, 0, none⟩) n c2] 52) (.cells #[.int .i64 size] 3)
  generalize (w.alloc (.cells #[.slice (some ⟨G1, 0, none⟩) n c1, .slice (some ⟨G2, 0, none⟩) n c2] 52)).alloc (.cells #[.int .i64 size] 3) = W at *
  have hWs := HB0.out.size
  have hcS : ∀ wr, Below W.heap.size W wr → ∀ j, j < n → wr.cell? ⟨G1, j, none⟩ = some (.int .i64 (S j)) := fun wr hb j hj =>
    ((HB0.out.trans (hb.mono hWs)).cell (p := ⟨G1, j, none⟩) hG1).trans (HS.out j hj)
  have hcV : ∀ wr, Below W.heap.size W wr → ∀ j, j < n → wr.cell? ⟨G2, j, none⟩ = some (.int .i64 (V j)) := fun wr hb j hj =>
    ((HB0.out.trans (hb.mono hWs)).cell (p := ⟨G2, j, none⟩) hG2).trans (HV.out j hj)
  refine (Sk.first_any _ #[.pointer (some ⟨w.heap.size, 0, none⟩), .pointer (some ⟨w.heap.size + 1, 0, none⟩)] (AtR W S size n) n _ (by omega) HCF.out ?_ ⟨Below.refl _ _, fun j h => by omega, fun j h h' => by omega⟩).mono ?_
  · rintro lo hi wr hlt hhi ⟨hb, hA, hB⟩
    have hm : lo + (hi - lo) / 2 < hi ∧ lo ≤ lo + (hi - lo) / 2 := by omega
    generalize lo + (hi - lo) / 2 = mid at hm ⊢
    refine (at1_ok w.heap.size (w.heap.size + 1) (.slice (some ⟨G2, 0, none⟩) n c2) G1 n c1 (S mid) size mid wr (by omega) hn ((hb.block _ (heap_lt k1)).trans k1) ((hb.block _ (heap_lt k2)).trans k2) (by have := hb.size; omega) (hcS wr hb mid (by omega))).mono ?_
    rintro e w' ⟨rfl, hb'⟩
    have hbb := hb.trans (hb'.mono hb.size)
    refine ⟨_, rfl, ?_⟩
    by_cases hx : size ≤ S mid
    · refine .inl ⟨by simpa using hx, hbb, hA, fun j h1 h2 => ?_⟩
      by_cases hj : mid = j
      · subst hj; exact hx
      · have := HR.out mid j (by omega) h2; omega
    · refine .inr ⟨by simpa using hx, hbb, fun j h1 => ?_, hB⟩
      by_cases hj : j = mid
      · subst hj; omega
      · have := HR.out j mid (by omega) (by omega); omega
  rintro e w2 ⟨k, hk, rfl, hb, hA, hB⟩
  have HA := Bas.hid hA
  have HBB := Bas.hid hB
  have HB := Bas.hid (HB0.out.trans (hb.mono hWs))
  have m1 := (hb.block _ (heap_lt k1)).trans k1
  have m2 := (hb.block _ (heap_lt k2)).trans k2
  have hG1' : G1 < w2.heap.size := by have := hb.size; omega
  have hG2' : G2 < w2.heap.size := by have := hb.size; omega
  have HCS := Bas.hid (hcS w2 hb)
  have HCV := Bas.hid (hcV w2 hb)
  have cx := cell_of_heap (i := 0) (v := .slice (some ⟨G1, 0, none⟩) n c1) m1 rfl
  have cy := cell_of_heap (i := 1) (v := .slice (some ⟨G2, 0, none⟩) n c2) m1 rfl
  have cz := cell_of_heap (i := 0) (v := .int .i64 size) m2 rfl
  have hnz : ((n : Int) == 0) = false := by simp; omega
  clear hA hB hb hcS hcV HB0 hWs k1 k2 HS HV HCF hmf hG1 hG2
  by_cases hk0 : k = 0
  · have hkb : ((k : Int) == 0) = true := by simp; omega
    have cv := HCV.out 0 (by omega)
    have HK : Hid (atK S V size n k = V 0) := by unfold Hid atK; rw [if_neg (by omega), if_pos hk0]
    clear hk0
    go_wp2_with (fail)
    go_ret
    exact ⟨k, hk, HA.out, HBB.out, by rw [HK.out]; rfl, HB.out⟩
  · have hkb : ((k : Int) == 0) = false := by simp; omega
    by_cases hkn : k = n
    · have hkc : ((k : Int) == (n : Int)) = true := by simp; omega
      obtain ⟨m, hm⟩ : ∃ m, n = m + 1 := ⟨n - 1, by omega⟩
      have em : (n : Int) - 1 = (m : Int) := by omega
      have cv := HCV.out m (by omega)
      have hmn : m < n := by omega
      have HK : Hid (atK S V size n k = V m) := by unfold Hid atK; rw [if_neg (by omega), if_neg hk0, if_pos hkn, hm]; rfl
      clear hk0 hkn hm
      go_wp2_with (fail)
      go_ret
      exact ⟨k, hk, HA.out, HBB.out, by rw [HK.out]; rfl, HB.out⟩
    · have hkc : ((k : Int) == (n : Int)) = false := by simp; omega
      obtain ⟨m, hm⟩ : ∃ m, k = m + 1 := ⟨k - 1, by omega⟩
      have em : (k : Int) - 1 = (m : Int) := by omega
      have hkn' : k < n := by omega
      have hmn : m < n := by omega
      have cv1 := HCV.out m hmn
      have cv2 := HCV.out k hkn'
      have cs1 := HCS.out m hmn
      have cs2 := HCS.out k hkn'
      have q1 := HSB.out m
      have q2 := HSB.out k
      have q3 := HVB.out m
      have q4 := HVB.out k
      have q5 := HR.out m k (by omega) hkn'
      have q6 := HA.out m (by omega)
      have q7 := HBB.out k (Nat.le_refl _) hkn'
      have q8 := mul_bd (V k - V m) (size - S m) (by omega) (by omega)
      have q9 : -65535 ≤ (V k - V m) * (size - S m) / (S k - S m) ∧ (V k - V m) * (size - S m) / (S k - S m) ≤ 65535 := by
        have hp : 0 < S k - S m := by omega
        constructor
        · refine (Int.le_ediv_iff_mul_le hp).2 ?_
          rcases Int.le_total 0 (V k - V m) with h | h
          · have := Int.mul_nonneg h (show 0 ≤ size - S m by omega); omega
          · have h1 : (V k - V m) * (S k - S m) ≤ (V k - V m) * (size - S m) := Int.mul_le_mul_of_nonpos_left h (by omega)
            have h2 : -65535 * (S k - S m) ≤ (V k - V m) * (S k - S m) := Int.mul_le_mul_of_nonneg_right (by omega) (by omega)
            omega
        · refine Int.le_of_lt_add_one (Int.ediv_lt_of_lt_mul hp ?_)
          rcases Int.le_total 0 (V k - V m) with h | h
          · have h1 : (V k - V m) * (size - S m) ≤ (V k - V m) * (S k - S m) := Int.mul_le_mul_of_nonneg_left (by omega) h
            have h2 : (V k - V m) * (S k - S m) ≤ 65535 * (S k - S m) := Int.mul_le_mul_of_nonneg_right (by omega) (by omega)
            omega
          · have := Int.mul_nonneg (show 0 ≤ -(V k - V m) by omega) (show 0 ≤ size - S m by omega)
            rw [Int.neg_mul] at this
            omega
      have HK : Hid (atK S V size n k = V m + (V k - V m) * (size - S m) / (S k - S m)) := by unfold Hid atK; rw [if_neg (by omega), if_neg hk0, if_neg hkn, show k - 1 = m by omega]
      have HF := Bas.hid (fun w' => floor_ok ((V k - V m) * (size - S m)) (S k - S m) w' (by omega) (by omega))
      generalize hqq : (V k - V m) * (size - S m) / (S k - S m) = qq at *
      generalize S k = sk at *
      generalize S m = sm at *
      generalize V k = vk at *
      generalize V m = vm at *
      clear hk0 hkn hm HCV HCS HSB HVB HR hqq
      go_wp2_with (fail)
      refine' Pl.region_v0 73 [] [0, 1, 2, 3, 4, 5, 6, 7, 8, 9, 10, 11, 12] [] _ (by kernel_rfl) (by kernel_rfl) (by simp) (fun _ _ _ _ e h => ⟨e ▸ h.1, h.2⟩) ?_ ?_
      rotate_left
      · intro I F hI hF
        simp only [Pl.selN, List.nil_append, List.drop_succ_cons, List.drop_zero]
        have x1 := fun i => hF.cell (heap_lt m1) cx i
        have x3 := fun i => hF.cell hG1' cs1 i
        have x4 := fun i => hF.cell hG1' cs2 i
        repeat (go_big_quiet_step (fail))
        refine wpQuiet_nil ?_
        rfl
      intro u hu
      simp only [Pl.selN]
      have HBU := Bas.hid (HB.out.trans (hu.mono HB.out.size))
      have x1 := (hu.cell (p := ⟨w.heap.size, 1, none⟩) (heap_lt m1)).trans cy
      have x2 := (hu.cell (p := ⟨w.heap.size + 1, 0, none⟩) (heap_lt m2)).trans cz
      have x3 := (hu.cell (p := ⟨G2, m, none⟩) hG2').trans cv1
      have x4 := (hu.cell (p := ⟨G2, k, none⟩) hG2').trans cv2
      have l1 : w.heap.size < u.heap.size := Nat.lt_of_lt_of_le (heap_lt m1) hu.size
      have l2 : w.heap.size + 1 < u.heap.size := Nat.lt_of_lt_of_le (heap_lt m2) hu.size
      have l3 : G2 < u.heap.size := Nat.lt_of_lt_of_le hG2' hu.size
      clear hu cs1 cs2 cx cy cz cv1 cv2 HB hG1' m1 m2 hG2'
      go_wp2_with (fail)
      refine' Pl.region_v1 73 [] [0, 1, 2, 3, 4, 5, 6, 7, 8, 9, 10, 11, 12, 13, 14, 15, 16, 17, 18, 19, 20, 21, 22, 23, 24] 25 71 [26, 27] _ (fun v u' => v = .int .i64 qq) (by kernel_rfl) (by kernel_rfl) (by simp) (fun _ _ _ _ e h => ⟨e ▸ h.1, h.2⟩) ?_ ?_ ?_ ?_
      rotate_left
      · intro I F hI hF
        simp only [Pl.selN, List.nil_append, List.drop_succ_cons, List.drop_zero]
        have y1 := fun i => hF.cell l1 x1 i
        have y2 := fun i => hF.cell l2 x2 i
        have y3 := fun i => hF.cell l3 x3 i
        have y4 := fun i => hF.cell l3 x4 i
        repeat (go_big_quiet_step (fail))
        refine wpQuiet_nil ?_
        rfl
      · exact fun _ _ _ h _ _ => h
      · simp only [Pl.selN, List.drop_succ_cons, List.drop_zero, List.mem_singleton, forall_eq]
        intro u' hu
        go_simp
        simp only [Pl.valsAt]
        refine (HF.out u').mono ?_
        rintro e w'' ⟨rfl, rfl⟩
        exact .inl ⟨_, rfl, Below.refl _ _, rfl⟩
      intro v u2 hu hv
      subst hv
      simp only [Pl.selN, List.drop_succ_cons, List.drop_zero, Act.put, List.setIfInBounds_toArray, List.set_cons_zero, List.set_cons_succ]
      have HBX := Bas.hid (HBU.out.trans (hu.mono HBU.out.size))
      clear hu x1 x2 x3 x4 HBU
      go_wp2_with (fail)
      go_ret
      exact ⟨k, hk, HA.out, HBB.out, by rw [HK.out]; rfl, HBX.out⟩

end Tk
end Go.Proofs.Ytfocjagkhoonmaa
