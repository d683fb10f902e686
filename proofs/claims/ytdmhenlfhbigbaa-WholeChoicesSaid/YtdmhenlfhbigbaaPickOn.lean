/- Layer 9 (pick): BinarySearchFunc at settings, and On. -/
import Derived.Test.YtdmhenlfhbigbaaPickSettle
namespace Go.Proofs.Ytdmhenlfhbigbaa
open Go.RowKit
namespace Pk
open Ch Ft Go.Maps

theorem below_grow (w : World) (q : Nat) (os : Array Obj) : Below w.heap.size w (Go.Sort.grow (w.drewN q) os) :=
  ⟨rfl, rfl, rfl, by rw [Go.Sort.size_grow]; exact Nat.le_add_right _ _, fun k hk => Go.Sort.heap_grow_old (w.drewN q) os hk⟩
theorem compare_b (a b c d : Int) (w : World) : Calls Try.prog 25 #[.agg #[.int .i64 a, .int .i64 b], .agg #[.int .i64 c, .int .i64 d]] w fun e w' => e = .returned (.int .i64 (cmpP (a, b) (c, d))) ∧ Below w.heap.size w w' :=
  (compare_any (a, b) (c, d) w).mono fun _ _ ⟨h, q, os, hw⟩ => ⟨h, by rw [hw]; exact below_grow w q os⟩
theorem cmpP_neg (x y : Int × Int) : cmpP x y < 0 ↔ ltP x y = true := by
  have h := ltOf_eq x y
  unfold ltOf at h
  rw [← h]; simp
theorem cmpP_zero (x y : Int × Int) : cmpP x y = 0 ↔ x = y := by
  unfold cmpP
  by_cases h : cmpI x.1 y.1 = 0
  · rw [if_pos h, cmpI_zero]
    have := (cmpI_zero _ _).1 h
    exact ⟨fun e => Prod.ext this e, fun e => by rw [e]⟩
  · rw [if_neg h]
    refine ⟨fun e => absurd e h, fun e => absurd ((cmpI_zero _ _).2 (by rw [e])) h⟩
theorem ltP_trans {x y z : Int × Int} (h1 : ltP x y = true) (h2 : ltP y z = true) : ltP x z = true := by
  simp [ltP] at *; omega

def BsP (w : World) (T : Nat → Int × Int) (t : Int × Int) (n : Nat) (e : Ending) (w' : World) : Prop :=
  ∃ k, k ≤ n ∧ (∀ j, j < k → ltP (T j) t = true) ∧ (∀ j, k ≤ j → j < n → ltP (T j) t = false) ∧ e = .returned (.tuple #[.int .i64 (k : Nat), .bool (decide (k < n) && (cmpP (T k) t == 0))]) ∧ Below w.heap.size w w'

set_option maxRecDepth 100000 in
set_option maxHeartbeats 8000000 in
theorem bs_any (v : Value) (n : Nat) (T : Nat → Int × Int) (tt tv : Int) (w : World) (hn : n ≤ 100000) (hv : ∃ a c, v = .slice a n c) (hc : ∀ j, j < n → ∃ b o c, v = .slice (some ⟨b, o, none⟩) n c ∧ w.cell? ⟨b, o + j * 2, none⟩ = some (.int .i64 (T j).1) ∧ w.cell? ⟨b, o + j * 2 + 1, none⟩ = some (.int .i64 (T j).2))
    (hr : ∀ i j, i < j → j < n → ltP (T i) (T j) = true) :
    Calls Try.prog 34 #[v, .agg #[.int .i64 tt, .int .i64 tv], .func (.func 25) #[] #[]] w (BsP w T (tt, tv) n) := by
  have hcf : ∀ args w, (callFunc 25 args).run Try.prog w = .ok (.enter 25 args) w := fun args w => by simp [go_sem]
  have HC := Bas.hid hc
  have HR := Bas.hid hr
  obtain ⟨va, vc, rfl⟩ := hv
  clear hc hr
  go_enter Try.func34, Try.ntmps34
  go_wp2_with (fail)
  have k4 := Bas.heap_new w (.cells #[.int .i64 tt, .int .i64 tv] 27)
  have HB0 := Bas.hid ((Below.refl w.heap.size w).alloc (Nat.le_refl _) (.cells #[.int .i64 tt, .int .i64 tv] 27))
  generalize w.alloc (.cells #[.int .i64 tt, .int .i64 tv] 27) = W at *
  obtain ⟨T4, hT4⟩ : ∃ T4, w.heap.size = T4 := ⟨_, rfl⟩
  have HT4 := Bas.hid hT4
  rw [hT4] at k4 ⊢
  clear hT4
  go_loopw [9, 10] (fun va vb wr => ∃ lo hi : Nat, lo ≤ hi ∧ hi ≤ n ∧ va = .int .i64 lo ∧ vb = .int .i64 hi ∧ (∀ j, j < lo → ltP (T j) (tt, tv) = true) ∧ (∀ j, hi ≤ j → j < n → ltP (T j) (tt, tv) = false) ∧ Below w.heap.size w wr ∧ wr.heap[T4]? = some (.cells #[.int .i64 tt, .int .i64 tv] 27 (0, 0))) (fun va vb _ => (intOf vb).toNat - (intOf va).toNat)
  case atStart => exact ⟨0, n, by omega, by omega, rfl, rfl, fun j h => by omega, fun j h h' => by omega, HB0.out, k4⟩
  case round =>
    obtain ⟨lo, hi, hlh, hhn, rfl, rfl, hA, hB, hb, k5⟩ := hrel
    have HA := Bas.hid hA
    have HBB := Bas.hid hB
    have HB := Bas.hid hb
    clear hA hB hb k4 HB0
    have l5 := heap_lt k5
    have d0 := cell_of_heap (i := 0) (v := .int .i64 tt) k5 rfl
    have d1 := cell_of_heap (i := 1) (v := .int .i64 tv) k5 rfl
    by_cases hlt : lo < hi
    · have e1 : decide ((lo : Int) < (hi : Int)) = true := by simp; omega
      have e2 : decide (lo < hi) = true := by simp; omega
      obtain ⟨m, hm⟩ : ∃ m : Nat, (lo + hi) / 2 = m := ⟨_, rfl⟩
      obtain ⟨b, o, c, hve, h0, h1⟩ := HC.out m (by omega)
      cases hve
      have lb := World.block_lt_of_cell? _ _ h0
      have c0 := (HB.out.cell (p := ⟨b, o + m * 2, none⟩) lb).trans h0
      have c1 := (HB.out.cell (p := ⟨b, o + m * 2 + 1, none⟩) lb).trans h1
      have lbr : b < wr.heap.size := Nat.lt_of_lt_of_le lb HB.out.size
      have hmm : ((lo : Int) + (hi : Int)) / 2 = (m : Int) := by omega
      obtain ⟨cv, hcv⟩ : ∃ cv, cmpP (T m) (tt, tv) = cv := ⟨_, rfl⟩
      have hneg := cmpP_neg (T m) (tt, tv)
      rw [hcv] at hneg
      have HNEG := Bas.hid hneg
      obtain ⟨p0, hp0⟩ : ∃ p0, (T m).1 = p0 := ⟨_, rfl⟩
      obtain ⟨p1, hp1⟩ : ∃ p1, (T m).2 = p1 := ⟨_, rfl⟩
      rw [hp0] at c0
      rw [hp1] at c1
      have hTm : T m = (p0, p1) := Prod.ext hp0 hp1
      have HCMP := Bas.hid (fun w' => (show cmpP (p0, p1) (tt, tv) = cv by rw [← hTm]; exact hcv) ▸ compare_b p0 p1 tt tv w')
      clear h0 h1 hneg hcv hp0 hp1 hTm
      go_wp2_with (fail)
      refine' Pl.region_v0 49 [] [0, 1, 2, 3, 4, 5, 6, 7] [] _ (by kernel_rfl) (by kernel_rfl) (by simp) (fun _ _ _ _ e h => ⟨e ▸ h.1, h.2⟩) ?_ ?_
      rotate_left
      · intro I F hI hF
        simp only [Pl.selN, List.nil_append, List.drop_succ_cons, List.drop_zero]
        have x0 := fun q => hF.cell lbr c0 q
        have x1 := fun q => hF.cell lbr c1 q
        have y0 := fun q => hF.cell l5 d0 q
        have y1 := fun q => hF.cell l5 d1 q
        repeat (go_big_quiet_step ((go_at_call 25; with_reducible exact hF.call (HCMP.out _))))
        refine wpQuiet_nil ?_
        rfl
      intro u hu
      simp only [Pl.selN]
      have HB2 := Bas.hid (HB.out.trans (hu.mono HB.out.size))
      have k6 := (hu.block _ l5).trans k5
      clear hu c0 c1 d0 d1 HB k5 HCMP
      by_cases hl : cv < 0
      · have f1 : decide (cv < 0) = true := by simpa using hl
        rw [f1]
        have hlm := HNEG.out.1 hl
        have HA2 : Hid (∀ j, j < m + 1 → ltP (T j) (tt, tv) = true) := fun j hj => by
          by_cases hjm : j = m
          · subst hjm; exact hlm
          · exact ltP_trans (HR.out j m (by omega) (by omega)) hlm
        clear hl hlm
        go_wp2_with (fail)
        go_roundw
        case rel => exact ⟨m + 1, hi, by omega, hhn, by go_num, rfl, HA2.out, HBB.out, HB2.out, k6⟩
        case measure => simp [intOf]; omega
      · have f1 : decide (cv < 0) = false := by simpa using hl
        rw [f1]
        have hlm : ltP (T m) (tt, tv) = false := by
          cases h : ltP (T m) (tt, tv) with
          | false => rfl
          | true => exact absurd (HNEG.out.2 h) hl
        have HB3 : Hid (∀ j, m ≤ j → j < n → ltP (T j) (tt, tv) = false) := fun j h1 h2 => by
          cases h : ltP (T j) (tt, tv) with
          | false => rfl
          | true =>
            by_cases hjm : m = j
            · subst hjm; rw [h] at hlm; cases hlm
            · have := ltP_trans (HR.out m j (by omega) h2) h
              rw [this] at hlm; cases hlm
        clear hl hlm
        go_wp2_with (fail)
        go_roundw
        case rel => exact ⟨lo, m, by omega, by omega, rfl, by go_num, HA.out, HB3.out, HB2.out, k6⟩
        case measure => simp [intOf]; omega
    · have hlh2 : lo = hi := by omega
      subst hlh2
      clear hlt
      by_cases hkn : lo < n
      · have e1 : decide ((lo : Int) < (n : Int)) = true := by simp; omega
        have e2 : decide (lo < n) = true := by simp; omega
        obtain ⟨b, o, c, hve, h0, h1⟩ := HC.out lo hkn
        cases hve
        have lb := World.block_lt_of_cell? _ _ h0
        have c0 := (HB.out.cell (p := ⟨b, o + lo * 2, none⟩) lb).trans h0
        have c1 := (HB.out.cell (p := ⟨b, o + lo * 2 + 1, none⟩) lb).trans h1
        have lbr : b < wr.heap.size := Nat.lt_of_lt_of_le lb HB.out.size
        obtain ⟨cv, hcv⟩ : ∃ cv, cmpP (T lo) (tt, tv) = cv := ⟨_, rfl⟩
        have HCV := Bas.hid hcv
        obtain ⟨p0, hp0⟩ : ∃ p0, (T lo).1 = p0 := ⟨_, rfl⟩
        obtain ⟨p1, hp1⟩ : ∃ p1, (T lo).2 = p1 := ⟨_, rfl⟩
        rw [hp0] at c0
        rw [hp1] at c1
        have hTm : T lo = (p0, p1) := Prod.ext hp0 hp1
        have HCMP := Bas.hid (fun w' => (show cmpP (p0, p1) (tt, tv) = cv by rw [← hTm]; exact hcv) ▸ compare_b p0 p1 tt tv w')
        clear h0 h1 hcv hp0 hp1 hTm
        go_wp2_with (fail)
        refine' Pl.region_v0 49 [] [0, 1, 2, 3, 4, 5, 6, 7, 8, 9, 10, 11, 12, 13, 14] [15] _ (by kernel_rfl) (by kernel_rfl) (by simp) (fun _ _ _ _ e h => ⟨e ▸ h.1, h.2⟩) ?_ ?_
        rotate_left
        · intro I F hI hF
          simp only [Pl.selN, List.nil_append, List.drop_succ_cons, List.drop_zero, List.cons_append]
          have x0 := fun q => hF.cell lbr c0 q
          have x1 := fun q => hF.cell lbr c1 q
          have y0 := fun q => hF.cell l5 d0 q
          have y1 := fun q => hF.cell l5 d1 q
          repeat (go_big_quiet_step ((go_at_call 25; with_reducible exact hF.call (HCMP.out _))))
          refine wpQuiet_nil ?_
          rfl
        intro u hu
        simp only [Pl.selN, List.drop_succ_cons, List.drop_zero]
        have HB2 := Bas.hid (HB.out.trans (hu.mono HB.out.size))
        have E2 := Bas.hid e2
        clear hu c0 c1 d0 d1 HB k5 HCMP e1 e2
        go_wp2_with (fail)
        refine bodyPost_ret (v := .tuple #[.int .i64 (lo : Nat), .bool (cv == 0)]) (by simp [results, Try.results34, go_sem]) rfl ⟨lo, hhn, HA.out, HBB.out, ?_, HB2.out⟩
        rw [E2.out, HCV.out]
        rfl
      · have e1 : decide ((lo : Int) < (n : Int)) = false := by simp; omega
        have e2 : decide (lo < n) = false := by simp; omega
        have E2 := Bas.hid e2
        go_wp2_with (fail)
        refine' Pl.region_v0 49 [] [0, 1, 2, 3, 4, 5, 6, 7, 8, 9, 10, 11, 12, 13, 14] [15] _ (by kernel_rfl) (by kernel_rfl) (by simp) (fun _ _ _ _ e h => ⟨e ▸ h.1, h.2⟩) ?_ ?_
        rotate_left
        · intro I F hI hF
          simp only [Pl.selN, List.nil_append, List.drop_succ_cons, List.drop_zero, List.cons_append]
          repeat (go_big_quiet_step (fail))
          refine wpQuiet_nil ?_
          rfl
        intro u hu
        simp only [Pl.selN, List.drop_succ_cons, List.drop_zero]
        have HB2 := Bas.hid (HB.out.trans (hu.mono HB.out.size))
        clear hu
        go_wp2_with (fail)
        refine bodyPost_ret (v := .tuple #[.int .i64 (lo : Nat), .bool false]) (by simp [results, Try.results34, go_sem]) rfl ⟨lo, hhn, HA.out, HBB.out, ?_, HB2.out⟩
        rw [E2.out]
        rfl

theorem bs_mem {xs : List (Int × Int)} (hs : xs.Pairwise (fun x y => ltP x y = true)) (s : Int × Int) (k : Nat) (h1 : ∀ j, j < k → ltP (xs.getD j (0, 0)) s = true) (h2 : ∀ j, k ≤ j → j < xs.length → ltP (xs.getD j (0, 0)) s = false) :
    (decide (k < xs.length) && (cmpP (xs.getD k (0, 0)) s == 0)) = decide (s ∈ xs) := by
  have hg : ∀ j, (hj : j < xs.length) → xs.getD j (0, 0) = xs[j] := fun j hj => by rw [List.getD_eq_getElem?_getD, List.getElem?_eq_getElem hj]; rfl
  have irr : ltP s s = false := by simp [ltP]
  rw [Bool.eq_iff_iff, Bool.and_eq_true, decide_eq_true_iff, decide_eq_true_iff, beq_iff_eq, cmpP_zero]
  constructor
  · rintro ⟨hk, e⟩
    rw [hg k hk] at e
    rw [← e]; exact List.getElem_mem hk
  · intro hm
    obtain ⟨j, hj, e⟩ := List.mem_iff_getElem.1 hm
    have e' := hg j hj
    rw [e] at e'
    by_cases hjk : j < k
    · have := h1 j hjk
      rw [e', irr] at this; cases this
    · by_cases hkj : k = j
      · subst hkj; exact ⟨hj, e'⟩
      · have h3 := h2 k (Nat.le_refl _) (by omega)
        have h4 := List.pairwise_iff_getElem.1 hs k j (by omega) hj (by omega)
        rw [hg k (by omega)] at h3
        rw [e] at h4
        rw [h3] at h4; cases h4

set_option maxHeartbeats 4000000 in
theorem on_any (v : Value) (xs : List (Int × Int)) (t u : Int) (w : World) (hl : Row.Leads w v xs.length (xs.flatMap setC)) (hs : xs.Pairwise (fun x y => ltP x y = true)) (hn : xs.length ≤ 100000) :
    Calls Try.prog 19 #[v, .agg #[.int .i64 t, .int .i64 u]] w fun e w' => e = .returned (.bool (decide ((t, u) ∈ xs))) ∧ Below w.heap.size w w' := by
  have HB0 := Bas.hid ((Below.refl w.heap.size w).alloc (Nat.le_refl _) (.cells #[.int .i64 t, .int .i64 u] 27))
  have HBS : Hid (∀ w', Below w.heap.size w w' → Calls Try.prog 34 #[v, .agg #[.int .i64 t, .int .i64 u], .func (.func 25) #[] #[]] w' fun e w'' => ∃ k : Nat, e = .returned (.tuple #[.int .i64 (k : Nat), .bool (decide ((t, u) ∈ xs))]) ∧ Below w'.heap.size w' w'') := fun w' hb => by
    refine (bs_any v xs.length (fun j => xs.getD j (0, 0)) t u w' hn ?_ (fun j hj => ?_) (fun i j hij hj => ?_)).mono fun e w'' ⟨k, _, h1, h2, he, hb2⟩ => ⟨k, by rw [he, bs_mem hs (t, u) k h1 h2], hb2⟩
    · exact Row.leads_slice hl
    · have hx : xs[j]? = some (xs.getD j (0, 0)) := by rw [List.getD_eq_getElem?_getD, List.getElem?_eq_getElem hj]; rfl
      obtain ⟨b, o, c, hv, hcl⟩ := Row.leads_elem setC_len hl hx (by omega)
      have h0 := hcl 0 _ rfl
      have h1 := hcl 1 _ rfl
      exact ⟨b, o, c, hv, (hb.cell (p := ⟨b, o + j * 2, none⟩) (World.block_lt_of_cell? _ _ h0)).trans h0, (hb.cell (p := ⟨b, o + j * 2 + 1, none⟩) (World.block_lt_of_cell? _ _ h1)).trans h1⟩
    · have := List.pairwise_iff_getElem.1 hs i j (by omega) hj hij
      rw [List.getD_eq_getElem?_getD, List.getElem?_eq_getElem (by omega), List.getD_eq_getElem?_getD, List.getElem?_eq_getElem hj]
      exact this
  obtain ⟨a, c, rfl⟩ := Row.leads_slice hl
  generalize decide ((t, u) ∈ xs) = b at *
  clear hl hs
  go_enter Try.func19, Try.ntmps19
  go_wp2_with (fail)
  refine (HBS.out _ HB0.out).mono ?_
  rintro e w2 ⟨k, rfl, hb2⟩
  have HB2 := Bas.hid (HB0.out.trans (hb2.mono HB0.out.size))
  clear hb2 HBS HB0
  go_wp2_with (fail)
  go_ret
  exact ⟨rfl, HB2.out⟩
end Pk
end Go.Proofs.Ytdmhenlfhbigbaa
