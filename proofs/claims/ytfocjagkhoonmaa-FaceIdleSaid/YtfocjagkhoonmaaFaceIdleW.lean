/- The walk of the law FaceIdle. -/
import Derived.Test.YtfocjagkhoonmaaFaceSpeak
namespace Go.Proofs.Ytfocjagkhoonmaa
open Go.RowKit
namespace Fo
open Vw Wr

def mixL (f : Int) (keep : List Nat) (d : List Int) (k : Nat) : List Int := (List.range d.length).map fun j => if decide (j < k) && !(keep.any fun x => x == j) then f else d.getD j 0
theorem mixL_len (f : Int) (keep : List Nat) (d : List Int) (k : Nat) : (mixL f keep d k).length = d.length := by simp [mixL]
theorem mixL_get (f : Int) (keep : List Nat) (d : List Int) (k j : Nat) (h : j < d.length) : (mixL f keep d k)[j]? = some (if decide (j < k) && !(keep.any fun x => x == j) then f else d.getD j 0) := by
  unfold mixL; rw [List.getElem?_map, List.getElem?_range h]; rfl
theorem mixL_zero (f : Int) (keep : List Nat) (d : List Int) : mixL f keep d 0 = d := by
  refine List.ext_getElem? fun j => ?_
  by_cases h : j < d.length
  · rw [mixL_get f keep d 0 j h, List.getD_eq_getElem?_getD, List.getElem?_eq_getElem h]; simp
  · rw [List.getElem?_eq_none (by rw [mixL_len]; omega), List.getElem?_eq_none (by omega)]
theorem mixL_keep (f : Int) (keep : List Nat) (d : List Int) (k : Nat) (hk : (keep.any fun x => x == k) = true) : mixL f keep d (k + 1) = mixL f keep d k := by
  unfold mixL
  refine List.map_congr_left fun j _ => ?_
  by_cases hjk : j = k
  · subst hjk; rw [hk]; simp
  · have : decide (j < k + 1) = decide (j < k) := by rw [decide_eq_decide]; omega
    rw [this]
theorem mixL_set (f : Int) (keep : List Nat) (d : List Int) (k : Nat) (hk : (keep.any fun x => x == k) = false) : mixL f keep d (k + 1) = (mixL f keep d k).set k f := by
  refine List.ext_getElem? fun j => ?_
  by_cases h : j < d.length
  · rw [mixL_get f keep d _ j h, List.getElem?_set]
    by_cases hjk : k = j
    · subst hjk
      rw [hk]; simp [mixL_len, h]
    · rw [if_neg hjk, mixL_get f keep d _ j h]
      have : decide (j < k + 1) = decide (j < k) := by rw [decide_eq_decide]; omega
      rw [this]
  · rw [List.getElem?_eq_none (by rw [mixL_len]; omega), List.getElem?_eq_none (by rw [List.length_set, mixL_len]; omega)]
theorem mixL_byte (f : Int) (hf : 0 ≤ f ∧ f ≤ 255) (keep : List Nat) (d : List Int) (hd : ∀ x ∈ d, 0 ≤ x ∧ x ≤ 255) (k : Nat) : ∀ x ∈ mixL f keep d k, 0 ≤ x ∧ x ≤ 255 := by
  intro x hx
  obtain ⟨j, _, rfl⟩ := List.mem_map.1 hx
  split
  · exact hf
  · exact getD_byte hd j
theorem mixL_getD (f : Int) (keep : List Nat) (d : List Int) (k j : Nat) (h : j < d.length) (hk : (keep.any fun x => x == j) = true) : (mixL f keep d k).getD j 0 = d.getD j 0 := by
  rw [List.getD_eq_getElem?_getD, mixL_get f keep d k j h, hk]; simp

def kp0 : List Nat := [0, 1, 2, 3, 4, 5]
def kp1 : List Nat := [12, 13, 14, 15, 18, 19]
def kp2 : List Nat := [34, 35]
theorem kc0 (j x : Nat) (h : kp0[j]? = some x) : (#[.int .i64 0, .int .i64 1, .int .i64 2, .int .i64 3, .int .i64 4, .int .i64 5] : Array Value)[j]? = some (.int .i64 (x : Nat)) := by
  have hj : j < 6 := (List.getElem?_eq_some_iff.1 h).1
  rcases (by omega : j = 0 ∨ j = 1 ∨ j = 2 ∨ j = 3 ∨ j = 4 ∨ j = 5) with rfl | rfl | rfl | rfl | rfl | rfl <;> (cases h; rfl)
theorem kc1 (j x : Nat) (h : kp1[j]? = some x) : (#[.int .i64 12, .int .i64 13, .int .i64 14, .int .i64 15, .int .i64 18, .int .i64 19] : Array Value)[j]? = some (.int .i64 (x : Nat)) := by
  have hj : j < 6 := (List.getElem?_eq_some_iff.1 h).1
  rcases (by omega : j = 0 ∨ j = 1 ∨ j = 2 ∨ j = 3 ∨ j = 4 ∨ j = 5) with rfl | rfl | rfl | rfl | rfl | rfl <;> (cases h; rfl)
theorem kc2 (j x : Nat) (h : kp2[j]? = some x) : (#[.int .i64 34, .int .i64 35] : Array Value)[j]? = some (.int .i64 (x : Nat)) := by
  have hj : j < 2 := (List.getElem?_eq_some_iff.1 h).1
  rcases (by omega : j = 0 ∨ j = 1) with rfl | rfl <;> (cases h; rfl)

def E0 (f g _u : Int) (i : Nat) : List Int := if 0 < i then mixL f kp0 (maxpL g) 6 else maxpL g
def E1 (f _g u : Int) (i : Nat) : List Int := if 1 < i then mixL f kp1 (headL u) 54 else headL u
def E2 (f _g _u : Int) (i : Nat) : List Int := if 2 < i then mixL f kp2 (hheaL 1) 36 else hheaL 1
theorem E0_len (f g u : Int) (i : Nat) : (E0 f g u i).length = 6 := by
  by_cases h : 0 < i
  · unfold E0; rw [if_pos h, mixL_len, maxpL_len]
  · unfold E0; rw [if_neg h]; exact maxpL_len g
theorem E1_len (f g u : Int) (i : Nat) : (E1 f g u i).length = 54 := by
  by_cases h : 1 < i
  · unfold E1; rw [if_pos h, mixL_len, headL_len]
  · unfold E1; rw [if_neg h]; exact headL_len u
theorem E2_len (f g u : Int) (i : Nat) : (E2 f g u i).length = 36 := by
  by_cases h : 2 < i
  · unfold E2; rw [if_pos h, mixL_len, hheaL_len]
  · unfold E2; rw [if_neg h]; exact hheaL_len 1
theorem E0_next (f g u : Int) : mixL f kp0 (E0 f g u 0) 6 = E0 f g u (0 + 1) := rfl
theorem E1_next (f g u : Int) : mixL f kp1 (E1 f g u 1) 54 = E1 f g u (1 + 1) := rfl
theorem E2_next (f g u : Int) : mixL f kp2 (E2 f g u 2) 36 = E2 f g u (2 + 1) := rfl

/-- A byte of a row of the call's own is turned. -/
theorem own_set {w : World} {base : Nat} {v : Value} {xs : List Int} (h : w.ownsRow base 5 1 v xs.length (xs.map (Value.int .u8))) {k : Nat} (hk : k < xs.length) (f : Int) :
    ∃ g cp, v = .slice (some ⟨g, 0, none⟩) xs.length cp ∧ base ≤ g ∧ (∃ u, w.cell? ⟨g, k, none⟩ = some u) ∧ w.frozen? ⟨g, k, none⟩ = false ∧
      (w.setCell ⟨g, k, none⟩ (.int .u8 f)).ownsRow base 5 1 v (xs.set k f).length ((xs.set k f).map (Value.int .u8)) := by
  obtain ⟨hl, ⟨rfl, h0⟩ | ⟨g, cp, cur, rfl, hb, hh, hn, hm, hc, ht⟩⟩ := h
  · omega
  · rw [Nat.mul_one] at hc ht
    refine ⟨g, cp, rfl, hb, ⟨_, cell_of_heap hh (Array.getElem?_eq_getElem (show k < cur.size by omega))⟩, free_of_heap hh, by simp, .inr ⟨g, cp, cur.setIfInBounds k (.int .u8 f), by rw [List.length_set], hb, heap_set hh _, by rw [List.length_set]; exact hn, hm, by simp [hc], ?_⟩⟩
    rw [List.length_set, Nat.mul_one, Array.toList_setIfInBounds, List.take_set, ht, List.map_set]

theorem info36 : (Try.prog.info? 36).map (fun i => i.size) = some 1 := by kernel_rfl
theorem shape36 : Try.prog.underlying 36 = some (.slice 3) := Try.underlying36
set_option maxRecDepth 100000 in
theorem index3 (x0 x1 x2 : Value) (w : World) : (Instr.index 73 (.agg #[x0, x1, x2]) (.int .i64 0)).run Try.prog w = .ok x0 w ∧ (Instr.index 73 (.agg #[x0, x1, x2]) (.int .i64 1)).run Try.prog w = .ok x1 w ∧ (Instr.index 73 (.agg #[x0, x1, x2]) (.int .i64 2)).run Try.prog w = .ok x2 w := by
  refine ⟨?_, ?_, ?_⟩ <;> rfl
theorem own3_below {w w' : World} {base G : Nat} {t0 t1 t2 : ByteArray} {r0 r1 r2 : Value} {d0 d1 d2 : List Int} (h : Own3 w base G t0 t1 t2 r0 r1 r2 d0 d1 d2) (hb : Below w.heap.size w w') : Own3 w' base G t0 t1 t2 r0 r1 r2 d0 d1 d2 := by
  obtain ⟨h1, h2, h3, h4, h5, h6⟩ := h
  exact ⟨h1, (hb.block _ (heap_lt h2)).trans h2, Row.owned_below h3 hb, Row.owned_below h4 hb, Row.owned_below h5 hb, h6⟩
theorem own3_base {w : World} {base base' G : Nat} {t0 t1 t2 : ByteArray} {r0 r1 r2 : Value} {d0 d1 d2 : List Int} (h : Own3 w base G t0 t1 t2 r0 r1 r2 d0 d1 d2) (hb : base' ≤ base) : Own3 w base' G t0 t1 t2 r0 r1 r2 d0 d1 d2 := by
  obtain ⟨h1, h2, h3, h4, h5, h6⟩ := h
  exact ⟨Nat.le_trans hb h1, h2, Row.owned_base h3 hb, Row.owned_base h4 hb, Row.owned_base h5 hb, h6⟩

theorem be_congr (xs ys : List Int) (p k : Nat) (hx : p + k ≤ xs.length) (hy : p + k ≤ ys.length) (h : ∀ j, p ≤ j → j < p + k → xs.getD j 0 = ys.getD j 0) : be xs p k = be ys p k := by
  unfold be
  congr 1
  refine List.ext_getElem? fun j => ?_
  by_cases hj : j < k
  · have h1 := h (p + j) (by omega) (by omega)
    rw [List.getElem?_take_of_lt hj, List.getElem?_take_of_lt hj, List.getElem?_drop, List.getElem?_drop]
    rw [List.getD_eq_getElem?_getD, List.getD_eq_getElem?_getD, List.getElem?_eq_getElem (by omega), List.getElem?_eq_getElem (by omega)] at h1
    rw [List.getElem?_eq_getElem (by omega), List.getElem?_eq_getElem (by omega)]
    exact congrArg some h1
  · rw [List.getElem?_eq_none (by simp; omega), List.getElem?_eq_none (by simp; omega)]

theorem idle_face (f g u : Int) (hg : 1 ≤ g ∧ g ≤ 65535) (hu : 16 ≤ u ∧ u ≤ 16384) : be (E0 f g u 3) 0 4 = 65536 ∧ be (E1 f g u 3) 12 4 = 1594834165 ∧ faceL (E0 f g u 3) (E1 f g u 3) (E2 f g u 3) = some (g, u, 1) := by
  have l0 := maxpL_len g
  have l1 := headL_len u
  have l2 := hheaL_len 1
  have a0 : be (E0 f g u 3) 0 4 = 65536 := by
    rw [← maxp_kind g]
    refine be_congr _ _ 0 4 (by rw [E0_len]; omega) (by rw [l0]; omega) fun j h1 h2 => mixL_getD f kp0 (maxpL g) 6 j (by omega) ?_
    rcases (by omega : j = 0 ∨ j = 1 ∨ j = 2 ∨ j = 3) with rfl | rfl | rfl | rfl <;> rfl
  have a1 : be (E0 f g u 3) 4 2 = g := by
    refine Eq.trans ?_ (maxp_g g (by omega))
    refine be_congr _ _ 4 2 (by rw [E0_len]; omega) (by rw [l0]; omega) fun j h1 h2 => mixL_getD f kp0 (maxpL g) 6 j (by omega) ?_
    rcases (by omega : j = 4 ∨ j = 5) with rfl | rfl <;> rfl
  have b0 : be (E1 f g u 3) 12 4 = 1594834165 := by
    rw [← head_kind u]
    refine be_congr _ _ 12 4 (by rw [E1_len]; omega) (by rw [l1]; omega) fun j h1 h2 => mixL_getD f kp1 (headL u) 54 j (by omega) ?_
    rcases (by omega : j = 12 ∨ j = 13 ∨ j = 14 ∨ j = 15) with rfl | rfl | rfl | rfl <;> rfl
  have b1 : be (E1 f g u 3) 18 2 = be (headL u) 18 2 := by
    refine be_congr _ _ 18 2 (by rw [E1_len]; omega) (by rw [l1]; omega) fun j h1 h2 => mixL_getD f kp1 (headL u) 54 j (by omega) ?_
    rcases (by omega : j = 18 ∨ j = 19) with rfl | rfl <;> rfl
  have c0 : be (E2 f g u 3) 34 2 = be (hheaL 1) 34 2 := by
    refine be_congr _ _ 34 2 (by rw [E2_len]; omega) (by rw [l2]; omega) fun j h1 h2 => mixL_getD f kp2 (hheaL 1) 36 j (by omega) ?_
    rcases (by omega : j = 34 ∨ j = 35) with rfl | rfl <;> rfl
  refine ⟨a0, b0, ?_⟩
  unfold faceL
  rw [a1, b1, c0, head_u u (by omega), hhea_m 1 (by omega), E0_len, E1_len, E2_len, if_pos ⟨by omega, by omega, by omega, by omega, by omega, by omega, by omega, by omega⟩]

set_option maxRecDepth 100000 in
set_option maxHeartbeats 32000000 in
theorem faceIdle_walk (fill gl em : Int) (w : World) (hf : 0 ≤ fill ∧ fill ≤ 255) (hgl : 0 ≤ gl ∧ gl ≤ 65535) (hem : 0 ≤ em ∧ em ≤ 65535) :
    Calls Try.prog 9 #[.int .u8 fill, .int .u16 gl, .int .u16 em] w fun e w' => e = .returned (.bool true) ∧ Below w.heap.size w w' := by
  obtain ⟨f0, f1⟩ := hf
  obtain ⟨gl0, gl1⟩ := hgl
  obtain ⟨em0, em1⟩ := hem
  obtain ⟨g, hg⟩ : ∃ g, 1 + gl % 65535 = g := ⟨_, rfl⟩
  obtain ⟨u, hu⟩ : ∃ u, 16 + em % 16000 = u := ⟨_, rfl⟩
  have hgb : 1 ≤ g ∧ g ≤ 65535 := by omega
  have hub : 16 ≤ u ∧ u ≤ 16384 := by omega
  have HGB := Bas.hid hgb
  have HUB := Bas.hid hub
  have HP := Bas.hid (fun w' => plain_any g u 1 w' (by omega) (by omega) (by omega))
  clear hgb hub
  have hx0 := fun x0 x1 x2 w => (index3 x0 x1 x2 w).1
  have hx1 := fun x0 x1 x2 w => (index3 x0 x1 x2 w).2.1
  have hx2 := fun x0 x1 x2 w => (index3 x0 x1 x2 w).2.2
  go_enter Try.func9, Try.ntmps9
  go_wp2_with (fail)
  refine (fspeaks_any _).mono ?_
  rintro e w0 ⟨rfl, hb0⟩
  have HB0 := Bas.hid hb0
  clear hb0
  go_wp2_with (fail)
  clear hg hu
  refine (HP.out w0).mono ?_
  rintro e w1 ⟨G, r0, r1, r2, rfl, ho, hb1⟩
  have HO1 := Bas.hid ho
  have HB1 := Bas.hid (HB0.out.trans (hb1.mono HB0.out.size))
  have hGs : G < w1.heap.size := heap_lt ho.2.1
  have HW0 := Bas.hid HB0.out.size
  clear hb1 ho HP HB0
  go_wp2_with (fail)
  have kk0 : (((w1.alloc (.cells #[.int .i64 0, .int .i64 1, .int .i64 2, .int .i64 3, .int .i64 4, .int .i64 5] 3)).alloc (.cells #[.int .i64 12, .int .i64 13, .int .i64 14, .int .i64 15, .int .i64 18, .int .i64 19] 3)).alloc (.cells #[.int .i64 34, .int .i64 35] 3)).heap[w1.heap.size]? = some (.cells #[.int .i64 0, .int .i64 1, .int .i64 2, .int .i64 3, .int .i64 4, .int .i64 5] 3 (0, 0)) := (Below.heap_alloc _ _ _ (by simp; omega)).trans ((Below.heap_alloc _ _ _ (by simp)).trans (Bas.heap_new _ _))
  have kk1 : (((w1.alloc (.cells #[.int .i64 0, .int .i64 1, .int .i64 2, .int .i64 3, .int .i64 4, .int .i64 5] 3)).alloc (.cells #[.int .i64 12, .int .i64 13, .int .i64 14, .int .i64 15, .int .i64 18, .int .i64 19] 3)).alloc (.cells #[.int .i64 34, .int .i64 35] 3)).heap[w1.heap.size + 1]? = some (.cells #[.int .i64 12, .int .i64 13, .int .i64 14, .int .i64 15, .int .i64 18, .int .i64 19] 3 (0, 0)) := (Below.heap_alloc _ _ _ (by simp)).trans (Bas.heap_new2 _ _ _)
  have kk2 : (((w1.alloc (.cells #[.int .i64 0, .int .i64 1, .int .i64 2, .int .i64 3, .int .i64 4, .int .i64 5] 3)).alloc (.cells #[.int .i64 12, .int .i64 13, .int .i64 14, .int .i64 15, .int .i64 18, .int .i64 19] 3)).alloc (.cells #[.int .i64 34, .int .i64 35] 3)).heap[w1.heap.size + 1 + 1]? = some (.cells #[.int .i64 34, .int .i64 35] 3 (0, 0)) := by
    have h := Bas.heap_new ((w1.alloc (.cells #[.int .i64 0, .int .i64 1, .int .i64 2, .int .i64 3, .int .i64 4, .int .i64 5] 3)).alloc (.cells #[.int .i64 12, .int .i64 13, .int .i64 14, .int .i64 15, .int .i64 18, .int .i64 19] 3)) (.cells #[.int .i64 34, .int .i64 35] 3)
    simpa using h
  have hbK : Below w1.heap.size w1 (((w1.alloc (.cells #[.int .i64 0, .int .i64 1, .int .i64 2, .int .i64 3, .int .i64 4, .int .i64 5] 3)).alloc (.cells #[.int .i64 12, .int .i64 13, .int .i64 14, .int .i64 15, .int .i64 18, .int .i64 19] 3)).alloc (.cells #[.int .i64 34, .int .i64 35] 3)) := (((Below.refl _ _).alloc (Nat.le_refl _) _).alloc (by simp) _).alloc (by simp; omega) _
  have HO2 := Bas.hid (own3_base (own3_below HO1.out hbK) HW0.out)
  have HB2 := Bas.hid (HB1.out.trans (hbK.mono HB1.out.size))
  generalize ((w1.alloc (.cells #[.int .i64 0, .int .i64 1, .int .i64 2, .int .i64 3, .int .i64 4, .int .i64 5] 3)).alloc (.cells #[.int .i64 12, .int .i64 13, .int .i64 14, .int .i64 15, .int .i64 18, .int .i64 19] 3)).alloc (.cells #[.int .i64 34, .int .i64 35] 3) = W2 at *
  generalize w1.heap.size = T at *
  clear hbK HO1 HB1
  go_loopw [35] (fun vi wr => ∃ (i : Nat) (ii : Int), ii = i ∧ i ≤ 3 ∧ vi = .int .i64 ii ∧ Own3 wr w.heap.size G sMaxp sHead sHhea r0 r1 r2 (E0 fill g u i) (E1 fill g u i) (E2 fill g u i) ∧ Below w.heap.size w wr ∧ wr.heap[T]? = some (.cells #[.int .i64 0, .int .i64 1, .int .i64 2, .int .i64 3, .int .i64 4, .int .i64 5] 3 (0, 0)) ∧ wr.heap[T + 1]? = some (.cells #[.int .i64 12, .int .i64 13, .int .i64 14, .int .i64 15, .int .i64 18, .int .i64 19] 3 (0, 0)) ∧ wr.heap[T + 1 + 1]? = some (.cells #[.int .i64 34, .int .i64 35] 3 (0, 0))) (fun vi _ => 3 - (intOf vi).toNat)
  case atStart => exact ⟨0, 0, rfl, by omega, rfl, HO2.out, HB2.out, kk0, kk1, kk2⟩
  case round =>
    obtain ⟨i, ii, hii, hi, rfl, how, hb, kk0, kk1, kk2⟩ := hrel
    have HOWN := Bas.hid how
    have HB := Bas.hid hb
    clear how hb HO2 HB2
    rcases (by omega : i = 0 ∨ i = 1 ∨ i = 2 ∨ i = 3) with rfl | rfl | rfl | rfl
    · obtain rfl : ii = 0 := hii
      obtain ⟨hG, hk, h0, h1, h2, a01, a02, a12⟩ := HOWN.out
      obtain ⟨b, cp, hv⟩ := row_slice h0
      rw [E0_len] at hv
      have hq := cell_of_heap (i := 1) (v := r0) hk rfl
      rw [hv] at hq
      have HV := Bas.hid hv
      clear hG hk h0 h1 h2 a01 a02 a12 hv
      go_wp2_with (fail)
      clear hq
      obtain ⟨wo, hwo⟩ : ∃ wo : World, wo = wr := ⟨_, rfl⟩
      rw [← hwo] at HOWN HB kk0 kk1 kk2
      rw [← hwo]
      clear hwo
      go_loopw [45] (fun vk wr => ∃ k : Nat, k ≤ 6 ∧ vk = .int .i64 k ∧ Own3 wr w.heap.size G sMaxp sHead sHhea r0 r1 r2 (mixL fill kp0 (E0 fill g u 0) k) (E1 fill g u 0) (E2 fill g u 0) ∧ Below w.heap.size w wr ∧ wr.heap[T]? = some (.cells #[.int .i64 0, .int .i64 1, .int .i64 2, .int .i64 3, .int .i64 4, .int .i64 5] 3 (0, 0)) ∧ wr.heap[T + 1]? = some (.cells #[.int .i64 12, .int .i64 13, .int .i64 14, .int .i64 15, .int .i64 18, .int .i64 19] 3 (0, 0)) ∧ wr.heap[T + 1 + 1]? = some (.cells #[.int .i64 34, .int .i64 35] 3 (0, 0))) (fun vk _ => 6 - (intOf vk).toNat)
      case atStart => exact ⟨0, by omega, rfl, by rw [mixL_zero]; exact HOWN.out, HB.out, kk0, kk1, kk2⟩
      case round =>
        obtain ⟨k, hk, rfl, how, hb, kk0, kk1, kk2⟩ := hrel
        have HOWN := Bas.hid how
        have HB := Bas.hid hb
        clear how hb
        by_cases hkn : k < 6
        · have e1 : decide ((k : Int) < 6) = true := by simp; omega
          have e2 : decide (k < 6) = true := by simp; omega
          go_wp2_with (fail)
          obtain ⟨wo2, hwo2⟩ : ∃ wo : World, wo = wr := ⟨_, rfl⟩
          rw [← hwo2] at HOWN HB kk0 kk1 kk2
          rw [← hwo2]
          clear hwo2
          go_loopw [13, 50] (fun vb vn wr => ∃ (j : Nat) (bb : Bool), j ≤ 6 ∧ vn = .int .i64 j ∧ vb = .bool bb ∧ bb = ((kp0.take j).any fun x => x == k) ∧ wr = wo2) (fun _ vn _ => 6 - (intOf vn).toNat)
          case atStart => exact ⟨0, false, by omega, rfl, rfl, rfl, rfl⟩
          case round =>
            obtain ⟨j, bb, hj, rfl, rfl, hbb, rfl⟩ := hrel
            have HBB := Bas.hid hbb
            clear hbb
            by_cases hjn : j < 6
            · have f1 : decide ((j : Int) < 6) = true := by simp; omega
              have f2 : decide (j < 6) = true := by simp; omega
              obtain ⟨x, hx⟩ : ∃ x, kp0[j]? = some x := ⟨_, List.getElem?_eq_getElem hjn⟩
              have hc : wr.cell? ⟨T, j, none⟩ = some (.int .i64 (x : Nat)) := cell_of_heap kk0 (kc0 j x hx)
              have HNX : Hid (((kp0.take (j + 1)).any fun x => x == k) = (((kp0.take j).any fun x => x == k) || (x == k))) := by
                unfold Hid; rw [List.take_add_one, hx, List.any_append]; simp
              clear hx
              cases bb with
              | true =>
                go_wp2_with (fail)
                go_roundw
                case rel => exact ⟨j + 1, true, by omega, by go_num, rfl, by rw [HNX.out, ← HBB.out]; rfl, trivial⟩
                case measure => simp [intOf]; omega
              | false =>
                by_cases hxk : x = k
                · have g1 : ((x : Int) == (k : Int)) = true := by simp; omega
                  have g2 : (x == k) = true := by simpa using hxk
                  have G2 := Bas.hid g2
                  clear hxk g2
                  go_wp2_with (fail)
                  go_roundw
                  case rel => exact ⟨j + 1, true, by omega, by go_num, rfl, by rw [HNX.out, ← HBB.out, G2.out]; rfl, trivial⟩
                  case measure => simp [intOf]; omega
                · have g1 : ((x : Int) == (k : Int)) = false := by simp; omega
                  have g2 : (x == k) = false := by simpa using hxk
                  have G2 := Bas.hid g2
                  clear g2
                  go_wp2_with (fail)
                  go_roundw
                  case rel => exact ⟨j + 1, false, by omega, by go_num, rfl, by rw [HNX.out, ← HBB.out, G2.out]; rfl, trivial⟩
                  case measure => simp [intOf]; omega
            · have hjn2 : j = 6 := by omega
              subst hjn2
              have hall : bb = kp0.any fun x => x == k := HBB.out
              cases bb with
              | true =>
                have HST := Bas.hid (mixL_keep fill kp0 (E0 fill g u 0) k hall.symm)
                clear hall
                go_wp2_with (fail)
                go_roundw
                case rel => exact ⟨k + 1, by omega, by go_num, by rw [HST.out]; exact HOWN.out, HB.out, kk0, kk1, kk2⟩
                case measure => simp [intOf]; omega
              | false =>
                have HST := Bas.hid (mixL_set fill kp0 (E0 fill g u 0) k hall.symm)
                clear hall
                obtain ⟨hG, hkk, h0, h1, h2, a01, a02, a12⟩ := HOWN.out
                have hl : (mixL fill kp0 (E0 fill g u 0) k).length = 6 := by rw [mixL_len, E0_len]
                obtain ⟨gb, cpb, hvb, hbase, ⟨uu, hcell⟩, hfz, hset⟩ := own_set h0 (by rw [hl]; exact hkn) fill
                have hq := cell_of_heap (i := 1) (v := r0) hkk rfl
                rw [hvb, hl] at hq
                have H0 := Bas.hid h0
                have H1 := Bas.hid h1
                have H2 := Bas.hid h2
                have HHK := Bas.hid hkk
                have HA := Bas.hid (And.intro a01 (And.intro a02 a12))
                have HVB := Bas.hid hvb
                have HSET := Bas.hid hset
                have hGne : G ≠ gb := fun e => own_ty h0 hkk (by decide) (by rw [hvb, e]; rfl)
                have hT0 : T ≠ gb := fun e => own_ty h0 kk0 (by decide) (by rw [hvb, e]; rfl)
                have hT1 : T + 1 ≠ gb := fun e => own_ty h0 kk1 (by decide) (by rw [hvb, e]; rfl)
                have hT2 : T + 1 + 1 ≠ gb := fun e => own_ty h0 kk2 (by decide) (by rw [hvb, e]; rfl)
                clear hkk h0 h1 h2 a01 a02 a12 hvb hset hl
                go_wp2_with (fail)
                go_roundw
                case rel =>
                  refine ⟨k + 1, by omega, by go_num, ⟨hG, (Below.heap_setCell _ _ _ _ hGne).trans HHK.out, ?_, ?_, ?_, HA.out.1, HA.out.2.1, HA.out.2.2⟩, HB.out.setCell (p := ⟨gb, k, none⟩) hbase _, (Below.heap_setCell _ _ _ _ hT0).trans kk0, (Below.heap_setCell _ _ _ _ hT1).trans kk1, (Below.heap_setCell _ _ _ _ hT2).trans kk2⟩
                  · rw [HST.out]; exact HSET.out
                  · exact Row.owned_keep H1.out fun gg hg => Below.heap_setCell _ _ _ _ (fun e => HA.out.1 gb (by rw [HVB.out]; rfl) (by rw [hg]; exact congrArg some e))
                  · exact Row.owned_keep H2.out fun gg hg => Below.heap_setCell _ _ _ _ (fun e => HA.out.2.1 gb (by rw [HVB.out]; rfl) (by rw [hg]; exact congrArg some e))
                case measure => simp [intOf]; omega
        · have hkn2 : k = 6 := by omega
          subst hkn2
          have HEE : Hid (mixL fill kp0 (E0 fill g u 0) 6 = E0 fill g u (0 + 1)) := by unfold Hid; exact E0_next fill g u
          go_wp2_with (fail)
          go_roundw
          case rel => exact ⟨0 + 1, 1, rfl, by omega, rfl, by rw [← HEE.out]; exact HOWN.out, HB.out, kk0, kk1, kk2⟩
          case measure => simp [intOf]
    · obtain rfl : ii = 1 := hii
      obtain ⟨hG, hk, h0, h1, h2, a01, a02, a12⟩ := HOWN.out
      obtain ⟨b, cp, hv⟩ := row_slice h1
      rw [E1_len] at hv
      have hq := cell_of_heap (i := 3) (v := r1) hk rfl
      rw [hv] at hq
      have HV := Bas.hid hv
      clear hG hk h0 h1 h2 a01 a02 a12 hv
      go_wp2_with (fail)
      clear hq
      obtain ⟨wo, hwo⟩ : ∃ wo : World, wo = wr := ⟨_, rfl⟩
      rw [← hwo] at HOWN HB kk0 kk1 kk2
      rw [← hwo]
      clear hwo
      go_loopw [45] (fun vk wr => ∃ k : Nat, k ≤ 54 ∧ vk = .int .i64 k ∧ Own3 wr w.heap.size G sMaxp sHead sHhea r0 r1 r2 (E0 fill g u 1) (mixL fill kp1 (E1 fill g u 1) k) (E2 fill g u 1) ∧ Below w.heap.size w wr ∧ wr.heap[T]? = some (.cells #[.int .i64 0, .int .i64 1, .int .i64 2, .int .i64 3, .int .i64 4, .int .i64 5] 3 (0, 0)) ∧ wr.heap[T + 1]? = some (.cells #[.int .i64 12, .int .i64 13, .int .i64 14, .int .i64 15, .int .i64 18, .int .i64 19] 3 (0, 0)) ∧ wr.heap[T + 1 + 1]? = some (.cells #[.int .i64 34, .int .i64 35] 3 (0, 0))) (fun vk _ => 54 - (intOf vk).toNat)
      case atStart => exact ⟨0, by omega, rfl, by rw [mixL_zero]; exact HOWN.out, HB.out, kk0, kk1, kk2⟩
      case round =>
        obtain ⟨k, hk, rfl, how, hb, kk0, kk1, kk2⟩ := hrel
        have HOWN := Bas.hid how
        have HB := Bas.hid hb
        clear how hb
        by_cases hkn : k < 54
        · have e1 : decide ((k : Int) < 54) = true := by simp; omega
          have e2 : decide (k < 54) = true := by simp; omega
          go_wp2_with (fail)
          obtain ⟨wo2, hwo2⟩ : ∃ wo : World, wo = wr := ⟨_, rfl⟩
          rw [← hwo2] at HOWN HB kk0 kk1 kk2
          rw [← hwo2]
          clear hwo2
          go_loopw [13, 50] (fun vb vn wr => ∃ (j : Nat) (bb : Bool), j ≤ 6 ∧ vn = .int .i64 j ∧ vb = .bool bb ∧ bb = ((kp1.take j).any fun x => x == k) ∧ wr = wo2) (fun _ vn _ => 6 - (intOf vn).toNat)
          case atStart => exact ⟨0, false, by omega, rfl, rfl, rfl, rfl⟩
          case round =>
            obtain ⟨j, bb, hj, rfl, rfl, hbb, rfl⟩ := hrel
            have HBB := Bas.hid hbb
            clear hbb
            by_cases hjn : j < 6
            · have f1 : decide ((j : Int) < 6) = true := by simp; omega
              have f2 : decide (j < 6) = true := by simp; omega
              obtain ⟨x, hx⟩ : ∃ x, kp1[j]? = some x := ⟨_, List.getElem?_eq_getElem hjn⟩
              have hc : wr.cell? ⟨T + 1, j, none⟩ = some (.int .i64 (x : Nat)) := cell_of_heap kk1 (kc1 j x hx)
              have HNX : Hid (((kp1.take (j + 1)).any fun x => x == k) = (((kp1.take j).any fun x => x == k) || (x == k))) := by
                unfold Hid; rw [List.take_add_one, hx, List.any_append]; simp
              clear hx
              cases bb with
              | true =>
                go_wp2_with (fail)
                go_roundw
                case rel => exact ⟨j + 1, true, by omega, by go_num, rfl, by rw [HNX.out, ← HBB.out]; rfl, trivial⟩
                case measure => simp [intOf]; omega
              | false =>
                by_cases hxk : x = k
                · have g1 : ((x : Int) == (k : Int)) = true := by simp; omega
                  have g2 : (x == k) = true := by simpa using hxk
                  have G2 := Bas.hid g2
                  clear hxk g2
                  go_wp2_with (fail)
                  go_roundw
                  case rel => exact ⟨j + 1, true, by omega, by go_num, rfl, by rw [HNX.out, ← HBB.out, G2.out]; rfl, trivial⟩
                  case measure => simp [intOf]; omega
                · have g1 : ((x : Int) == (k : Int)) = false := by simp; omega
                  have g2 : (x == k) = false := by simpa using hxk
                  have G2 := Bas.hid g2
                  clear g2
                  go_wp2_with (fail)
                  go_roundw
                  case rel => exact ⟨j + 1, false, by omega, by go_num, rfl, by rw [HNX.out, ← HBB.out, G2.out]; rfl, trivial⟩
                  case measure => simp [intOf]; omega
            · have hjn2 : j = 6 := by omega
              subst hjn2
              have hall : bb = kp1.any fun x => x == k := HBB.out
              cases bb with
              | true =>
                have HST := Bas.hid (mixL_keep fill kp1 (E1 fill g u 1) k hall.symm)
                clear hall
                go_wp2_with (fail)
                go_roundw
                case rel => exact ⟨k + 1, by omega, by go_num, by rw [HST.out]; exact HOWN.out, HB.out, kk0, kk1, kk2⟩
                case measure => simp [intOf]; omega
              | false =>
                have HST := Bas.hid (mixL_set fill kp1 (E1 fill g u 1) k hall.symm)
                clear hall
                obtain ⟨hG, hkk, h0, h1, h2, a01, a02, a12⟩ := HOWN.out
                have hl : (mixL fill kp1 (E1 fill g u 1) k).length = 54 := by rw [mixL_len, E1_len]
                obtain ⟨gb, cpb, hvb, hbase, ⟨uu, hcell⟩, hfz, hset⟩ := own_set h1 (by rw [hl]; exact hkn) fill
                have hq := cell_of_heap (i := 3) (v := r1) hkk rfl
                rw [hvb, hl] at hq
                have H0 := Bas.hid h0
                have H1 := Bas.hid h1
                have H2 := Bas.hid h2
                have HHK := Bas.hid hkk
                have HA := Bas.hid (And.intro a01 (And.intro a02 a12))
                have HVB := Bas.hid hvb
                have HSET := Bas.hid hset
                have hGne : G ≠ gb := fun e => own_ty h1 hkk (by decide) (by rw [hvb, e]; rfl)
                have hT0 : T ≠ gb := fun e => own_ty h1 kk0 (by decide) (by rw [hvb, e]; rfl)
                have hT1 : T + 1 ≠ gb := fun e => own_ty h1 kk1 (by decide) (by rw [hvb, e]; rfl)
                have hT2 : T + 1 + 1 ≠ gb := fun e => own_ty h1 kk2 (by decide) (by rw [hvb, e]; rfl)
                clear hkk h0 h1 h2 a01 a02 a12 hvb hset hl
                go_wp2_with (fail)
                go_roundw
                case rel =>
                  refine ⟨k + 1, by omega, by go_num, ⟨hG, (Below.heap_setCell _ _ _ _ hGne).trans HHK.out, ?_, ?_, ?_, HA.out.1, HA.out.2.1, HA.out.2.2⟩, HB.out.setCell (p := ⟨gb, k, none⟩) hbase _, (Below.heap_setCell _ _ _ _ hT0).trans kk0, (Below.heap_setCell _ _ _ _ hT1).trans kk1, (Below.heap_setCell _ _ _ _ hT2).trans kk2⟩
                  · exact Row.owned_keep H0.out fun gg hg => Below.heap_setCell _ _ _ _ (fun e => HA.out.1 gg hg (by rw [HVB.out]; exact congrArg some e.symm))
                  · rw [HST.out]; exact HSET.out
                  · exact Row.owned_keep H2.out fun gg hg => Below.heap_setCell _ _ _ _ (fun e => HA.out.2.2 gb (by rw [HVB.out]; rfl) (by rw [hg]; exact congrArg some e))
                case measure => simp [intOf]; omega
        · have hkn2 : k = 54 := by omega
          subst hkn2
          have HEE : Hid (mixL fill kp1 (E1 fill g u 1) 54 = E1 fill g u (1 + 1)) := by unfold Hid; exact E1_next fill g u
          go_wp2_with (fail)
          go_roundw
          case rel => exact ⟨1 + 1, 2, rfl, by omega, rfl, by rw [← HEE.out]; exact HOWN.out, HB.out, kk0, kk1, kk2⟩
          case measure => simp [intOf]
    · obtain rfl : ii = 2 := hii
      obtain ⟨hG, hk, h0, h1, h2, a01, a02, a12⟩ := HOWN.out
      obtain ⟨b, cp, hv⟩ := row_slice h2
      rw [E2_len] at hv
      have hq := cell_of_heap (i := 5) (v := r2) hk rfl
      rw [hv] at hq
      have HV := Bas.hid hv
      clear hG hk h0 h1 h2 a01 a02 a12 hv
      go_wp2_with (fail)
      clear hq
      obtain ⟨wo, hwo⟩ : ∃ wo : World, wo = wr := ⟨_, rfl⟩
      rw [← hwo] at HOWN HB kk0 kk1 kk2
      rw [← hwo]
      clear hwo
      go_loopw [45] (fun vk wr => ∃ k : Nat, k ≤ 36 ∧ vk = .int .i64 k ∧ Own3 wr w.heap.size G sMaxp sHead sHhea r0 r1 r2 (E0 fill g u 2) (E1 fill g u 2) (mixL fill kp2 (E2 fill g u 2) k) ∧ Below w.heap.size w wr ∧ wr.heap[T]? = some (.cells #[.int .i64 0, .int .i64 1, .int .i64 2, .int .i64 3, .int .i64 4, .int .i64 5] 3 (0, 0)) ∧ wr.heap[T + 1]? = some (.cells #[.int .i64 12, .int .i64 13, .int .i64 14, .int .i64 15, .int .i64 18, .int .i64 19] 3 (0, 0)) ∧ wr.heap[T + 1 + 1]? = some (.cells #[.int .i64 34, .int .i64 35] 3 (0, 0))) (fun vk _ => 36 - (intOf vk).toNat)
      case atStart => exact ⟨0, by omega, rfl, by rw [mixL_zero]; exact HOWN.out, HB.out, kk0, kk1, kk2⟩
      case round =>
        obtain ⟨k, hk, rfl, how, hb, kk0, kk1, kk2⟩ := hrel
        have HOWN := Bas.hid how
        have HB := Bas.hid hb
        clear how hb
        by_cases hkn : k < 36
        · have e1 : decide ((k : Int) < 36) = true := by simp; omega
          have e2 : decide (k < 36) = true := by simp; omega
          go_wp2_with (fail)
          obtain ⟨wo2, hwo2⟩ : ∃ wo : World, wo = wr := ⟨_, rfl⟩
          rw [← hwo2] at HOWN HB kk0 kk1 kk2
          rw [← hwo2]
          clear hwo2
          go_loopw [13, 50] (fun vb vn wr => ∃ (j : Nat) (bb : Bool), j ≤ 2 ∧ vn = .int .i64 j ∧ vb = .bool bb ∧ bb = ((kp2.take j).any fun x => x == k) ∧ wr = wo2) (fun _ vn _ => 2 - (intOf vn).toNat)
          case atStart => exact ⟨0, false, by omega, rfl, rfl, rfl, rfl⟩
          case round =>
            obtain ⟨j, bb, hj, rfl, rfl, hbb, rfl⟩ := hrel
            have HBB := Bas.hid hbb
            clear hbb
            by_cases hjn : j < 2
            · have f1 : decide ((j : Int) < 2) = true := by simp; omega
              have f2 : decide (j < 2) = true := by simp; omega
              obtain ⟨x, hx⟩ : ∃ x, kp2[j]? = some x := ⟨_, List.getElem?_eq_getElem hjn⟩
              have hc : wr.cell? ⟨T + 1 + 1, j, none⟩ = some (.int .i64 (x : Nat)) := cell_of_heap kk2 (kc2 j x hx)
              have HNX : Hid (((kp2.take (j + 1)).any fun x => x == k) = (((kp2.take j).any fun x => x == k) || (x == k))) := by
                unfold Hid; rw [List.take_add_one, hx, List.any_append]; simp
              clear hx
              cases bb with
              | true =>
                go_wp2_with (fail)
                go_roundw
                case rel => exact ⟨j + 1, true, by omega, by go_num, rfl, by rw [HNX.out, ← HBB.out]; rfl, trivial⟩
                case measure => simp [intOf]; omega
              | false =>
                by_cases hxk : x = k
                · have g1 : ((x : Int) == (k : Int)) = true := by simp; omega
                  have g2 : (x == k) = true := by simpa using hxk
                  have G2 := Bas.hid g2
                  clear hxk g2
                  go_wp2_with (fail)
                  go_roundw
                  case rel => exact ⟨j + 1, true, by omega, by go_num, rfl, by rw [HNX.out, ← HBB.out, G2.out]; rfl, trivial⟩
                  case measure => simp [intOf]; omega
                · have g1 : ((x : Int) == (k : Int)) = false := by simp; omega
                  have g2 : (x == k) = false := by simpa using hxk
                  have G2 := Bas.hid g2
                  clear g2
                  go_wp2_with (fail)
                  go_roundw
                  case rel => exact ⟨j + 1, false, by omega, by go_num, rfl, by rw [HNX.out, ← HBB.out, G2.out]; rfl, trivial⟩
                  case measure => simp [intOf]; omega
            · have hjn2 : j = 2 := by omega
              subst hjn2
              have hall : bb = kp2.any fun x => x == k := HBB.out
              cases bb with
              | true =>
                have HST := Bas.hid (mixL_keep fill kp2 (E2 fill g u 2) k hall.symm)
                clear hall
                go_wp2_with (fail)
                go_roundw
                case rel => exact ⟨k + 1, by omega, by go_num, by rw [HST.out]; exact HOWN.out, HB.out, kk0, kk1, kk2⟩
                case measure => simp [intOf]; omega
              | false =>
                have HST := Bas.hid (mixL_set fill kp2 (E2 fill g u 2) k hall.symm)
                clear hall
                obtain ⟨hG, hkk, h0, h1, h2, a01, a02, a12⟩ := HOWN.out
                have hl : (mixL fill kp2 (E2 fill g u 2) k).length = 36 := by rw [mixL_len, E2_len]
                obtain ⟨gb, cpb, hvb, hbase, ⟨uu, hcell⟩, hfz, hset⟩ := own_set h2 (by rw [hl]; exact hkn) fill
                have hq := cell_of_heap (i := 5) (v := r2) hkk rfl
                rw [hvb, hl] at hq
                have H0 := Bas.hid h0
                have H1 := Bas.hid h1
                have H2 := Bas.hid h2
                have HHK := Bas.hid hkk
                have HA := Bas.hid (And.intro a01 (And.intro a02 a12))
                have HVB := Bas.hid hvb
                have HSET := Bas.hid hset
                have hGne : G ≠ gb := fun e => own_ty h2 hkk (by decide) (by rw [hvb, e]; rfl)
                have hT0 : T ≠ gb := fun e => own_ty h2 kk0 (by decide) (by rw [hvb, e]; rfl)
                have hT1 : T + 1 ≠ gb := fun e => own_ty h2 kk1 (by decide) (by rw [hvb, e]; rfl)
                have hT2 : T + 1 + 1 ≠ gb := fun e => own_ty h2 kk2 (by decide) (by rw [hvb, e]; rfl)
                clear hkk h0 h1 h2 a01 a02 a12 hvb hset hl
                go_wp2_with (fail)
                go_roundw
                case rel =>
                  refine ⟨k + 1, by omega, by go_num, ⟨hG, (Below.heap_setCell _ _ _ _ hGne).trans HHK.out, ?_, ?_, ?_, HA.out.1, HA.out.2.1, HA.out.2.2⟩, HB.out.setCell (p := ⟨gb, k, none⟩) hbase _, (Below.heap_setCell _ _ _ _ hT0).trans kk0, (Below.heap_setCell _ _ _ _ hT1).trans kk1, (Below.heap_setCell _ _ _ _ hT2).trans kk2⟩
                  · exact Row.owned_keep H0.out fun gg hg => Below.heap_setCell _ _ _ _ (fun e => HA.out.2.1 gg hg (by rw [HVB.out]; exact congrArg some e.symm))
                  · exact Row.owned_keep H1.out fun gg hg => Below.heap_setCell _ _ _ _ (fun e => HA.out.2.2 gg hg (by rw [HVB.out]; exact congrArg some e.symm))
                  · rw [HST.out]; exact HSET.out
                case measure => simp [intOf]; omega
        · have hkn2 : k = 36 := by omega
          subst hkn2
          have HEE : Hid (mixL fill kp2 (E2 fill g u 2) 36 = E2 fill g u (2 + 1)) := by unfold Hid; exact E2_next fill g u
          go_wp2_with (fail)
          go_roundw
          case rel => exact ⟨2 + 1, 3, rfl, by omega, rfl, by rw [← HEE.out]; exact HOWN.out, HB.out, kk0, kk1, kk2⟩
          case measure => simp [intOf]
    · obtain rfl : ii = 3 := hii
      obtain ⟨hk0, hk1, hfl⟩ := idle_face fill g u HGB.out HUB.out
      have HFL := Bas.hid hfl
      have HM := Bas.hid (make3 _ _ _ _ wr (own3_parts HOWN.out) (by rw [E0_len]; omega) (by rw [E1_len]; omega) (by rw [E2_len]; omega) (mixL_byte fill ⟨f0, f1⟩ kp0 (maxpL g) (maxpL_byte g) 6) (mixL_byte fill ⟨f0, f1⟩ kp1 (headL u) (headL_byte u) 54) (mixL_byte fill ⟨f0, f1⟩ kp2 (hheaL 1) (hheaL_byte 1) 36))
      have HK0 := Bas.hid hk0
      have HK1 := Bas.hid hk1
      clear hk0 hk1 hfl kk0 kk1 kk2 HOWN
      go_wp2_with (fail)
      refine HM.out.mono ?_
      rintro e w3 ⟨c, cap, bs, rfl, h1, h2, hv, hF, -, hb3⟩
      have HR := Bas.hid (fread_font (some ⟨c, 0, none⟩) cap bs _ w3 h1 h2 hv hF 2 0 1 _ _ _ rfl rfl rfl (fun _ => HK0.out) (fun _ => HK1.out))
      have HB3 := Bas.hid (HB.out.trans (hb3.mono HB.out.size))
      clear hb3 hv hF HM HB h1 h2
      go_wp2_with (fail)
      refine HR.out.mono ?_
      rintro e w4 ⟨hb4, rfl⟩
      have hfl2 := HFL.out
      simp only [E0, E1, E2] at hfl2
      first | rw [HFL.out] | rw [hfl2]
      simp only [Option.getD_some, Option.isSome_some, if_true]
      have HB4 := Bas.hid (HB3.out.trans (hb4.mono HB3.out.size))
      have HB5 := Bas.hid (HB4.out.alloc HB4.out.size (.cells #[.int .i64 g, .int .i64 u, .int .i64 1] 63))
      clear hb4 HR HB3 hfl2
      go_wp2_with (fail)
      go_ret
      exact ⟨rfl, HB5.out⟩

theorem faceIdle_law (fill gl em : Int) (w : World) (hf : (Lit.int .u8 fill).wf = true) (hgl : (Lit.int .u16 gl).wf = true) (hem : (Lit.int .u16 em).wf = true) :
    Calls Try.prog 9 #[.int .u8 fill, .int .u16 gl, .int .u16 em] w fun e w' => e = .returned (.bool true) ∧ Below w.heap.size w w' :=
  faceIdle_walk fill gl em w (Bas.wf_u8 hf) (Bas.wf_u16 hgl) (Bas.wf_u16 hem)
end Fo
end Go.Proofs.Ytfocjagkhoonmaa
