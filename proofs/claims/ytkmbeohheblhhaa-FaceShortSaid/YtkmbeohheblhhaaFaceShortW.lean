/- The walk of the law FaceShort. -/
import Derived.Test.YtkmbeohheblhhaaFaceShortL
import Derived.Test.YtkmbeohheblhhaaRegDX
namespace Go.Proofs.Ytkmbeohheblhhaa
open Go.RowKit
namespace Fo
open Vw Wr

theorem capOf {w : World} {base size : Nat} {e : TypeId} {a : Option Addr} {n m c : Nat} {xs : List Value} (h : w.ownsRow base e size (.slice a m c) n xs) : n ≤ c ∧ c ≤ maxLen := by
  rcases Row.owned_parts h with ⟨h1, h2, _⟩ | ⟨g, cap, h1, _, _, h2, h3, _⟩
  · cases h1; subst h2; exact ⟨Nat.le_refl _, Nat.zero_le _⟩
  · cases h1; exact ⟨h2, h3⟩
theorem leads_take4 {w : World} {G c : Nat} {t : TypeId} {a b d e f g : Value} (hk : w.heap[G]? = some (.cells #[a, b, d, e, f, g] t (0, 0))) : Row.Leads w (.slice (some ⟨G, 0, none⟩) 2 c) 2 [a, b, d, e] :=
  .inr ⟨_, _, rfl, fun j u hj => by
    rw [Addr.add_lit, Nat.zero_add]
    refine cell_of_heap (i := j) hk ?_
    have hl : j < 4 := (List.getElem?_eq_some_iff.1 hj).1
    rcases (by omega : j = 0 ∨ j = 1 ∨ j = 2 ∨ j = 3) with rfl | rfl | rfl | rfl <;> exact hj⟩
theorem row_u8 {w : World} {a : Option Addr} {len cap : Nat} {zs : List Int} (h : Bas.IsRow .u8 w a len cap zs) :
    ∃ A : List Int, A.length = len ∧ Row.Leads w (.slice a len cap) len (A.map (Value.int .u8)) ∧ ∀ x ∈ A, 0 ≤ x ∧ x ≤ 255 := by
  rcases h with ⟨rfl, rfl, rfl, rfl⟩ | ⟨x, rfl, hl, hm, hz, hcell, hwz⟩
  · exact ⟨[], rfl, .inl ⟨rfl, rfl, rfl⟩, fun x hx => by cases hx⟩
  · refine ⟨zs.take len, by rw [List.length_take]; omega, .inr ⟨x, cap, rfl, fun j u hu => ?_⟩, fun y hy => Bas.wf_u8 (hwz y (List.mem_of_mem_take hy))⟩
    rw [List.getElem?_map] at hu
    have hj : j < len := by
      by_cases hj : j < len
      · exact hj
      · rw [List.getElem?_take_eq_none (by omega)] at hu; cases hu
    rw [List.getElem?_take_of_lt hj, List.getElem?_eq_getElem (by omega)] at hu
    cases hu
    rw [hcell j (by omega), List.getD_eq_getElem?_getD, List.getElem?_eq_getElem (by omega)]
    rfl
theorem drop0 {w : World} {base G : Nat} {t0 t1 t2 : ByteArray} {r0 r1 r2 : Value} {d0 d1 d2 : List Int} (h : Own3 w base G t0 t1 t2 r0 r1 r2 d0 d1 d2) :
    ∃ v w', (Builtin.append_ #[24, 24] 24 #[.slice (some ⟨G, 0, none⟩) 0 0, .slice (some ⟨G, 2, none⟩) 2 2]).run Try.prog w = .ok v w' ∧ Below w.heap.size w w' ∧ PParts w' v [⟨t1, d1⟩, ⟨t2, d2⟩] := by
  have hk := h.2.1
  obtain ⟨i8, hi8, hz1, hz2, hz3⟩ := info_parts infoP
  have hc := fun (j : Nat) (v : Value) (hv : #[.string t0, r0, .string t1, r1, .string t2, r2][j]? = some v) => cell_of_heap (i := j) (v := v) hk hv
  obtain ⟨v, w', hr, hown, hg⟩ := run_append_arg_grows (P := Try.prog) w 24 24 27 i8 (.agg #[.string ⟨#[]⟩, .slice none 0 0]) 2 40 Try.underlying24 hi8 hz1 hz2 hz3 rfl (by decide) ⟨G, 0, none⟩ 0 0 [] rfl (fun j u hj => by
    rw [Addr.add_lit, Nat.zero_add]
    exact hc j u (by have hl : j < 0 := (List.getElem?_eq_some_iff.1 hj).1; omega))
    ⟨G, 2, none⟩ 2 2 [.string t1, r1, .string t2, r2] rfl (fun j u hj => by
    rw [Addr.add_lit]
    exact hc (2 + j) u (by have hl : j < 4 := (List.getElem?_eq_some_iff.1 hj).1; rcases (by omega : j = 0 ∨ j = 1 ∨ j = 2 ∨ j = 3) with rfl | rfl | rfl | rfl <;> exact hj)) (by omega) (by unfold maxLen; omega) (by omega)
  have hb : Below w.heap.size w w' := (Below.refl _ _).grown hg (Nat.le_refl _) (fun g hg => by cases hg)
  refine ⟨_, _, hr, hb, [r1, r2], rfl, Row.leads_owned hown, fun i c r hc hr => ?_⟩
  match i, hc, hr with
  | 0, hc, hr => cases hc; cases hr; rw [u8_flat]; exact Row.leads_below (Row.leads_owned h.2.2.2.1) hb
  | 1, hc, hr => cases hc; cases hr; rw [u8_flat]; exact Row.leads_below (Row.leads_owned h.2.2.2.2.1) hb
  | j + 2, hc, hr => simp at hc
theorem drop1 {w : World} {base G : Nat} {t0 t1 t2 : ByteArray} {r0 r1 r2 : Value} {d0 d1 d2 : List Int} (h : Own3 w base G t0 t1 t2 r0 r1 r2 d0 d1 d2) :
    ∃ v w', (Builtin.append_ #[24, 24] 24 #[.slice (some ⟨G, 0, none⟩) 1 1, .slice (some ⟨G, 4, none⟩) 1 1]).run Try.prog w = .ok v w' ∧ Below w.heap.size w w' ∧ PParts w' v [⟨t0, d0⟩, ⟨t2, d2⟩] := by
  have hk := h.2.1
  obtain ⟨i8, hi8, hz1, hz2, hz3⟩ := info_parts infoP
  have hc := fun (j : Nat) (v : Value) (hv : #[.string t0, r0, .string t1, r1, .string t2, r2][j]? = some v) => cell_of_heap (i := j) (v := v) hk hv
  obtain ⟨v, w', hr, hown, hg⟩ := run_append_arg_grows (P := Try.prog) w 24 24 27 i8 (.agg #[.string ⟨#[]⟩, .slice none 0 0]) 2 40 Try.underlying24 hi8 hz1 hz2 hz3 rfl (by decide) ⟨G, 0, none⟩ 1 1 [.string t0, r0] rfl (fun j u hj => by
    rw [Addr.add_lit, Nat.zero_add]
    exact hc j u (by have hl : j < 2 := (List.getElem?_eq_some_iff.1 hj).1; rcases (by omega : j = 0 ∨ j = 1) with rfl | rfl <;> exact hj))
    ⟨G, 4, none⟩ 1 1 [.string t2, r2] rfl (fun j u hj => by
    rw [Addr.add_lit]
    exact hc (4 + j) u (by have hl : j < 2 := (List.getElem?_eq_some_iff.1 hj).1; rcases (by omega : j = 0 ∨ j = 1) with rfl | rfl <;> exact hj)) (by omega) (by unfold maxLen; omega) (by omega)
  have hb : Below w.heap.size w w' := (Below.refl _ _).grown hg (Nat.le_refl _) (fun g hg => by cases hg)
  refine ⟨_, _, hr, hb, [r0, r2], rfl, Row.leads_owned hown, fun i c r hc hr => ?_⟩
  match i, hc, hr with
  | 0, hc, hr => cases hc; cases hr; rw [u8_flat]; exact Row.leads_below (Row.leads_owned h.2.2.1) hb
  | 1, hc, hr => cases hc; cases hr; rw [u8_flat]; exact Row.leads_below (Row.leads_owned h.2.2.2.2.1) hb
  | j + 2, hc, hr => simp at hc
theorem drop2 {w : World} {base G O6 : Nat} {t0 t1 t2 : ByteArray} {r0 r1 r2 : Value} {d0 d1 d2 : List Int} (h : Own3 w base G t0 t1 t2 r0 r1 r2 d0 d1 d2) :
    ∃ v w', (Builtin.append_ #[24, 24] 24 #[.slice (some ⟨G, 0, none⟩) 2 2, .slice (some ⟨G, O6, none⟩) 0 0]).run Try.prog w = .ok v w' ∧ Below w.heap.size w w' ∧ PParts w' v [⟨t0, d0⟩, ⟨t1, d1⟩] := by
  have hk := h.2.1
  obtain ⟨i8, hi8, hz1, hz2, hz3⟩ := info_parts infoP
  have hc := fun (j : Nat) (v : Value) (hv : #[.string t0, r0, .string t1, r1, .string t2, r2][j]? = some v) => cell_of_heap (i := j) (v := v) hk hv
  have hr := run_append_room_cells (P := Try.prog) w 24 24 27 i8 Try.underlying24 hi8 G 0 2 2 ⟨G, O6, none⟩ 0 0 [] (by simp) (fun j u hj => by simp at hj) (fun u hu => by cases hu) (by omega) (fun j hj => by simp at hj) (fun j hj => by simp at hj)
  have hb : Below w.heap.size w w := Below.refl _ _
  refine ⟨_, _, hr, hb, [r0, r1], rfl, leads_take4 hk, fun i c r hc hr => ?_⟩
  match i, hc, hr with
  | 0, hc, hr => cases hc; cases hr; rw [u8_flat]; exact Row.leads_below (Row.leads_owned h.2.2.1) hb
  | 1, hc, hr => cases hc; cases hr; rw [u8_flat]; exact Row.leads_below (Row.leads_owned h.2.2.2.1) hb
  | j + 2, hc, hr => simp at hc
theorem own3_below {w w' : World} {base G : Nat} {t0 t1 t2 : ByteArray} {r0 r1 r2 : Value} {d0 d1 d2 : List Int} (h : Own3 w base G t0 t1 t2 r0 r1 r2 d0 d1 d2) (hb : Below w.heap.size w w') : Own3 w' base G t0 t1 t2 r0 r1 r2 d0 d1 d2 := by
  obtain ⟨h1, h2, h3, h4, h5, h6⟩ := h
  exact ⟨h1, (hb.block _ (heap_lt h2)).trans h2, Row.owned_below h3 hb, Row.owned_below h4 hb, Row.owned_below h5 hb, h6⟩
def vSh (b : Nat) (P Q : List PartD) : Nat → Pl.VP
  | 8 => fun v u => PParts u v P
  | 9 => fun v u => Made Q v u
  | 10 => fun v _ => v = .tuple #[.agg #[.int .i64 0, .int .i64 0, .int .i64 0], .int .i64 2]
  | 11 => fun v _ => v = .tuple #[.agg #[.int .i64 0, .int .i64 0, .int .i64 0], .int .i64 2]
  | 12 => fun v _ => v = .agg #[.int .i64 0, .int .i64 0, .int .i64 0]
  | 13 => fun v _ => v = .int .i64 2
  | _ => fun v u => ∃ g, v = .pointer (some ⟨g, 0, none⟩) ∧ b ≤ g ∧ u.heap[g]? = some (.cells #[.int .i64 0, .int .i64 0, .int .i64 0] 29 (0, 0))
theorem own_six {w : World} {base G : Nat} {a b c d e f : Value} (hk : w.heap[G]? = some (.cells #[a, b, c, d, e, f] 27 (0, 0))) (hb : base ≤ G) : w.ownsRow base 27 2 (.slice (some ⟨G, 0, none⟩) 3 3) 3 [a, b, c, d, e, f] :=
  ⟨rfl, .inr ⟨G, 3, _, rfl, hb, hk, Nat.le_refl _, by unfold maxLen; omega, by simp, by simp⟩⟩
theorem kept_grown {w w' : World} {base G : Nat} {r : Value} {d : List Int} {cs : Array Value} (h : w.ownsRow base 5 1 r d.length (d.map (Value.int .u8))) (hk : w.heap[G]? = some (.cells cs 27 (0, 0))) (hg : w.grownBy w' (some G)) : w'.ownsRow base 5 1 r d.length (d.map (Value.int .u8)) :=
  Row.owned_keep h fun g hgb => hg.block g (Row.own_block h hgb).2 (fun e => own_ty h hk (by decide) (hgb.trans e))
theorem Made.below {P : List PartD} {v : Value} {u u' : World} (h : Made P v u) (hb : Below u.heap.size u u') : Made P v u' := by
  obtain ⟨g, cap, bs, h1, h2, h3, h4, h5⟩ := h
  exact ⟨g, cap, bs, h1, h2, h3, h4.below hb, h5⟩

set_option maxRecDepth 100000 in
set_option maxHeartbeats 16000000 in
theorem faceShort_0 (wh cut : Int) (am : Option Addr) (ml mc : Nat) (ms : List Int) (w : World) (hk : wh.tmod 3 = 0) (hw : 0 ≤ wh ∧ wh ≤ 255) (hc : 0 ≤ cut ∧ cut ≤ 255) (hM : Row.Leads w (.slice am ml mc) ml (ms.map (Value.int .u8))) (hml : ms.length = ml) (hmb : ∀ x ∈ ms, 0 ≤ x ∧ x ≤ 255) (hm : ml ≤ 1000) (n : Nat) (b : Bool) (hn : cut.tmod 7 = n) (hn7 : n ≤ 6) (hb : (n == 6) = b) :
    Calls Try.prog 3 #[.int .u8 wh, .int .u8 cut, .slice am ml mc] w fun e w' => e = .returned (.bool true) ∧ Below w.heap.size w w' := by
  obtain ⟨w0, w1⟩ := hw
  obtain ⟨c0, c1⟩ := hc
  have HP := Bas.hid (fun w' => plain_any 5 100 5 w' (by omega) (by omega) (by omega))
  have HM := Bas.hid hM
  have HML := Bas.hid hml
  have HMB := Bas.hid hmb
  have HF : Hid (faceL ((maxpL 5).take n) (headL 100) (hheaL 5) = if b then some (5, 100, 5) else none) := by
    unfold Hid
    cases b with
    | true =>
      obtain rfl : n = 6 := by simpa using hb
      rw [List.take_of_length_le (by rw [maxpL_len]; omega), if_pos rfl]
      exact face_5
    | false =>
      have hne : n ≠ 6 := by simpa using hb
      have hlt : n < 6 := by omega
      rw [face_cut0 n hlt]
      rfl
  have eb : ((n : Int) == 6) = b := by
    rw [← hb, Bool.eq_iff_iff]; simp; omega
  have m1 : decide ((ml : Int) > 1000) = false := by simp; omega
  have m2 : decide (1000 < (ml : Int)) = false := by simp; omega
  have m3 : decide (1000 < ml) = false := by simp; omega
  clear hM hml hmb hb
  go_enter Try.func3, Try.ntmps3
  go_wp2_with (fail)
  refine (fspeaks_any w).mono ?_
  rintro e w1 ⟨rfl, hb1⟩
  have HB1 := Bas.hid hb1
  clear hb1
  go_wp2_with (fail)
  refine (HP.out w1).mono ?_
  rintro e w2 ⟨G, r0, r1, r2, rfl, ho, hb2⟩
  have HB2 := Bas.hid (HB1.out.trans (hb2.mono HB1.out.size))
  have HO := Bas.hid ho
  obtain ⟨ba, cp, hv⟩ := row_slice ho.2.2.1
  have hcp : 6 ≤ cp ∧ cp ≤ maxLen := by have h := ho.2.2.1; rw [hv] at h; have h2 := capOf h; rw [maxpL_len] at h2; exact h2
  obtain ⟨hcp1, hcp2⟩ := hcp
  have hq := cell_of_heap (i := 1) (v := r0) ho.2.1 rfl
  have hfz := free_of_heap (i := 1) ho.2.1
  have HC := Bas.hid (cut0 ho hv (n := n) (by rw [maxpL_len]; exact hn7))
  rw [hv, maxpL_len] at hq
  have HGB := Bas.hid (Nat.le_trans HB1.out.size ho.1)
  clear hb2 ho hv HB1
  go_wp2_with (fail)
  have HB3 := Bas.hid (HB2.out.setCell (p := ⟨G, 1, none⟩) HGB.out (.slice ba n cp))
  generalize w2.setCell ⟨G, 1, none⟩ (.slice ba n cp) = w3 at *
  clear hq hfz HB2 HO HGB
  refine (make3 _ _ _ _ w3 HC.out (by simp [maxpL_len]; omega) (by rw [headL_len]; omega) (by rw [hheaL_len]; omega) (fun x hx => maxpL_byte _ x (List.mem_of_mem_take hx)) (headL_byte _) (hheaL_byte _)).mono ?_
  rintro e w4 ⟨g4, cap4, bs4, rfl, i41, i42, hv4, hF4, -, hb4⟩
  have HR := Bas.hid (fread_font (some ⟨g4, 0, none⟩) cap4 bs4 _ w4 i41 i42 hv4 hF4 2 0 1 _ _ _ rfl rfl rfl (fun h => by rw [be_take _ _ _ _ (by rw [List.length_take] at h; omega)]; exact maxp_kind 5) (fun _ => head_kind 100))
  have HB4 := Bas.hid (HB3.out.trans (hb4.mono HB3.out.size))
  clear hb4 hv4 hF4 i41 i42 HC HB3
  go_wp2_with (fail)
  refine HR.out.mono ?_
  rintro e w5 ⟨hb5, rfl⟩
  rw [HF.out]
  have HB5 := Bas.hid (HB4.out.trans (hb5.mono HB4.out.size))
  clear hb5 HR HB4
  obtain ⟨x1, hx1⟩ : ∃ x, (if b = true then some ((5 : Int), (100 : Int), (5 : Int)) else none) = x := ⟨_, rfl⟩
  rw [hx1]
  obtain ⟨y1, hy1⟩ : ∃ y, (x1.getD (0, 0, 0)).1 = y := ⟨_, rfl⟩
  obtain ⟨y2, hy2⟩ : ∃ y, (x1.getD (0, 0, 0)).2.1 = y := ⟨_, rfl⟩
  obtain ⟨y3, hy3⟩ : ∃ y, (x1.getD (0, 0, 0)).2.2 = y := ⟨_, rfl⟩
  have hy : (if x1.isSome = true then (0 : Int) else 2) = if b = true then 0 else 2 := by subst hx1; cases b <;> rfl
  have hyb : ((if b = true then (0 : Int) else 2) == 0) = b := by cases b <;> rfl
  rw [hy, hy1, hy2, hy3]
  obtain ⟨y4, hy4⟩ : ∃ y, (if b = true then (0 : Int) else 2) = y := ⟨_, rfl⟩
  rw [hy4] at hyb ⊢
  clear hx1 hy1 hy2 hy3 hy4 hy
  go_wp2_with (fail)
  have HB6 := Bas.hid (HB5.out.alloc HB5.out.size (.cells #[.int .i64 y1, .int .i64 y2, .int .i64 y3] 29))
  generalize w5.alloc (.cells #[.int .i64 y1, .int .i64 y2, .int .i64 y3] 29) = w6 at *
  clear HB5
  refine (HP.out w6).mono ?_
  rintro e w7 ⟨G2, s0, s1, s2, rfl, ho, hb7⟩
  have HB7 := Bas.hid (HB6.out.trans (hb7.mono HB6.out.size))
  have HD := Bas.hid (fun u (hu : Below w7.heap.size w7 u) => drop0 (own3_below ho hu))
  clear hb7 ho HB6
  go_wp2_with (fail)
  refine' Pl.region_vde 108 [] [0, 1, 2, 3, 4, 5, 6, 7] [13] [(8, 70), (9, 71), (10, 72), (11, 61), (12, 73), (13, 74), (14, 13)] [15, 16] (fun i => if i = 9 then [(8, 70)] else if i = 10 then [(9, 71)] else if i = 11 then [(10, 72)] else if i = 12 then [(11, 61)] else if i = 13 then [(11, 61)] else []) _ (vSh w7.heap.size [⟨sHead, headL 100⟩, ⟨sHhea, hheaL 5⟩] [⟨sHead, headL 100⟩, ⟨sHhea, hheaL 5⟩]) (by kernel_rfl) (by kernel_rfl) (by kernel_rfl) (by simp) (fun _ _ _ _ e h => ⟨e ▸ h.1, h.2⟩) ?_ ?_ ?_ ?_
  rotate_left
  · intro I F hI hF
    simp only [Pl.selN, List.nil_append, List.drop_succ_cons, List.drop_zero]
    repeat (go_big_quiet_step (fail))
    refine wpQuiet_nil ?_
    rfl
  · intro z hz v u u' h1 hb1 hb2
    simp only [List.mem_cons, List.not_mem_nil, or_false] at hz
    rcases hz with rfl | rfl | rfl | rfl | rfl | rfl | rfl
    · exact PParts.below h1 hb2
    · exact Made.below h1 hb2
    · exact h1
    · exact h1
    · exact h1
    · exact h1
    · obtain ⟨g, h2, h3, h4⟩ := h1
      exact ⟨g, h2, h3, (hb2.block _ (heap_lt h4)).trans h4⟩
  · intro z hz o ho f u hu hd
    simp only [List.mem_cons, List.not_mem_nil, or_false] at hz
    rcases hz with rfl | rfl | rfl | rfl | rfl | rfl | rfl
    · simp only [Pl.selN, List.drop_succ_cons, List.drop_zero, List.mem_singleton] at ho
      subst ho
      obtain ⟨v', w', hr, hbw, hpp⟩ := HD.out u hu
      simp only [execOp, resolve, invoke, builtin, Sem.run_bind, Sem.run_pure, Result.andThen_ok, List.map_toArray, List.map_cons, List.map_nil, Act.eval, List.getElem?_toArray, List.getElem?_cons_succ, List.getElem?_cons_zero, Array.getD_eq_getD_getElem?, Option.getD_some, List.foldl_nil, Nat.reduceEqDiff, if_false, hr]
      exact ⟨hbw, hpp⟩
    · simp only [Pl.selN, List.drop_succ_cons, List.drop_zero, List.mem_singleton] at ho
      subst ho
      have hp := hd (8, 70) (by simp)
      obtain ⟨s5, hs5⟩ : ∃ s5, f 8 = s5 := ⟨_, rfl⟩
      simp only at hp
      rw [hs5] at hp
      simp only [if_true, List.foldl_cons, List.foldl_nil, Act.put, List.setIfInBounds_toArray, List.set_cons_zero, List.set_cons_succ, hs5]
      go_simp
      simp only [Pl.valsAt]
      refine (make2 s5 _ _ ⟨sHead, headL 100⟩ ⟨sHhea, hheaL 5⟩ [0, 1] u hp ord_1 rfl rfl (by rw [headL_len]; omega) (by rw [hheaL_len]; omega) (headL_byte _) (hheaL_byte _) lt_1).mono ?_
      rintro e w'' ⟨v, rfl, hb, hmd⟩
      exact .inl ⟨_, rfl, hb, hmd⟩
    · simp only [Pl.selN, List.drop_succ_cons, List.drop_zero, List.mem_singleton] at ho
      subst ho
      have hp := hd (9, 71) (by simp)
      obtain ⟨s5, hs5⟩ : ∃ s5, f 9 = s5 := ⟨_, rfl⟩
      simp only at hp
      rw [hs5] at hp
      simp only [Nat.reduceEqDiff, if_false, if_true, List.foldl_cons, List.foldl_nil, Act.put, List.setIfInBounds_toArray, List.set_cons_zero, List.set_cons_succ, hs5]
      go_simp
      simp only [Pl.valsAt]
      refine (read_lacks s5 _ u hp (.inl rfl)).mono ?_
      rintro e w'' ⟨rfl, hb⟩
      exact .inl ⟨_, rfl, hb, rfl⟩
    · simp only [Pl.selN, List.drop_succ_cons, List.drop_zero, List.mem_singleton] at ho
      subst ho
      have hp : f 10 = _ := hd (10, 72) (by simp)
      simp only [Nat.reduceEqDiff, if_false, if_true, List.foldl_cons, List.foldl_nil, Act.put, List.setIfInBounds_toArray, List.set_cons_zero, List.set_cons_succ, hp]
      go_simp
      exact ⟨Below.refl _ _, rfl⟩
    · simp only [Pl.selN, List.drop_succ_cons, List.drop_zero, List.mem_singleton] at ho
      subst ho
      have hp : f 11 = _ := hd (11, 61) (by simp)
      simp only [Nat.reduceEqDiff, if_false, if_true, List.foldl_cons, List.foldl_nil, Act.put, List.setIfInBounds_toArray, List.set_cons_zero, List.set_cons_succ, hp]
      go_simp
      exact ⟨Below.refl _ _, rfl⟩
    · simp only [Pl.selN, List.drop_succ_cons, List.drop_zero, List.mem_singleton] at ho
      subst ho
      have hp : f 11 = _ := hd (11, 61) (by simp)
      simp only [Nat.reduceEqDiff, if_false, if_true, List.foldl_cons, List.foldl_nil, Act.put, List.setIfInBounds_toArray, List.set_cons_zero, List.set_cons_succ, hp]
      go_simp
      exact ⟨Below.refl _ _, rfl⟩
    · simp only [Pl.selN, List.drop_succ_cons, List.drop_zero, List.mem_singleton] at ho
      subst ho
      go_simp
      simp only [Pl.valsAt]
      exact ⟨(Below.refl u.heap.size u).alloc (Nat.le_refl _) _, _, rfl, hu.size, Bas.heap_new u _⟩
  · intro f u hu hV
    have h12 : f 12 = _ := hV (12, 73) (by simp)
    have h13 : f 13 = _ := hV (13, 74) (by simp)
    obtain ⟨g8, h14, hg8, kg8⟩ := hV (14, 13) (by simp)
    simp only at h14
    obtain ⟨z8, hz8⟩ : ∃ z, f 8 = z := ⟨_, rfl⟩
    obtain ⟨z9, hz9⟩ : ∃ z, f 9 = z := ⟨_, rfl⟩
    obtain ⟨z10, hz10⟩ : ∃ z, f 10 = z := ⟨_, rfl⟩
    obtain ⟨z11, hz11⟩ : ∃ z, f 11 = z := ⟨_, rfl⟩
    simp only [Pl.selN, List.drop_succ_cons, List.drop_zero, List.foldl_cons, List.foldl_nil, Act.put, List.setIfInBounds_toArray, List.set_cons_zero, List.set_cons_succ, h12, h13, h14, hz8, hz9, hz10, hz11]
    have HB8 := Bas.hid (HB7.out.trans (hu.mono HB7.out.size))
    have HG8 := Bas.hid (Nat.le_trans HB7.out.size hg8)
    have c80 := cell_of_heap (i := 0) (v := .int .i64 0) kg8 rfl
    have c81 := cell_of_heap (i := 1) (v := .int .i64 0) kg8 rfl
    have c82 := cell_of_heap (i := 2) (v := .int .i64 0) kg8 rfl
    have f80 := free_of_heap (i := 0) kg8
    have f81 := free_of_heap (i := 1) kg8
    have f82 := free_of_heap (i := 2) kg8
    clear hu hV h12 h13 h14 hz8 hz9 hz10 hz11 HD HB7 hg8
    go_wp2_with (fail)
    have HB9 := Bas.hid (((HB8.out.setCell (p := ⟨g8, 0, none⟩) HG8.out (.int .i64 0)).setCell (p := ⟨g8, 1, none⟩) HG8.out (.int .i64 0)).setCell (p := ⟨g8, 2, none⟩) HG8.out (.int .i64 0))
    generalize ((u.setCell ⟨g8, 0, none⟩ (.int .i64 0)).setCell ⟨g8, 1, none⟩ (.int .i64 0)).setCell ⟨g8, 2, none⟩ (.int .i64 0) = w9 at *
    clear c80 c81 c82 f80 f81 f82 kg8 HB8
    refine (HP.out w9).mono ?_
    rintro e w10 ⟨G3, q0, q1, q2, rfl, ho, hb10⟩
    have HB10 := Bas.hid (HB9.out.trans (hb10.mono HB9.out.size))
    have HO := Bas.hid ho
    have HGB := Bas.hid (Nat.le_trans HB9.out.size ho.1)
    obtain ⟨bb, cq, hv⟩ := row_slice ho.2.2.1
    rw [maxpL_len] at hv
    subst hv
    have hq := cell_of_heap (i := 1) (v := .slice bb 6 cq) ho.2.1 rfl
    have hne : Value.ownBlock (.slice bb 6 cq) ≠ some G3 := own_ty ho.2.2.1 ho.2.1 (by decide)
    have HNE := Bas.hid hne
    have HG9 := Bas.hid hb10.size
    have HB9S := Bas.hid HB9.out.size
    clear hb10 ho HB9 hne
    go_wp2_with (at_builtin; refine Row.fence ?_)
    refine Row.unfence ?_
    refine (Row.append_at rfl _ _ 22 5 rfl (.int .u8 0) 1 1 Try.underlying22 info8 rfl (by decide) w9.heap.size (.slice bb 6 cq) 6 _ rfl (maxpL_len _ ▸ HO.out.2.2.1) (.slice am ml mc) ml _ rfl (Row.leads_below HM.out HB10.out) (by simp [HML.out]) (by simp; intros; rfl) (by unfold maxLen; omega) (by omega) HG9.out ?_)
    intro v11 w11 h111 h112 _ h113
    have g11 : Grown w10 w9.heap.size (.slice bb 6 cq) (maxpL 5 ++ ms) v11 w11 := ⟨by rw [List.map_append, List.length_append, maxpL_len, HML.out]; exact h111, h112, h113.imp id fun h => ⟨_, h, Nat.le_refl _⟩⟩
    obtain ⟨hbG, hkG, hr0, hr1, hr2, ha01, ha02, ha12⟩ := HO.out
    have kG11 := (h112.block G3 (heap_lt hkG) (fun e => HNE.out e.symm)).trans hkG
    have HN0 := Bas.hid g11.own
    have HN1 := Bas.hid (keep_row hr1 g11 (fun b hb e => ha01 b e hb))
    have HN2 := Bas.hid (keep_row hr2 g11 (fun b hb e => ha02 b e hb))
    have HB11 := Bas.hid (g11.below HB10.out HB10.out.size (fun g h => Nat.le_trans HB9S.out (Row.own_block hr0 h).1))
    obtain ⟨a11, c11, hv11⟩ := own_slice g11.own
    have HL11 : Hid ((maxpL 5 ++ ms).length = 6 + ml) := by unfold Hid; rw [List.length_append, maxpL_len, HML.out]
    rw [HL11.out] at hv11
    subst hv11
    have c11k := cell_of_heap (i := 1) (v := .slice bb 6 cq) kG11 rfl
    have f11k := free_of_heap (i := 1) kG11
    have HM0 := Bas.hid (kept_row (i := 1) (v := .slice a11 (6 + ml) c11) kG11 HN0.out)
    have HM1 := Bas.hid (kept_row (i := 1) (v := .slice a11 (6 + ml) c11) kG11 HN1.out)
    have HM2 := Bas.hid (kept_row (i := 1) (v := .slice a11 (6 + ml) c11) kG11 HN2.out)
    have kG12 : (w11.setCell ⟨G3, 1, none⟩ (.slice a11 (6 + ml) c11)).heap[G3]? = some (.cells #[.string sMaxp, .slice a11 (6 + ml) c11, .string sHead, q1, .string sHhea, q2] 27 (0, 0)) := heap_set kG11 _
    have HB12 := Bas.hid (HB11.out.setCell (p := ⟨G3, 1, none⟩) HGB.out (.slice a11 (6 + ml) c11))
    clear h111 h112 h113 g11 hbG hkG hr0 hr1 hr2 ha01 ha02 ha12 HN0 HN1 HN2 HNE hq HO HB10
    go_wp2_with (at_builtin; refine Row.fence ?_)
    refine Row.unfence ?_
    have hs12 : (w11.setCell ⟨G3, 1, none⟩ (.slice a11 (6 + ml) c11)).heap.size = w11.heap.size := by simp
    generalize w11.setCell ⟨G3, 1, none⟩ (.slice a11 (6 + ml) c11) = w12 at *
    have hb13 := (Below.refl w12.heap.size w12).alloc (Nat.le_refl _) (.cells #[.string ⟨#[109, 111, 114, 101]⟩, .slice am ml mc] 27)
    have k13 := Bas.heap_new w12 (.cells #[.string ⟨#[109, 111, 114, 101]⟩, .slice am ml mc] 27)
    have kG13 := (hb13.block G3 (heap_lt kG12)).trans kG12
    have HB13 := Bas.hid (Bas.on HB12.out hb13)
    have HQ0 := Bas.hid (Row.owned_below HM0.out hb13)
    have HQ1 := Bas.hid (Row.owned_below HM1.out hb13)
    have HQ2 := Bas.hid (Row.owned_below HM2.out hb13)
    generalize w12.alloc (.cells #[.string ⟨#[109, 111, 114, 101]⟩, .slice am ml mc] 27) = w13 at *
    rw [hs12] at k13
    generalize w11.heap.size = T12 at *
    refine (Row.append_at rfl _ _ 24 27 rfl (.agg #[.string ⟨#[]⟩, .slice none 0 0]) 2 40 Try.underlying24 infoP rfl (by decide) w.heap.size (.slice (some ⟨G3, 0, none⟩) 3 3) 3 _ rfl (own_six kG13 HGB.out) (.slice (some ⟨T12, 0, none⟩) 1 1) 1 [.string ⟨#[109, 111, 114, 101]⟩, .slice am ml mc] rfl (leads_heap k13) rfl (by simp; exact ⟨rfl, rfl⟩) (by unfold maxLen; omega) (by omega) HB13.out.size ?_)
    intro v14 w14 h141 h142 _ h143
    have HB14 := Bas.hid (HB13.out.grown h142 HB13.out.size (fun g hg => by cases hg; exact HGB.out))
    have hPP : PParts w14 v14 [⟨sMaxp, maxpL 5 ++ ms⟩, ⟨sHead, headL 100⟩, ⟨sHhea, hheaL 5⟩, ⟨sMore, ms⟩] := by
      refine ⟨[.slice a11 (6 + ml) c11, q1, q2, .slice am ml mc], rfl, Row.leads_owned h141, fun i c r hc hr => ?_⟩
      match i, hc, hr with
      | 0, hc, hr => cases hc; cases hr; rw [u8_flat]; exact Row.leads_owned (kept_grown HQ0.out kG13 h142)
      | 1, hc, hr => cases hc; cases hr; rw [u8_flat]; exact Row.leads_owned (kept_grown HQ1.out kG13 h142)
      | 2, hc, hr => cases hc; cases hr; rw [u8_flat]; exact Row.leads_owned (kept_grown HQ2.out kG13 h142)
      | 3, hc, hr => cases hc; cases hr; rw [u8_flat, HML.out]; exact Row.leads_below HM.out HB14.out
      | j + 4, hc, hr => simp at hc
    have HPP := Bas.hid hPP
    clear h141 h142 h143 hPP HQ0 HQ1 HQ2 HM0 HM1 HM2 HB13 HB12 HB11 kG13 kG12 kG11 k13 hb13 c11k f11k
    go_wp2_with (fail)
    refine (make4 v14 _ _ _ _ w14 HPP.out (by rw [List.length_append, maxpL_len, HML.out]; omega) (by rw [headL_len]; omega) (by rw [hheaL_len]; omega) (by rw [HML.out]; omega) (fun x hx => (List.mem_append.1 hx).elim (maxpL_byte _ x) (HMB.out x)) (headL_byte _) (hheaL_byte _) HMB.out).mono ?_
    rintro e w15 ⟨v15, rfl, hb15, c15, cap15, bs15, rfl, i1, i2, hvb, hF⟩
    have HR2 := Bas.hid (fread_font (some ⟨c15, 0, none⟩) cap15 bs15 _ w15 i1 i2 hvb hF 2 0 1 _ _ _ rfl rfl rfl (fun _ => by rw [be_app _ _ _ _ (by rw [maxpL_len]; omega)]; exact maxp_kind 5) (fun _ => head_kind 100))
    have HB15 := Bas.hid (HB14.out.trans (hb15.mono HB14.out.size))
    have HFM : Hid (faceL (maxpL 5 ++ ms) (headL 100) (hheaL 5) = some (5, 100, 5)) := by unfold Hid; have h := face_more ms [] []; simp only [List.append_nil] at h; exact h
    clear hb15 hvb hF HPP HB14
    go_wp2_with (fail)
    refine HR2.out.mono ?_
    rintro e w16 ⟨hb16, rfl⟩
    rw [HFM.out]
    simp only [Option.getD_some, Option.isSome_some, if_true]
    have HB16 := Bas.hid (HB15.out.trans (hb16.mono HB15.out.size))
    have HB17 := Bas.hid (HB16.out.alloc HB16.out.size (.cells #[.int .i64 5, .int .i64 100, .int .i64 5] 29))
    clear hb16 HR2 HB15
    go_wp2_with (fail)
    go_ret
    exact ⟨rfl, HB17.out⟩

set_option maxRecDepth 100000 in
set_option maxHeartbeats 16000000 in
theorem faceShort_1 (wh cut : Int) (am : Option Addr) (ml mc : Nat) (ms : List Int) (w : World) (hk : wh.tmod 3 = 1) (hw : 0 ≤ wh ∧ wh ≤ 255) (hc : 0 ≤ cut ∧ cut ≤ 255) (hM : Row.Leads w (.slice am ml mc) ml (ms.map (Value.int .u8))) (hml : ms.length = ml) (hmb : ∀ x ∈ ms, 0 ≤ x ∧ x ≤ 255) (hm : ml ≤ 1000) (n : Nat) (b : Bool) (hn : cut.tmod 55 = n) (hn7 : n ≤ 54) (hb : (n == 54) = b) :
    Calls Try.prog 3 #[.int .u8 wh, .int .u8 cut, .slice am ml mc] w fun e w' => e = .returned (.bool true) ∧ Below w.heap.size w w' := by
  obtain ⟨w0, w1⟩ := hw
  obtain ⟨c0, c1⟩ := hc
  have HP := Bas.hid (fun w' => plain_any 5 100 5 w' (by omega) (by omega) (by omega))
  have HM := Bas.hid hM
  have HML := Bas.hid hml
  have HMB := Bas.hid hmb
  have HF : Hid (faceL (maxpL 5) ((headL 100).take n) (hheaL 5) = if b then some (5, 100, 5) else none) := by
    unfold Hid
    cases b with
    | true =>
      obtain rfl : n = 54 := by simpa using hb
      rw [List.take_of_length_le (by rw [headL_len]; omega), if_pos rfl]
      exact face_5
    | false =>
      have hne : n ≠ 54 := by simpa using hb
      have hlt : n < 54 := by omega
      rw [face_cut1 n hlt]
      rfl
  have eb : ((n : Int) == 54) = b := by
    rw [← hb, Bool.eq_iff_iff]; simp; omega
  have m1 : decide ((ml : Int) > 1000) = false := by simp; omega
  have m2 : decide (1000 < (ml : Int)) = false := by simp; omega
  have m3 : decide (1000 < ml) = false := by simp; omega
  clear hM hml hmb hb
  go_enter Try.func3, Try.ntmps3
  go_wp2_with (fail)
  refine (fspeaks_any w).mono ?_
  rintro e w1 ⟨rfl, hb1⟩
  have HB1 := Bas.hid hb1
  clear hb1
  go_wp2_with (fail)
  refine (HP.out w1).mono ?_
  rintro e w2 ⟨G, r0, r1, r2, rfl, ho, hb2⟩
  have HB2 := Bas.hid (HB1.out.trans (hb2.mono HB1.out.size))
  have HO := Bas.hid ho
  obtain ⟨ba, cp, hv⟩ := row_slice ho.2.2.2.1
  have hcp : 54 ≤ cp ∧ cp ≤ maxLen := by have h := ho.2.2.2.1; rw [hv] at h; have h2 := capOf h; rw [headL_len] at h2; exact h2
  obtain ⟨hcp1, hcp2⟩ := hcp
  have hq := cell_of_heap (i := 3) (v := r1) ho.2.1 rfl
  have hfz := free_of_heap (i := 3) ho.2.1
  have HC := Bas.hid (cut1 ho hv (n := n) (by rw [headL_len]; exact hn7))
  rw [hv, headL_len] at hq
  have HGB := Bas.hid (Nat.le_trans HB1.out.size ho.1)
  clear hb2 ho hv HB1
  go_wp2_with (fail)
  have HB3 := Bas.hid (HB2.out.setCell (p := ⟨G, 3, none⟩) HGB.out (.slice ba n cp))
  generalize w2.setCell ⟨G, 3, none⟩ (.slice ba n cp) = w3 at *
  clear hq hfz HB2 HO HGB
  refine (make3 _ _ _ _ w3 HC.out (by rw [maxpL_len]; omega) (by simp [headL_len]; omega) (by rw [hheaL_len]; omega) (maxpL_byte _) (fun x hx => headL_byte _ x (List.mem_of_mem_take hx)) (hheaL_byte _)).mono ?_
  rintro e w4 ⟨g4, cap4, bs4, rfl, i41, i42, hv4, hF4, -, hb4⟩
  have HR := Bas.hid (fread_font (some ⟨g4, 0, none⟩) cap4 bs4 _ w4 i41 i42 hv4 hF4 2 0 1 _ _ _ rfl rfl rfl (fun _ => maxp_kind 5) (fun h => by rw [be_take _ _ _ _ (by rw [List.length_take] at h; omega)]; exact head_kind 100))
  have HB4 := Bas.hid (HB3.out.trans (hb4.mono HB3.out.size))
  clear hb4 hv4 hF4 i41 i42 HC HB3
  go_wp2_with (fail)
  refine HR.out.mono ?_
  rintro e w5 ⟨hb5, rfl⟩
  rw [HF.out]
  have HB5 := Bas.hid (HB4.out.trans (hb5.mono HB4.out.size))
  clear hb5 HR HB4
  obtain ⟨x1, hx1⟩ : ∃ x, (if b = true then some ((5 : Int), (100 : Int), (5 : Int)) else none) = x := ⟨_, rfl⟩
  rw [hx1]
  obtain ⟨y1, hy1⟩ : ∃ y, (x1.getD (0, 0, 0)).1 = y := ⟨_, rfl⟩
  obtain ⟨y2, hy2⟩ : ∃ y, (x1.getD (0, 0, 0)).2.1 = y := ⟨_, rfl⟩
  obtain ⟨y3, hy3⟩ : ∃ y, (x1.getD (0, 0, 0)).2.2 = y := ⟨_, rfl⟩
  have hy : (if x1.isSome = true then (0 : Int) else 2) = if b = true then 0 else 2 := by subst hx1; cases b <;> rfl
  have hyb : ((if b = true then (0 : Int) else 2) == 0) = b := by cases b <;> rfl
  rw [hy, hy1, hy2, hy3]
  obtain ⟨y4, hy4⟩ : ∃ y, (if b = true then (0 : Int) else 2) = y := ⟨_, rfl⟩
  rw [hy4] at hyb ⊢
  clear hx1 hy1 hy2 hy3 hy4 hy
  go_wp2_with (fail)
  have HB6 := Bas.hid (HB5.out.alloc HB5.out.size (.cells #[.int .i64 y1, .int .i64 y2, .int .i64 y3] 29))
  generalize w5.alloc (.cells #[.int .i64 y1, .int .i64 y2, .int .i64 y3] 29) = w6 at *
  clear HB5
  refine (HP.out w6).mono ?_
  rintro e w7 ⟨G2, s0, s1, s2, rfl, ho, hb7⟩
  have HB7 := Bas.hid (HB6.out.trans (hb7.mono HB6.out.size))
  have HD := Bas.hid (fun u (hu : Below w7.heap.size w7 u) => drop1 (own3_below ho hu))
  clear hb7 ho HB6
  go_wp2_with (fail)
  refine' Pl.region_vde 108 [] [0, 1, 2, 3, 4, 5, 6, 7] [13] [(8, 70), (9, 71), (10, 72), (11, 61), (12, 73), (13, 74), (14, 13)] [15, 16] (fun i => if i = 9 then [(8, 70)] else if i = 10 then [(9, 71)] else if i = 11 then [(10, 72)] else if i = 12 then [(11, 61)] else if i = 13 then [(11, 61)] else []) _ (vSh w7.heap.size [⟨sMaxp, maxpL 5⟩, ⟨sHhea, hheaL 5⟩] [⟨sHhea, hheaL 5⟩, ⟨sMaxp, maxpL 5⟩]) (by kernel_rfl) (by kernel_rfl) (by kernel_rfl) (by simp) (fun _ _ _ _ e h => ⟨e ▸ h.1, h.2⟩) ?_ ?_ ?_ ?_
  rotate_left
  · intro I F hI hF
    simp only [Pl.selN, List.nil_append, List.drop_succ_cons, List.drop_zero]
    repeat (go_big_quiet_step (fail))
    refine wpQuiet_nil ?_
    rfl
  · intro z hz v u u' h1 hb1 hb2
    simp only [List.mem_cons, List.not_mem_nil, or_false] at hz
    rcases hz with rfl | rfl | rfl | rfl | rfl | rfl | rfl
    · exact PParts.below h1 hb2
    · exact Made.below h1 hb2
    · exact h1
    · exact h1
    · exact h1
    · exact h1
    · obtain ⟨g, h2, h3, h4⟩ := h1
      exact ⟨g, h2, h3, (hb2.block _ (heap_lt h4)).trans h4⟩
  · intro z hz o ho f u hu hd
    simp only [List.mem_cons, List.not_mem_nil, or_false] at hz
    rcases hz with rfl | rfl | rfl | rfl | rfl | rfl | rfl
    · simp only [Pl.selN, List.drop_succ_cons, List.drop_zero, List.mem_singleton] at ho
      subst ho
      obtain ⟨v', w', hr, hbw, hpp⟩ := HD.out u hu
      simp only [execOp, resolve, invoke, builtin, Sem.run_bind, Sem.run_pure, Result.andThen_ok, List.map_toArray, List.map_cons, List.map_nil, Act.eval, List.getElem?_toArray, List.getElem?_cons_succ, List.getElem?_cons_zero, Array.getD_eq_getD_getElem?, Option.getD_some, List.foldl_nil, Nat.reduceEqDiff, if_false, hr]
      exact ⟨hbw, hpp⟩
    · simp only [Pl.selN, List.drop_succ_cons, List.drop_zero, List.mem_singleton] at ho
      subst ho
      have hp := hd (8, 70) (by simp)
      obtain ⟨s5, hs5⟩ : ∃ s5, f 8 = s5 := ⟨_, rfl⟩
      simp only at hp
      rw [hs5] at hp
      simp only [if_true, List.foldl_cons, List.foldl_nil, Act.put, List.setIfInBounds_toArray, List.set_cons_zero, List.set_cons_succ, hs5]
      go_simp
      simp only [Pl.valsAt]
      refine (make2 s5 _ _ ⟨sHhea, hheaL 5⟩ ⟨sMaxp, maxpL 5⟩ [1, 0] u hp ord_2 rfl rfl (by rw [hheaL_len]; omega) (by rw [maxpL_len]; omega) (maxpL_byte _) (hheaL_byte _) lt_2).mono ?_
      rintro e w'' ⟨v, rfl, hb, hmd⟩
      exact .inl ⟨_, rfl, hb, hmd⟩
    · simp only [Pl.selN, List.drop_succ_cons, List.drop_zero, List.mem_singleton] at ho
      subst ho
      have hp := hd (9, 71) (by simp)
      obtain ⟨s5, hs5⟩ : ∃ s5, f 9 = s5 := ⟨_, rfl⟩
      simp only at hp
      rw [hs5] at hp
      simp only [Nat.reduceEqDiff, if_false, if_true, List.foldl_cons, List.foldl_nil, Act.put, List.setIfInBounds_toArray, List.set_cons_zero, List.set_cons_succ, hs5]
      go_simp
      simp only [Pl.valsAt]
      refine (read_lacks s5 _ u hp (.inr (.inl rfl))).mono ?_
      rintro e w'' ⟨rfl, hb⟩
      exact .inl ⟨_, rfl, hb, rfl⟩
    · simp only [Pl.selN, List.drop_succ_cons, List.drop_zero, List.mem_singleton] at ho
      subst ho
      have hp : f 10 = _ := hd (10, 72) (by simp)
      simp only [Nat.reduceEqDiff, if_false, if_true, List.foldl_cons, List.foldl_nil, Act.put, List.setIfInBounds_toArray, List.set_cons_zero, List.set_cons_succ, hp]
      go_simp
      exact ⟨Below.refl _ _, rfl⟩
    · simp only [Pl.selN, List.drop_succ_cons, List.drop_zero, List.mem_singleton] at ho
      subst ho
      have hp : f 11 = _ := hd (11, 61) (by simp)
      simp only [Nat.reduceEqDiff, if_false, if_true, List.foldl_cons, List.foldl_nil, Act.put, List.setIfInBounds_toArray, List.set_cons_zero, List.set_cons_succ, hp]
      go_simp
      exact ⟨Below.refl _ _, rfl⟩
    · simp only [Pl.selN, List.drop_succ_cons, List.drop_zero, List.mem_singleton] at ho
      subst ho
      have hp : f 11 = _ := hd (11, 61) (by simp)
      simp only [Nat.reduceEqDiff, if_false, if_true, List.foldl_cons, List.foldl_nil, Act.put, List.setIfInBounds_toArray, List.set_cons_zero, List.set_cons_succ, hp]
      go_simp
      exact ⟨Below.refl _ _, rfl⟩
    · simp only [Pl.selN, List.drop_succ_cons, List.drop_zero, List.mem_singleton] at ho
      subst ho
      go_simp
      simp only [Pl.valsAt]
      exact ⟨(Below.refl u.heap.size u).alloc (Nat.le_refl _) _, _, rfl, hu.size, Bas.heap_new u _⟩
  · intro f u hu hV
    have h12 : f 12 = _ := hV (12, 73) (by simp)
    have h13 : f 13 = _ := hV (13, 74) (by simp)
    obtain ⟨g8, h14, hg8, kg8⟩ := hV (14, 13) (by simp)
    simp only at h14
    obtain ⟨z8, hz8⟩ : ∃ z, f 8 = z := ⟨_, rfl⟩
    obtain ⟨z9, hz9⟩ : ∃ z, f 9 = z := ⟨_, rfl⟩
    obtain ⟨z10, hz10⟩ : ∃ z, f 10 = z := ⟨_, rfl⟩
    obtain ⟨z11, hz11⟩ : ∃ z, f 11 = z := ⟨_, rfl⟩
    simp only [Pl.selN, List.drop_succ_cons, List.drop_zero, List.foldl_cons, List.foldl_nil, Act.put, List.setIfInBounds_toArray, List.set_cons_zero, List.set_cons_succ, h12, h13, h14, hz8, hz9, hz10, hz11]
    have HB8 := Bas.hid (HB7.out.trans (hu.mono HB7.out.size))
    have HG8 := Bas.hid (Nat.le_trans HB7.out.size hg8)
    have c80 := cell_of_heap (i := 0) (v := .int .i64 0) kg8 rfl
    have c81 := cell_of_heap (i := 1) (v := .int .i64 0) kg8 rfl
    have c82 := cell_of_heap (i := 2) (v := .int .i64 0) kg8 rfl
    have f80 := free_of_heap (i := 0) kg8
    have f81 := free_of_heap (i := 1) kg8
    have f82 := free_of_heap (i := 2) kg8
    clear hu hV h12 h13 h14 hz8 hz9 hz10 hz11 HD HB7 hg8
    go_wp2_with (fail)
    have HB9 := Bas.hid (((HB8.out.setCell (p := ⟨g8, 0, none⟩) HG8.out (.int .i64 0)).setCell (p := ⟨g8, 1, none⟩) HG8.out (.int .i64 0)).setCell (p := ⟨g8, 2, none⟩) HG8.out (.int .i64 0))
    generalize ((u.setCell ⟨g8, 0, none⟩ (.int .i64 0)).setCell ⟨g8, 1, none⟩ (.int .i64 0)).setCell ⟨g8, 2, none⟩ (.int .i64 0) = w9 at *
    clear c80 c81 c82 f80 f81 f82 kg8 HB8
    refine (HP.out w9).mono ?_
    rintro e w10 ⟨G3, q0, q1, q2, rfl, ho, hb10⟩
    have HB10 := Bas.hid (HB9.out.trans (hb10.mono HB9.out.size))
    have HO := Bas.hid ho
    have HGB := Bas.hid (Nat.le_trans HB9.out.size ho.1)
    obtain ⟨bb, cq, hv⟩ := row_slice ho.2.2.2.1
    rw [headL_len] at hv
    subst hv
    have hq := cell_of_heap (i := 3) (v := .slice bb 54 cq) ho.2.1 rfl
    have hne : Value.ownBlock (.slice bb 54 cq) ≠ some G3 := own_ty ho.2.2.2.1 ho.2.1 (by decide)
    have HNE := Bas.hid hne
    have HG9 := Bas.hid hb10.size
    have HB9S := Bas.hid HB9.out.size
    clear hb10 ho HB9 hne
    go_wp2_with (at_builtin; refine Row.fence ?_)
    refine Row.unfence ?_
    refine (Row.append_at rfl _ _ 22 5 rfl (.int .u8 0) 1 1 Try.underlying22 info8 rfl (by decide) w9.heap.size (.slice bb 54 cq) 54 _ rfl (headL_len _ ▸ HO.out.2.2.2.1) (.slice am ml mc) ml _ rfl (Row.leads_below HM.out HB10.out) (by simp [HML.out]) (by simp; intros; rfl) (by unfold maxLen; omega) (by omega) HG9.out ?_)
    intro v11 w11 h111 h112 _ h113
    have g11 : Grown w10 w9.heap.size (.slice bb 54 cq) (headL 100 ++ ms) v11 w11 := ⟨by rw [List.map_append, List.length_append, headL_len, HML.out]; exact h111, h112, h113.imp id fun h => ⟨_, h, Nat.le_refl _⟩⟩
    obtain ⟨hbG, hkG, hr0, hr1, hr2, ha01, ha02, ha12⟩ := HO.out
    have kG11 := (h112.block G3 (heap_lt hkG) (fun e => HNE.out e.symm)).trans hkG
    have HN0 := Bas.hid (keep_row hr0 g11 (fun b hb e => ha01 b hb e))
    have HN1 := Bas.hid g11.own
    have HN2 := Bas.hid (keep_row hr2 g11 (fun b hb e => ha12 b e hb))
    have HB11 := Bas.hid (g11.below HB10.out HB10.out.size (fun g h => Nat.le_trans HB9S.out (Row.own_block hr1 h).1))
    obtain ⟨a11, c11, hv11⟩ := own_slice g11.own
    have HL11 : Hid ((headL 100 ++ ms).length = 54 + ml) := by unfold Hid; rw [List.length_append, headL_len, HML.out]
    rw [HL11.out] at hv11
    subst hv11
    have c11k := cell_of_heap (i := 3) (v := .slice bb 54 cq) kG11 rfl
    have f11k := free_of_heap (i := 3) kG11
    have HM0 := Bas.hid (kept_row (i := 3) (v := .slice a11 (54 + ml) c11) kG11 HN0.out)
    have HM1 := Bas.hid (kept_row (i := 3) (v := .slice a11 (54 + ml) c11) kG11 HN1.out)
    have HM2 := Bas.hid (kept_row (i := 3) (v := .slice a11 (54 + ml) c11) kG11 HN2.out)
    have kG12 : (w11.setCell ⟨G3, 3, none⟩ (.slice a11 (54 + ml) c11)).heap[G3]? = some (.cells #[.string sMaxp, q0, .string sHead, .slice a11 (54 + ml) c11, .string sHhea, q2] 27 (0, 0)) := heap_set kG11 _
    have HB12 := Bas.hid (HB11.out.setCell (p := ⟨G3, 3, none⟩) HGB.out (.slice a11 (54 + ml) c11))
    clear h111 h112 h113 g11 hbG hkG hr0 hr1 hr2 ha01 ha02 ha12 HN0 HN1 HN2 HNE hq HO HB10
    go_wp2_with (at_builtin; refine Row.fence ?_)
    refine Row.unfence ?_
    have hs12 : (w11.setCell ⟨G3, 3, none⟩ (.slice a11 (54 + ml) c11)).heap.size = w11.heap.size := by simp
    generalize w11.setCell ⟨G3, 3, none⟩ (.slice a11 (54 + ml) c11) = w12 at *
    have hb13 := (Below.refl w12.heap.size w12).alloc (Nat.le_refl _) (.cells #[.string ⟨#[109, 111, 114, 101]⟩, .slice am ml mc] 27)
    have k13 := Bas.heap_new w12 (.cells #[.string ⟨#[109, 111, 114, 101]⟩, .slice am ml mc] 27)
    have kG13 := (hb13.block G3 (heap_lt kG12)).trans kG12
    have HB13 := Bas.hid (Bas.on HB12.out hb13)
    have HQ0 := Bas.hid (Row.owned_below HM0.out hb13)
    have HQ1 := Bas.hid (Row.owned_below HM1.out hb13)
    have HQ2 := Bas.hid (Row.owned_below HM2.out hb13)
    generalize w12.alloc (.cells #[.string ⟨#[109, 111, 114, 101]⟩, .slice am ml mc] 27) = w13 at *
    rw [hs12] at k13
    generalize w11.heap.size = T12 at *
    refine (Row.append_at rfl _ _ 24 27 rfl (.agg #[.string ⟨#[]⟩, .slice none 0 0]) 2 40 Try.underlying24 infoP rfl (by decide) w.heap.size (.slice (some ⟨G3, 0, none⟩) 3 3) 3 _ rfl (own_six kG13 HGB.out) (.slice (some ⟨T12, 0, none⟩) 1 1) 1 [.string ⟨#[109, 111, 114, 101]⟩, .slice am ml mc] rfl (leads_heap k13) rfl (by simp; exact ⟨rfl, rfl⟩) (by unfold maxLen; omega) (by omega) HB13.out.size ?_)
    intro v14 w14 h141 h142 _ h143
    have HB14 := Bas.hid (HB13.out.grown h142 HB13.out.size (fun g hg => by cases hg; exact HGB.out))
    have hPP : PParts w14 v14 [⟨sMaxp, maxpL 5⟩, ⟨sHead, headL 100 ++ ms⟩, ⟨sHhea, hheaL 5⟩, ⟨sMore, ms⟩] := by
      refine ⟨[q0, .slice a11 (54 + ml) c11, q2, .slice am ml mc], rfl, Row.leads_owned h141, fun i c r hc hr => ?_⟩
      match i, hc, hr with
      | 0, hc, hr => cases hc; cases hr; rw [u8_flat]; exact Row.leads_owned (kept_grown HQ0.out kG13 h142)
      | 1, hc, hr => cases hc; cases hr; rw [u8_flat]; exact Row.leads_owned (kept_grown HQ1.out kG13 h142)
      | 2, hc, hr => cases hc; cases hr; rw [u8_flat]; exact Row.leads_owned (kept_grown HQ2.out kG13 h142)
      | 3, hc, hr => cases hc; cases hr; rw [u8_flat, HML.out]; exact Row.leads_below HM.out HB14.out
      | j + 4, hc, hr => simp at hc
    have HPP := Bas.hid hPP
    clear h141 h142 h143 hPP HQ0 HQ1 HQ2 HM0 HM1 HM2 HB13 HB12 HB11 kG13 kG12 kG11 k13 hb13 c11k f11k
    go_wp2_with (fail)
    refine (make4 v14 _ _ _ _ w14 HPP.out (by rw [maxpL_len]; omega) (by rw [List.length_append, headL_len, HML.out]; omega) (by rw [hheaL_len]; omega) (by rw [HML.out]; omega) (maxpL_byte _) (fun x hx => (List.mem_append.1 hx).elim (headL_byte _ x) (HMB.out x)) (hheaL_byte _) HMB.out).mono ?_
    rintro e w15 ⟨v15, rfl, hb15, c15, cap15, bs15, rfl, i1, i2, hvb, hF⟩
    have HR2 := Bas.hid (fread_font (some ⟨c15, 0, none⟩) cap15 bs15 _ w15 i1 i2 hvb hF 2 0 1 _ _ _ rfl rfl rfl (fun _ => maxp_kind 5) (fun _ => by rw [be_app _ _ _ _ (by rw [headL_len]; omega)]; exact head_kind 100))
    have HB15 := Bas.hid (HB14.out.trans (hb15.mono HB14.out.size))
    have HFM : Hid (faceL (maxpL 5) (headL 100 ++ ms) (hheaL 5) = some (5, 100, 5)) := by unfold Hid; have h := face_more [] ms []; simp only [List.append_nil] at h; exact h
    clear hb15 hvb hF HPP HB14
    go_wp2_with (fail)
    refine HR2.out.mono ?_
    rintro e w16 ⟨hb16, rfl⟩
    rw [HFM.out]
    simp only [Option.getD_some, Option.isSome_some, if_true]
    have HB16 := Bas.hid (HB15.out.trans (hb16.mono HB15.out.size))
    have HB17 := Bas.hid (HB16.out.alloc HB16.out.size (.cells #[.int .i64 5, .int .i64 100, .int .i64 5] 29))
    clear hb16 HR2 HB15
    go_wp2_with (fail)
    go_ret
    exact ⟨rfl, HB17.out⟩

set_option maxRecDepth 100000 in
set_option maxHeartbeats 16000000 in
theorem faceShort_2 (wh cut : Int) (am : Option Addr) (ml mc : Nat) (ms : List Int) (w : World) (hk : wh.tmod 3 = 2) (hw : 0 ≤ wh ∧ wh ≤ 255) (hc : 0 ≤ cut ∧ cut ≤ 255) (hM : Row.Leads w (.slice am ml mc) ml (ms.map (Value.int .u8))) (hml : ms.length = ml) (hmb : ∀ x ∈ ms, 0 ≤ x ∧ x ≤ 255) (hm : ml ≤ 1000) (n : Nat) (b : Bool) (hn : cut.tmod 37 = n) (hn7 : n ≤ 36) (hb : (n == 36) = b) :
    Calls Try.prog 3 #[.int .u8 wh, .int .u8 cut, .slice am ml mc] w fun e w' => e = .returned (.bool true) ∧ Below w.heap.size w w' := by
  obtain ⟨w0, w1⟩ := hw
  obtain ⟨c0, c1⟩ := hc
  have HP := Bas.hid (fun w' => plain_any 5 100 5 w' (by omega) (by omega) (by omega))
  have HM := Bas.hid hM
  have HML := Bas.hid hml
  have HMB := Bas.hid hmb
  have HF : Hid (faceL (maxpL 5) (headL 100) ((hheaL 5).take n) = if b then some (5, 100, 5) else none) := by
    unfold Hid
    cases b with
    | true =>
      obtain rfl : n = 36 := by simpa using hb
      rw [List.take_of_length_le (by rw [hheaL_len]; omega), if_pos rfl]
      exact face_5
    | false =>
      have hne : n ≠ 36 := by simpa using hb
      have hlt : n < 36 := by omega
      rw [face_cut2 n hlt]
      rfl
  have eb : ((n : Int) == 36) = b := by
    rw [← hb, Bool.eq_iff_iff]; simp; omega
  have m1 : decide ((ml : Int) > 1000) = false := by simp; omega
  have m2 : decide (1000 < (ml : Int)) = false := by simp; omega
  have m3 : decide (1000 < ml) = false := by simp; omega
  clear hM hml hmb hb
  go_enter Try.func3, Try.ntmps3
  go_wp2_with (fail)
  refine (fspeaks_any w).mono ?_
  rintro e w1 ⟨rfl, hb1⟩
  have HB1 := Bas.hid hb1
  clear hb1
  go_wp2_with (fail)
  refine (HP.out w1).mono ?_
  rintro e w2 ⟨G, r0, r1, r2, rfl, ho, hb2⟩
  have HB2 := Bas.hid (HB1.out.trans (hb2.mono HB1.out.size))
  have HO := Bas.hid ho
  obtain ⟨ba, cp, hv⟩ := row_slice ho.2.2.2.2.1
  have hcp : 36 ≤ cp ∧ cp ≤ maxLen := by have h := ho.2.2.2.2.1; rw [hv] at h; have h2 := capOf h; rw [hheaL_len] at h2; exact h2
  obtain ⟨hcp1, hcp2⟩ := hcp
  have hq := cell_of_heap (i := 5) (v := r2) ho.2.1 rfl
  have hfz := free_of_heap (i := 5) ho.2.1
  have HC := Bas.hid (cut2 ho hv (n := n) (by rw [hheaL_len]; exact hn7))
  rw [hv, hheaL_len] at hq
  have HGB := Bas.hid (Nat.le_trans HB1.out.size ho.1)
  clear hb2 ho hv HB1
  go_wp2_with (fail)
  have HB3 := Bas.hid (HB2.out.setCell (p := ⟨G, 5, none⟩) HGB.out (.slice ba n cp))
  generalize w2.setCell ⟨G, 5, none⟩ (.slice ba n cp) = w3 at *
  clear hq hfz HB2 HO HGB
  refine (make3 _ _ _ _ w3 HC.out (by rw [maxpL_len]; omega) (by rw [headL_len]; omega) (by simp [hheaL_len]; omega) (maxpL_byte _) (headL_byte _) (fun x hx => hheaL_byte _ x (List.mem_of_mem_take hx))).mono ?_
  rintro e w4 ⟨g4, cap4, bs4, rfl, i41, i42, hv4, hF4, -, hb4⟩
  have HR := Bas.hid (fread_font (some ⟨g4, 0, none⟩) cap4 bs4 _ w4 i41 i42 hv4 hF4 2 0 1 _ _ _ rfl rfl rfl (fun _ => maxp_kind 5) (fun _ => head_kind 100))
  have HB4 := Bas.hid (HB3.out.trans (hb4.mono HB3.out.size))
  clear hb4 hv4 hF4 i41 i42 HC HB3
  go_wp2_with (fail)
  refine HR.out.mono ?_
  rintro e w5 ⟨hb5, rfl⟩
  rw [HF.out]
  have HB5 := Bas.hid (HB4.out.trans (hb5.mono HB4.out.size))
  clear hb5 HR HB4
  obtain ⟨x1, hx1⟩ : ∃ x, (if b = true then some ((5 : Int), (100 : Int), (5 : Int)) else none) = x := ⟨_, rfl⟩
  rw [hx1]
  obtain ⟨y1, hy1⟩ : ∃ y, (x1.getD (0, 0, 0)).1 = y := ⟨_, rfl⟩
  obtain ⟨y2, hy2⟩ : ∃ y, (x1.getD (0, 0, 0)).2.1 = y := ⟨_, rfl⟩
  obtain ⟨y3, hy3⟩ : ∃ y, (x1.getD (0, 0, 0)).2.2 = y := ⟨_, rfl⟩
  have hy : (if x1.isSome = true then (0 : Int) else 2) = if b = true then 0 else 2 := by subst hx1; cases b <;> rfl
  have hyb : ((if b = true then (0 : Int) else 2) == 0) = b := by cases b <;> rfl
  rw [hy, hy1, hy2, hy3]
  obtain ⟨y4, hy4⟩ : ∃ y, (if b = true then (0 : Int) else 2) = y := ⟨_, rfl⟩
  rw [hy4] at hyb ⊢
  clear hx1 hy1 hy2 hy3 hy4 hy
  go_wp2_with (fail)
  have HB6 := Bas.hid (HB5.out.alloc HB5.out.size (.cells #[.int .i64 y1, .int .i64 y2, .int .i64 y3] 29))
  generalize w5.alloc (.cells #[.int .i64 y1, .int .i64 y2, .int .i64 y3] 29) = w6 at *
  clear HB5
  refine (HP.out w6).mono ?_
  rintro e w7 ⟨G2, s0, s1, s2, rfl, ho, hb7⟩
  have HB7 := Bas.hid (HB6.out.trans (hb7.mono HB6.out.size))
  have HD := Bas.hid (fun u (hu : Below w7.heap.size w7 u) => drop2 (O6 := 0) (own3_below ho hu))
  clear hb7 ho HB6
  go_wp2_with (fail)
  refine' Pl.region_vde 108 [] [0, 1, 2, 3, 4, 5, 6, 7] [13] [(8, 70), (9, 71), (10, 72), (11, 61), (12, 73), (13, 74), (14, 13)] [15, 16] (fun i => if i = 9 then [(8, 70)] else if i = 10 then [(9, 71)] else if i = 11 then [(10, 72)] else if i = 12 then [(11, 61)] else if i = 13 then [(11, 61)] else []) _ (vSh w7.heap.size [⟨sMaxp, maxpL 5⟩, ⟨sHead, headL 100⟩] [⟨sHead, headL 100⟩, ⟨sMaxp, maxpL 5⟩]) (by kernel_rfl) (by kernel_rfl) (by kernel_rfl) (by simp) (fun _ _ _ _ e h => ⟨e ▸ h.1, h.2⟩) ?_ ?_ ?_ ?_
  rotate_left
  · intro I F hI hF
    simp only [Pl.selN, List.nil_append, List.drop_succ_cons, List.drop_zero]
    repeat (go_big_quiet_step (fail))
    refine wpQuiet_nil ?_
    rfl
  · intro z hz v u u' h1 hb1 hb2
    simp only [List.mem_cons, List.not_mem_nil, or_false] at hz
    rcases hz with rfl | rfl | rfl | rfl | rfl | rfl | rfl
    · exact PParts.below h1 hb2
    · exact Made.below h1 hb2
    · exact h1
    · exact h1
    · exact h1
    · exact h1
    · obtain ⟨g, h2, h3, h4⟩ := h1
      exact ⟨g, h2, h3, (hb2.block _ (heap_lt h4)).trans h4⟩
  · intro z hz o ho f u hu hd
    simp only [List.mem_cons, List.not_mem_nil, or_false] at hz
    rcases hz with rfl | rfl | rfl | rfl | rfl | rfl | rfl
    · simp only [Pl.selN, List.drop_succ_cons, List.drop_zero, List.mem_singleton] at ho
      subst ho
      obtain ⟨v', w', hr, hbw, hpp⟩ := HD.out u hu
      simp only [execOp, resolve, invoke, builtin, Sem.run_bind, Sem.run_pure, Result.andThen_ok, List.map_toArray, List.map_cons, List.map_nil, Act.eval, List.getElem?_toArray, List.getElem?_cons_succ, List.getElem?_cons_zero, Array.getD_eq_getD_getElem?, Option.getD_some, List.foldl_nil, Nat.reduceEqDiff, if_false, hr]
      exact ⟨hbw, hpp⟩
    · simp only [Pl.selN, List.drop_succ_cons, List.drop_zero, List.mem_singleton] at ho
      subst ho
      have hp := hd (8, 70) (by simp)
      obtain ⟨s5, hs5⟩ : ∃ s5, f 8 = s5 := ⟨_, rfl⟩
      simp only at hp
      rw [hs5] at hp
      simp only [if_true, List.foldl_cons, List.foldl_nil, Act.put, List.setIfInBounds_toArray, List.set_cons_zero, List.set_cons_succ, hs5]
      go_simp
      simp only [Pl.valsAt]
      refine (make2 s5 _ _ ⟨sHead, headL 100⟩ ⟨sMaxp, maxpL 5⟩ [1, 0] u hp ord_3 rfl rfl (by rw [headL_len]; omega) (by rw [maxpL_len]; omega) (maxpL_byte _) (headL_byte _) lt_3).mono ?_
      rintro e w'' ⟨v, rfl, hb, hmd⟩
      exact .inl ⟨_, rfl, hb, hmd⟩
    · simp only [Pl.selN, List.drop_succ_cons, List.drop_zero, List.mem_singleton] at ho
      subst ho
      have hp := hd (9, 71) (by simp)
      obtain ⟨s5, hs5⟩ : ∃ s5, f 9 = s5 := ⟨_, rfl⟩
      simp only at hp
      rw [hs5] at hp
      simp only [Nat.reduceEqDiff, if_false, if_true, List.foldl_cons, List.foldl_nil, Act.put, List.setIfInBounds_toArray, List.set_cons_zero, List.set_cons_succ, hs5]
      go_simp
      simp only [Pl.valsAt]
      refine (read_lacks s5 _ u hp (.inr (.inr rfl))).mono ?_
      rintro e w'' ⟨rfl, hb⟩
      exact .inl ⟨_, rfl, hb, rfl⟩
    · simp only [Pl.selN, List.drop_succ_cons, List.drop_zero, List.mem_singleton] at ho
      subst ho
      have hp : f 10 = _ := hd (10, 72) (by simp)
      simp only [Nat.reduceEqDiff, if_false, if_true, List.foldl_cons, List.foldl_nil, Act.put, List.setIfInBounds_toArray, List.set_cons_zero, List.set_cons_succ, hp]
      go_simp
      exact ⟨Below.refl _ _, rfl⟩
    · simp only [Pl.selN, List.drop_succ_cons, List.drop_zero, List.mem_singleton] at ho
      subst ho
      have hp : f 11 = _ := hd (11, 61) (by simp)
      simp only [Nat.reduceEqDiff, if_false, if_true, List.foldl_cons, List.foldl_nil, Act.put, List.setIfInBounds_toArray, List.set_cons_zero, List.set_cons_succ, hp]
      go_simp
      exact ⟨Below.refl _ _, rfl⟩
    · simp only [Pl.selN, List.drop_succ_cons, List.drop_zero, List.mem_singleton] at ho
      subst ho
      have hp : f 11 = _ := hd (11, 61) (by simp)
      simp only [Nat.reduceEqDiff, if_false, if_true, List.foldl_cons, List.foldl_nil, Act.put, List.setIfInBounds_toArray, List.set_cons_zero, List.set_cons_succ, hp]
      go_simp
      exact ⟨Below.refl _ _, rfl⟩
    · simp only [Pl.selN, List.drop_succ_cons, List.drop_zero, List.mem_singleton] at ho
      subst ho
      go_simp
      simp only [Pl.valsAt]
      exact ⟨(Below.refl u.heap.size u).alloc (Nat.le_refl _) _, _, rfl, hu.size, Bas.heap_new u _⟩
  · intro f u hu hV
    have h12 : f 12 = _ := hV (12, 73) (by simp)
    have h13 : f 13 = _ := hV (13, 74) (by simp)
    obtain ⟨g8, h14, hg8, kg8⟩ := hV (14, 13) (by simp)
    simp only at h14
    obtain ⟨z8, hz8⟩ : ∃ z, f 8 = z := ⟨_, rfl⟩
    obtain ⟨z9, hz9⟩ : ∃ z, f 9 = z := ⟨_, rfl⟩
    obtain ⟨z10, hz10⟩ : ∃ z, f 10 = z := ⟨_, rfl⟩
    obtain ⟨z11, hz11⟩ : ∃ z, f 11 = z := ⟨_, rfl⟩
    simp only [Pl.selN, List.drop_succ_cons, List.drop_zero, List.foldl_cons, List.foldl_nil, Act.put, List.setIfInBounds_toArray, List.set_cons_zero, List.set_cons_succ, h12, h13, h14, hz8, hz9, hz10, hz11]
    have HB8 := Bas.hid (HB7.out.trans (hu.mono HB7.out.size))
    have HG8 := Bas.hid (Nat.le_trans HB7.out.size hg8)
    have c80 := cell_of_heap (i := 0) (v := .int .i64 0) kg8 rfl
    have c81 := cell_of_heap (i := 1) (v := .int .i64 0) kg8 rfl
    have c82 := cell_of_heap (i := 2) (v := .int .i64 0) kg8 rfl
    have f80 := free_of_heap (i := 0) kg8
    have f81 := free_of_heap (i := 1) kg8
    have f82 := free_of_heap (i := 2) kg8
    clear hu hV h12 h13 h14 hz8 hz9 hz10 hz11 HD HB7 hg8
    go_wp2_with (fail)
    have HB9 := Bas.hid (((HB8.out.setCell (p := ⟨g8, 0, none⟩) HG8.out (.int .i64 0)).setCell (p := ⟨g8, 1, none⟩) HG8.out (.int .i64 0)).setCell (p := ⟨g8, 2, none⟩) HG8.out (.int .i64 0))
    generalize ((u.setCell ⟨g8, 0, none⟩ (.int .i64 0)).setCell ⟨g8, 1, none⟩ (.int .i64 0)).setCell ⟨g8, 2, none⟩ (.int .i64 0) = w9 at *
    clear c80 c81 c82 f80 f81 f82 kg8 HB8
    refine (HP.out w9).mono ?_
    rintro e w10 ⟨G3, q0, q1, q2, rfl, ho, hb10⟩
    have HB10 := Bas.hid (HB9.out.trans (hb10.mono HB9.out.size))
    have HO := Bas.hid ho
    have HGB := Bas.hid (Nat.le_trans HB9.out.size ho.1)
    obtain ⟨bb, cq, hv⟩ := row_slice ho.2.2.2.2.1
    rw [hheaL_len] at hv
    subst hv
    have hq := cell_of_heap (i := 5) (v := .slice bb 36 cq) ho.2.1 rfl
    have hne : Value.ownBlock (.slice bb 36 cq) ≠ some G3 := own_ty ho.2.2.2.2.1 ho.2.1 (by decide)
    have HNE := Bas.hid hne
    have HG9 := Bas.hid hb10.size
    have HB9S := Bas.hid HB9.out.size
    clear hb10 ho HB9 hne
    go_wp2_with (at_builtin; refine Row.fence ?_)
    refine Row.unfence ?_
    refine (Row.append_at rfl _ _ 22 5 rfl (.int .u8 0) 1 1 Try.underlying22 info8 rfl (by decide) w9.heap.size (.slice bb 36 cq) 36 _ rfl (hheaL_len _ ▸ HO.out.2.2.2.2.1) (.slice am ml mc) ml _ rfl (Row.leads_below HM.out HB10.out) (by simp [HML.out]) (by simp; intros; rfl) (by unfold maxLen; omega) (by omega) HG9.out ?_)
    intro v11 w11 h111 h112 _ h113
    have g11 : Grown w10 w9.heap.size (.slice bb 36 cq) (hheaL 5 ++ ms) v11 w11 := ⟨by rw [List.map_append, List.length_append, hheaL_len, HML.out]; exact h111, h112, h113.imp id fun h => ⟨_, h, Nat.le_refl _⟩⟩
    obtain ⟨hbG, hkG, hr0, hr1, hr2, ha01, ha02, ha12⟩ := HO.out
    have kG11 := (h112.block G3 (heap_lt hkG) (fun e => HNE.out e.symm)).trans hkG
    have HN0 := Bas.hid (keep_row hr0 g11 (fun b hb e => ha02 b hb e))
    have HN1 := Bas.hid (keep_row hr1 g11 (fun b hb e => ha12 b hb e))
    have HN2 := Bas.hid g11.own
    have HB11 := Bas.hid (g11.below HB10.out HB10.out.size (fun g h => Nat.le_trans HB9S.out (Row.own_block hr2 h).1))
    obtain ⟨a11, c11, hv11⟩ := own_slice g11.own
    have HL11 : Hid ((hheaL 5 ++ ms).length = 36 + ml) := by unfold Hid; rw [List.length_append, hheaL_len, HML.out]
    rw [HL11.out] at hv11
    subst hv11
    have c11k := cell_of_heap (i := 5) (v := .slice bb 36 cq) kG11 rfl
    have f11k := free_of_heap (i := 5) kG11
    have HM0 := Bas.hid (kept_row (i := 5) (v := .slice a11 (36 + ml) c11) kG11 HN0.out)
    have HM1 := Bas.hid (kept_row (i := 5) (v := .slice a11 (36 + ml) c11) kG11 HN1.out)
    have HM2 := Bas.hid (kept_row (i := 5) (v := .slice a11 (36 + ml) c11) kG11 HN2.out)
    have kG12 : (w11.setCell ⟨G3, 5, none⟩ (.slice a11 (36 + ml) c11)).heap[G3]? = some (.cells #[.string sMaxp, q0, .string sHead, q1, .string sHhea, .slice a11 (36 + ml) c11] 27 (0, 0)) := heap_set kG11 _
    have HB12 := Bas.hid (HB11.out.setCell (p := ⟨G3, 5, none⟩) HGB.out (.slice a11 (36 + ml) c11))
    clear h111 h112 h113 g11 hbG hkG hr0 hr1 hr2 ha01 ha02 ha12 HN0 HN1 HN2 HNE hq HO HB10
    go_wp2_with (at_builtin; refine Row.fence ?_)
    refine Row.unfence ?_
    have hs12 : (w11.setCell ⟨G3, 5, none⟩ (.slice a11 (36 + ml) c11)).heap.size = w11.heap.size := by simp
    generalize w11.setCell ⟨G3, 5, none⟩ (.slice a11 (36 + ml) c11) = w12 at *
    have hb13 := (Below.refl w12.heap.size w12).alloc (Nat.le_refl _) (.cells #[.string ⟨#[109, 111, 114, 101]⟩, .slice am ml mc] 27)
    have k13 := Bas.heap_new w12 (.cells #[.string ⟨#[109, 111, 114, 101]⟩, .slice am ml mc] 27)
    have kG13 := (hb13.block G3 (heap_lt kG12)).trans kG12
    have HB13 := Bas.hid (Bas.on HB12.out hb13)
    have HQ0 := Bas.hid (Row.owned_below HM0.out hb13)
    have HQ1 := Bas.hid (Row.owned_below HM1.out hb13)
    have HQ2 := Bas.hid (Row.owned_below HM2.out hb13)
    generalize w12.alloc (.cells #[.string ⟨#[109, 111, 114, 101]⟩, .slice am ml mc] 27) = w13 at *
    rw [hs12] at k13
    generalize w11.heap.size = T12 at *
    refine (Row.append_at rfl _ _ 24 27 rfl (.agg #[.string ⟨#[]⟩, .slice none 0 0]) 2 40 Try.underlying24 infoP rfl (by decide) w.heap.size (.slice (some ⟨G3, 0, none⟩) 3 3) 3 _ rfl (own_six kG13 HGB.out) (.slice (some ⟨T12, 0, none⟩) 1 1) 1 [.string ⟨#[109, 111, 114, 101]⟩, .slice am ml mc] rfl (leads_heap k13) rfl (by simp; exact ⟨rfl, rfl⟩) (by unfold maxLen; omega) (by omega) HB13.out.size ?_)
    intro v14 w14 h141 h142 _ h143
    have HB14 := Bas.hid (HB13.out.grown h142 HB13.out.size (fun g hg => by cases hg; exact HGB.out))
    have hPP : PParts w14 v14 [⟨sMaxp, maxpL 5⟩, ⟨sHead, headL 100⟩, ⟨sHhea, hheaL 5 ++ ms⟩, ⟨sMore, ms⟩] := by
      refine ⟨[q0, q1, .slice a11 (36 + ml) c11, .slice am ml mc], rfl, Row.leads_owned h141, fun i c r hc hr => ?_⟩
      match i, hc, hr with
      | 0, hc, hr => cases hc; cases hr; rw [u8_flat]; exact Row.leads_owned (kept_grown HQ0.out kG13 h142)
      | 1, hc, hr => cases hc; cases hr; rw [u8_flat]; exact Row.leads_owned (kept_grown HQ1.out kG13 h142)
      | 2, hc, hr => cases hc; cases hr; rw [u8_flat]; exact Row.leads_owned (kept_grown HQ2.out kG13 h142)
      | 3, hc, hr => cases hc; cases hr; rw [u8_flat, HML.out]; exact Row.leads_below HM.out HB14.out
      | j + 4, hc, hr => simp at hc
    have HPP := Bas.hid hPP
    clear h141 h142 h143 hPP HQ0 HQ1 HQ2 HM0 HM1 HM2 HB13 HB12 HB11 kG13 kG12 kG11 k13 hb13 c11k f11k
    go_wp2_with (fail)
    refine (make4 v14 _ _ _ _ w14 HPP.out (by rw [maxpL_len]; omega) (by rw [headL_len]; omega) (by rw [List.length_append, hheaL_len, HML.out]; omega) (by rw [HML.out]; omega) (maxpL_byte _) (headL_byte _) (fun x hx => (List.mem_append.1 hx).elim (hheaL_byte _ x) (HMB.out x)) HMB.out).mono ?_
    rintro e w15 ⟨v15, rfl, hb15, c15, cap15, bs15, rfl, i1, i2, hvb, hF⟩
    have HR2 := Bas.hid (fread_font (some ⟨c15, 0, none⟩) cap15 bs15 _ w15 i1 i2 hvb hF 2 0 1 _ _ _ rfl rfl rfl (fun _ => maxp_kind 5) (fun _ => head_kind 100))
    have HB15 := Bas.hid (HB14.out.trans (hb15.mono HB14.out.size))
    have HFM : Hid (faceL (maxpL 5) (headL 100) (hheaL 5 ++ ms) = some (5, 100, 5)) := by unfold Hid; have h := face_more [] [] ms; simp only [List.append_nil] at h; exact h
    clear hb15 hvb hF HPP HB14
    go_wp2_with (fail)
    refine HR2.out.mono ?_
    rintro e w16 ⟨hb16, rfl⟩
    rw [HFM.out]
    simp only [Option.getD_some, Option.isSome_some, if_true]
    have HB16 := Bas.hid (HB15.out.trans (hb16.mono HB15.out.size))
    have HB17 := Bas.hid (HB16.out.alloc HB16.out.size (.cells #[.int .i64 5, .int .i64 100, .int .i64 5] 29))
    clear hb16 HR2 HB15
    go_wp2_with (fail)
    go_ret
    exact ⟨rfl, HB17.out⟩

set_option maxRecDepth 100000 in
set_option maxHeartbeats 4000000 in
theorem faceShort_big (wh cut : Int) (am : Option Addr) (ml mc : Nat) (w : World) (hm : 1000 < ml) :
    Calls Try.prog 3 #[.int .u8 wh, .int .u8 cut, .slice am ml mc] w fun e w' => e = .returned (.bool true) ∧ Below w.heap.size w w' := by
  have m1 : decide ((ml : Int) > 1000) = true := by simp; omega
  have m2 : decide (1000 < (ml : Int)) = true := by simp; omega
  have m3 : decide (1000 < ml) = true := by simp; omega
  go_enter Try.func3, Try.ntmps3
  go_wp2_with (fail)
  refine (fspeaks_any w).mono ?_
  rintro e w1 ⟨rfl, hb1⟩
  have HB1 := Bas.hid hb1
  clear hb1
  go_wp2_with (fail)
  go_ret
  exact ⟨rfl, HB1.out⟩
theorem faceShort_walk (wh cut : Int) (am : Option Addr) (ml mc : Nat) (zs : List Int) (w : World) (hw : (Lit.int .u8 wh).wf = true) (hc : (Lit.int .u8 cut).wf = true) (hr : Bas.IsRow .u8 w am ml mc zs) :
    Calls Try.prog 3 #[.int .u8 wh, .int .u8 cut, .slice am ml mc] w fun e w' => e = .returned (.bool true) ∧ Below w.heap.size w w' := by
  obtain ⟨ms, hml, hM, hmb⟩ := row_u8 hr
  have hw' := Bas.wf_u8 hw
  have hc' := Bas.wf_u8 hc
  have cutE : ∀ m : Int, 1 ≤ m → ∃ n : Nat, cut.tmod m = n ∧ (n : Int) < m := fun m hm => ⟨(cut % m).toNat, by rw [Int.tmod_eq_emod_of_nonneg hc'.1]; have := Int.emod_nonneg cut (b := m) (by omega); omega, by have := Int.emod_nonneg cut (b := m) (by omega); have := Int.emod_lt_of_pos cut (b := m) (by omega); omega⟩
  by_cases hm : 1000 < ml
  · exact faceShort_big wh cut am ml mc w hm
  have h3 : wh.tmod 3 = 0 ∨ wh.tmod 3 = 1 ∨ wh.tmod 3 = 2 := by rw [Int.tmod_eq_emod_of_nonneg hw'.1]; omega
  rcases h3 with h3 | h3 | h3
  · obtain ⟨n, hn, hlt⟩ := cutE 7 (by omega)
    exact faceShort_0 wh cut am ml mc ms w h3 hw' hc' hM hml hmb (by omega) n _ hn (by omega) rfl
  · obtain ⟨n, hn, hlt⟩ := cutE 55 (by omega)
    exact faceShort_1 wh cut am ml mc ms w h3 hw' hc' hM hml hmb (by omega) n _ hn (by omega) rfl
  · obtain ⟨n, hn, hlt⟩ := cutE 37 (by omega)
    exact faceShort_2 wh cut am ml mc ms w h3 hw' hc' hM hml hmb (by omega) n _ hn (by omega) rfl
end Fo
end Go.Proofs.Ytkmbeohheblhhaa
