/- sfnt.Make: the walk. -/
import Derived.Test.YtkmbeohheblhhaaSfMkA
import Derived.Test.YtkmbeohheblhhaaFontMk
import Derived.Lib.AppendStr
namespace Go.Proofs.Ytkmbeohheblhhaa
open Go.RowKit
namespace Sy
open Fo Vw Wr

def pdOf (dat : Sl → List Int) (p : Pt) : PartD := ⟨p.1, dat p.2⟩
/-- Parts that are handed in: their bytes. -/
def Bytes (w : World) (xs : List Pt) (dat : Sl → List Int) : Prop := ∀ p ∈ xs, Row.Leads w (slV p.2) (dat p.2).length ((dat p.2).flatMap u8C) ∧ (∀ x ∈ dat p.2, 0 ≤ x ∧ x ≤ 255) ∧ (dat p.2).length ≤ 1000
def okE (E : Nat → Pt) (n : Nat) : Prop := ∀ i, i < n → (E i).1.size = 4 ∧ (0 < i → (E (i - 1)).1 ≠ (E i).1)
def mostN (n : Nat) : Int := if n = 0 then 0 else (Lib.bitLen n : Int) - 1
def nearN (n : Nat) : Int := if n = 0 then 0 else 16 * 2 ^ (Lib.bitLen n - 1)
def MkP (n : Nat) (D : Nat → Pt) (dat : Sl → List Int) (w : World) (e : Ending) (w' : World) : Prop :=
  ∃ (E : Nat → Pt) (ys : List Pt), Is n ys E ∧ Srt ltP E 0 n ∧ Pm 0 n D E ∧ Below w.heap.size w w' ∧
    ((okE E n ∧ ∃ v, e = .returned v ∧ w'.ownsRow w.heap.size 5 1 v (makeM (ys.map (pdOf dat)) (nearN n) (mostN n)).length ((makeM (ys.map (pdOf dat)) (nearN n) (mostN n)).map (Value.int .u8))) ∨ ¬ okE E n ∧ e = .returned (.slice none 0 0))

theorem pc_flat (dat : Sl → List Int) : ∀ ys : List Pt, (ys.map (fun p => (pdOf dat p, slV p.2))).flatMap pC = ys.flatMap ptC
  | [] => rfl
  | p :: ys => by rw [List.map_cons, List.flatMap_cons, List.flatMap_cons, pc_flat dat ys]; rfl
theorem bodies_le (P : List PartD) (h : ∀ p ∈ P, p.data.length ≤ 1000) : (P.flatMap bodyM).length ≤ 1003 * P.length := by
  induction P with
  | nil => simp
  | cons p P ih =>
    have h1 := ih (fun q hq => h q (by simp [hq]))
    have h2 := h p (by simp)
    have := pad4_le p.data.length
    rw [List.flatMap_cons, List.length_append, bodyM_len, List.length_cons]; omega
theorem mk_facts {n : Nat} {ys xs : List Pt} {E D : Nat → Pt} {dat : Sl → List Int} {w : World} (hys : Is n ys E) (hxs : Is n xs D) (hp : Pm 0 n D E) (hok : okE E n) (hn : n ≤ 30) (hd : Bytes w xs dat) :
    (ys.map (fun p => (pdOf dat p, slV p.2))).flatMap pC = ys.flatMap ptC ∧ (ys.map (fun p => (pdOf dat p, slV p.2))).length = n ∧ (ys.map (pdOf dat)).length = n ∧ ys.map (pdOf dat) = (ys.map (fun p => (pdOf dat p, slV p.2))).map Prod.fst ∧ (∀ p ∈ ys.map (pdOf dat), p.tag.size = 4) ∧
    (∀ (j : Nat) (x : PartD × Value), (ys.map (fun p => (pdOf dat p, slV p.2)))[j]? = some x → Row.Leads w x.2 x.1.data.length (x.1.data.flatMap u8C) ∧ ∀ y ∈ x.1.data, 0 ≤ y ∧ y ≤ 255) ∧ atM (ys.map (pdOf dat)) (ys.map (pdOf dat)).length ≤ 1000000 := by
  have hm : ∀ j p, ys[j]? = some p → j < n ∧ p = E j ∧ p ∈ xs := fun j p hj => by
    have hlt : j < n := by have := (List.getElem?_eq_some_iff.1 hj).1; have := hys.1; omega
    have h1 := hys.2 j hlt
    rw [hj] at h1
    obtain ⟨k, _, hk, he⟩ := hp.inn (Nat.zero_le j) hlt
    refine ⟨hlt, Option.some.inj h1, ?_⟩
    rw [Option.some.inj h1, he]
    exact List.mem_of_getElem? (hxs.2 k hk)
  refine ⟨pc_flat dat ys, by rw [List.length_map]; exact hys.1, by rw [List.length_map]; exact hys.1, by rw [List.map_map]; rfl, fun p hp => ?_, fun j x hj => ?_, ?_⟩
  · obtain ⟨q, hq, rfl⟩ := List.mem_map.1 hp
    obtain ⟨j, hj⟩ := List.getElem?_of_mem hq
    obtain ⟨h1, h2, _⟩ := hm j q hj
    rw [h2]
    exact (hok j h1).1
  · rw [List.getElem?_map] at hj
    cases hy : ys[j]? with
    | none => rw [hy] at hj; cases hj
    | some p =>
      rw [hy] at hj
      cases hj
      have := hd p (hm j p hy).2.2
      exact ⟨this.1, this.2.1⟩
  · have h := bodies_le (ys.map (pdOf dat)) (fun p hp => by
      obtain ⟨q, hq, rfl⟩ := List.mem_map.1 hp
      obtain ⟨j, hj⟩ := List.getElem?_of_mem hq
      exact (hd q (hm j q hj).2.2).2.2)
    unfold atM
    rw [List.take_length]
    have hl : (ys.map (pdOf dat)).length = n := by rw [List.length_map]; exact hys.1
    omega
theorem bl_facts : ∀ n, n ≤ 30 → 0 < n → 1 ≤ Lib.bitLen n ∧ Lib.bitLen n ≤ 5 ∧ 2 ^ (Lib.bitLen n - 1) ≤ n := fun n h h0 => by
  have : ∀ m : Fin 31, 0 < m.1 → 1 ≤ Lib.bitLen m.1 ∧ Lib.bitLen m.1 ≤ 5 ∧ 2 ^ (Lib.bitLen m.1 - 1) ≤ m.1 := by decide +kernel
  exact this ⟨n, by omega⟩ h0
theorem tl_eq {s t : ByteArray} (h : s = t) : (s.toList == t.toList) = true := by subst h; simp
theorem tl_ne {s t : ByteArray} (h : s ≠ t) : (s.toList == t.toList) = false := by
  rw [beq_eq_false_iff_ne]
  intro e
  rw [ByteArray.toList_eq s, ByteArray.toList_eq t] at e
  cases s; cases t
  simp only at e
  exact h (by rw [Array.ext' e])
set_option maxRecDepth 100000 in
set_option maxHeartbeats 16000000 in
theorem smake_any (v : Value) (xs : List Pt) (dat : Sl → List Int) (D : Nat → Pt) (n : Nat) (w : World) (hl : Row.Leads w v n (xs.flatMap ptC)) (hxs : Is n xs D) (hn : n ≤ 30) (hn0 : 0 < n) (hdat : Bytes w xs dat) :
    Calls Try.prog 11 #[v] w (MkP n D dat w) := by
  have HCL := Bas.hid (clone_any v xs n w hl hxs.1 (by omega))
  have HXS := Bas.hid hxs
  have HDT := Bas.hid hdat
  have hlt4 : decide ((n : Int) > 4000) = false := by simp; omega
  have hlt5 : decide (4000 < (n : Int)) = false := by simp; omega
  have hlt6 : decide (4000 < n) = false := by simp; omega
  have hz1 : ((n : Int) == 0) = false := by simp; omega
  have hz2 : decide ((n : Int) > 0) = true := by simp; omega
  have hz3 : decide (0 < (n : Int)) = true := by simp; omega
  clear hl hxs hdat
  go_enter Try.func11, Try.ntmps11
  go_wp2_with (fail)
  refine HCL.out.mono ?_
  rintro e w1 ⟨hb1, a1, cp, rfl, ho1⟩
  have HB1 := Bas.hid hb1
  have HSO := Bas.hid (sort_any w.heap.size n a1 cp D w1 ⟨xs, HXS.out, ho1⟩ hn)
  clear hb1 ho1 HCL
  go_wp2_with (fail)
  refine HSO.out.mono ?_
  rintro e w2 ⟨rfl, E, hat, hsr, hpm, hgr⟩
  have HAT := Bas.hid hat
  have HSR := Bas.hid hsr
  have HPM := Bas.hid hpm
  have HB2 : Hid (Below w.heap.size w w2) := HB1.out.grown hgr HB1.out.size (fun g hg => by
    obtain ⟨ys, _, ho⟩ := hat
    exact (Row.own_block ho hg).1)
  obtain ⟨G, _, hv, -⟩ := hat.cells (k := 0) hn0
  cases hv
  clear hat hsr hpm hgr HSO HB1
  go_wp2_with (fail)
  obtain ⟨wo, hwo⟩ : ∃ wo : World, wo = w2 := ⟨_, rfl⟩
  rw [← hwo] at HAT HB2
  rw [← hwo]
  clear hwo
  go_loopw [20] (fun vi wr => ∃ i : Nat, i ≤ n ∧ vi = .int .i64 i ∧ okE E i ∧ At wr w.heap.size n (.slice (some ⟨G, 0, none⟩) n cp) E ∧ Below w.heap.size w wr) (fun vi _ => n - (intOf vi).toNat)
  case atStart => exact ⟨0, Nat.zero_le _, rfl, fun i hi => by omega, HAT.out, HB2.out⟩
  case round =>
    obtain ⟨i, hi, rfl, hok, hat, hb⟩ := hrel
    have HOK := Bas.hid hok
    have HAT := Bas.hid hat
    have HB := Bas.hid hb
    clear hok hb HB2
    by_cases hin : i < n
    · have e1 : decide ((i : Int) < (n : Int)) = true := by simp; omega
      have e2 : decide (i < n) = true := by simp; omega
      obtain ⟨g1, c1, hv1, hlt1, hbb, p0, p1, -⟩ := hat.cells (k := i) hin
      cases hv1
      obtain ⟨⟨s0, x0, l0, k0⟩, hd0⟩ : ∃ p, E i = p := ⟨_, rfl⟩
      rw [hd0] at p0 p1
      simp only at p0 p1
      have HD0 := Bas.hid hd0
      clear hd0
      by_cases hs4 : s0.size = 4
      · have f1 : ((s0.size : Int) == 4) = true := by simp; omega
        by_cases hi0 : i = 0
        · have f3 : decide ((i : Int) > 0) = false := by simp; omega
          have f4 : decide (0 < (i : Int)) = false := by simp; omega
          have f5 : decide (0 < i) = false := by simp; omega
          have HOK2 : Hid (okE E (i + 1)) := fun j hj => by
            obtain rfl : j = i := by omega
            rw [HD0.out]
            exact ⟨hs4, fun h => by omega⟩
          have HI0 := Bas.hid hi0
          clear hat hi0
          have hb3 := (Below.refl wr.heap.size wr).alloc (Nat.le_refl _) (.cells #[.string s0, .slice x0 l0 k0] 37)
          have kb3 := Bas.heap_new wr (.cells #[.string s0, .slice x0 l0 k0] 37)
          have HAT3 := Bas.hid (HAT.out.below hb3)
          have HB3 := Bas.hid (Bas.on HB.out hb3)
          go_wp2_with (fail)
          generalize wr.alloc (.cells #[.string s0, .slice x0 l0 k0] 37) = W3 at *
          generalize wr.heap.size = T3 at *
          have b0 := cell_of_heap (i := 0) (v := .string s0) kb3 rfl
          have lT3 := heap_lt kb3
          refine' Pl.region_v0 123 [] [0, 1, 2, 3, 4, 5, 6, 7, 8, 9, 10, 11, 12, 13, 14, 15, 16, 17, 18] [] _ (by kernel_rfl) (by kernel_rfl) (by simp) (fun _ _ _ _ e h => ⟨e ▸ h.1, h.2⟩) ?_ ?_
          rotate_left
          · intro I F hI hF
            simp only [Pl.selN, List.nil_append, List.drop_succ_cons, List.drop_zero]
            have t0 := fun i => hF.cell lT3 b0 i
            repeat (go_big_quiet_step (fail))
            refine wpQuiet_nil ?_
            rfl
          intro w5 hw5
          simp only [Pl.selN]
          have HAT5 := Bas.hid (HAT3.out.below hw5)
          have HB5 := Bas.hid (HB3.out.trans (hw5.mono HB3.out.size))
          clear hw5 b0 lT3 kb3 hb3 
          go_wp2_with (fail)
          go_roundw
          case rel => exact ⟨i + 1, by omega, by go_num, HOK2.out, HAT5.out, HB5.out⟩
          case measure => simp [intOf]; omega
        · have f3 : decide ((i : Int) > 0) = true := by simp; omega
          have f4 : decide (0 < (i : Int)) = true := by simp; omega
          have f5 : decide (0 < i) = true := by simp; omega
          have z1 : IntKind.i64.wrap ((i : Int) - 1) = ((i - 1 : Nat) : Int) := by rw [IntKind.wrap_i64]; omega
          have z2 : (i : Int) - 1 = ((i - 1 : Nat) : Int) := by omega
          have g6 : decide (((i - 1 : Nat) : Int) < (n : Int)) = true := by simp; omega
          obtain ⟨g2, c2, hv2, _, _, p2, _, _⟩ := hat.cells (k := i - 1) (by omega)
          cases hv2
          obtain ⟨⟨s1, x1, l1, k1⟩, hd1⟩ : ∃ p, E (i - 1) = p := ⟨_, rfl⟩
          rw [hd1] at p2
          simp only at p2
          have HD1 := Bas.hid hd1
          clear hat hd1
          by_cases hss : s1 = s0
          · have HNO : Hid (¬ okE E n) := fun h => by
              have h2 := (h i hin).2 (by omega)
              rw [HD0.out, HD1.out] at h2
              exact h2 hss
            have f6 : (s1.toList == s0.toList) = true := tl_eq hss
            have HSS := Bas.hid hss
            clear hss
            have hb3 := (Below.refl wr.heap.size wr).alloc (Nat.le_refl _) (.cells #[.string s0, .slice x0 l0 k0] 37)
            have kb3 := Bas.heap_new wr (.cells #[.string s0, .slice x0 l0 k0] 37)
            have HAT3 := Bas.hid (HAT.out.below hb3)
            have HB3 := Bas.hid (Bas.on HB.out hb3)
            have r0 := (hb3.cell (p := ⟨G, (i - 1) * 2, none⟩) hlt1).trans p2
            go_wp2_with (fail)
            generalize wr.alloc (.cells #[.string s0, .slice x0 l0 k0] 37) = W3 at *
            generalize wr.heap.size = T3 at *
            have b0 := cell_of_heap (i := 0) (v := .string s0) kb3 rfl
            have lT3 := heap_lt kb3
            have lG3 := World.block_lt_of_cell? _ _ r0
            refine' Pl.region_v0 123 [] [0, 1, 2, 3, 4, 5, 6, 7, 8, 9, 10, 11, 12, 13, 14, 15, 16, 17, 18] [] _ (by kernel_rfl) (by kernel_rfl) (by simp) (fun _ _ _ _ e h => ⟨e ▸ h.1, h.2⟩) ?_ ?_
            rotate_left
            · intro I F hI hF
              simp only [Pl.selN, List.nil_append, List.drop_succ_cons, List.drop_zero]
              have t0 := fun i => hF.cell lT3 b0 i
              have t1 := fun i => hF.cell lG3 r0 i
              repeat (go_big_quiet_step (fail))
              refine wpQuiet_nil ?_
              rfl
            intro w5 hw5
            simp only [Pl.selN]
            have HAT5 := Bas.hid (HAT3.out.below hw5)
            have HB5 := Bas.hid (HB3.out.trans (hw5.mono HB3.out.size))
            clear hw5 b0 lT3 kb3 hb3 r0 lG3 
            go_wp2_with (fail)
            go_ret
            obtain ⟨ys, hys, -⟩ := HAT5.out
            exact ⟨E, ys, hys, HSR.out, HPM.out, HB5.out, .inr ⟨HNO.out, rfl⟩⟩
          · have HOK2 : Hid (okE E (i + 1)) := fun j hj => by
              by_cases hji : j = i
              · subst hji
                rw [HD0.out, HD1.out]
                exact ⟨hs4, fun _ => hss⟩
              · exact HOK.out j (by omega)
            have f6 : (s1.toList == s0.toList) = false := tl_ne hss
            clear hss
            have hb3 := (Below.refl wr.heap.size wr).alloc (Nat.le_refl _) (.cells #[.string s0, .slice x0 l0 k0] 37)
            have kb3 := Bas.heap_new wr (.cells #[.string s0, .slice x0 l0 k0] 37)
            have HAT3 := Bas.hid (HAT.out.below hb3)
            have HB3 := Bas.hid (Bas.on HB.out hb3)
            have r0 := (hb3.cell (p := ⟨G, (i - 1) * 2, none⟩) hlt1).trans p2
            go_wp2_with (fail)
            generalize wr.alloc (.cells #[.string s0, .slice x0 l0 k0] 37) = W3 at *
            generalize wr.heap.size = T3 at *
            have b0 := cell_of_heap (i := 0) (v := .string s0) kb3 rfl
            have lT3 := heap_lt kb3
            have lG3 := World.block_lt_of_cell? _ _ r0
            refine' Pl.region_v0 123 [] [0, 1, 2, 3, 4, 5, 6, 7, 8, 9, 10, 11, 12, 13, 14, 15, 16, 17, 18] [] _ (by kernel_rfl) (by kernel_rfl) (by simp) (fun _ _ _ _ e h => ⟨e ▸ h.1, h.2⟩) ?_ ?_
            rotate_left
            · intro I F hI hF
              simp only [Pl.selN, List.nil_append, List.drop_succ_cons, List.drop_zero]
              have t0 := fun i => hF.cell lT3 b0 i
              have t1 := fun i => hF.cell lG3 r0 i
              repeat (go_big_quiet_step (fail))
              refine wpQuiet_nil ?_
              rfl
            intro w5 hw5
            simp only [Pl.selN]
            have HAT5 := Bas.hid (HAT3.out.below hw5)
            have HB5 := Bas.hid (HB3.out.trans (hw5.mono HB3.out.size))
            clear hw5 b0 lT3 kb3 hb3 r0 lG3 
            go_wp2_with (fail)
            go_roundw
            case rel => exact ⟨i + 1, by omega, by go_num, HOK2.out, HAT5.out, HB5.out⟩
            case measure => simp [intOf]; omega
      · have f1 : ((s0.size : Int) == 4) = false := by simp; omega
        have f2 : ((s0.size : Int) != 4) = true := by simp; omega
        have HNO : Hid (¬ okE E n) := fun h => hs4 (by have h2 := (h i hin).1; rw [HD0.out] at h2; exact h2)
        clear hat
        have hb3 := (Below.refl wr.heap.size wr).alloc (Nat.le_refl _) (.cells #[.string s0, .slice x0 l0 k0] 37)
        have kb3 := Bas.heap_new wr (.cells #[.string s0, .slice x0 l0 k0] 37)
        have HAT3 := Bas.hid (HAT.out.below hb3)
        have HB3 := Bas.hid (Bas.on HB.out hb3)
        go_wp2_with (fail)
        generalize wr.alloc (.cells #[.string s0, .slice x0 l0 k0] 37) = W3 at *
        generalize wr.heap.size = T3 at *
        have b0 := cell_of_heap (i := 0) (v := .string s0) kb3 rfl
        have lT3 := heap_lt kb3
        refine' Pl.region_v0 123 [] [0, 1, 2, 3, 4, 5, 6, 7, 8, 9, 10, 11, 12, 13, 14, 15, 16, 17, 18] [] _ (by kernel_rfl) (by kernel_rfl) (by simp) (fun _ _ _ _ e h => ⟨e ▸ h.1, h.2⟩) ?_ ?_
        rotate_left
        · intro I F hI hF
          simp only [Pl.selN, List.nil_append, List.drop_succ_cons, List.drop_zero]
          have t0 := fun i => hF.cell lT3 b0 i
          repeat (go_big_quiet_step (fail))
          refine wpQuiet_nil ?_
          rfl
        intro w5 hw5
        simp only [Pl.selN]
        have HAT5 := Bas.hid (HAT3.out.below hw5)
        have HB5 := Bas.hid (HB3.out.trans (hw5.mono HB3.out.size))
        clear hw5 b0 lT3 kb3 hb3 
        go_wp2_with (fail)
        go_ret
        obtain ⟨ys, hys, -⟩ := HAT5.out
        exact ⟨E, ys, hys, HSR.out, HPM.out, HB5.out, .inr ⟨HNO.out, rfl⟩⟩
    · obtain rfl : n = i := by omega
      have e1 : decide ((n : Int) < (n : Int)) = false := by simp
      obtain ⟨ys, hys, hown⟩ := hat
      obtain ⟨Q, hQ⟩ : ∃ Q, ys.map (fun p => (pdOf dat p, slV p.2)) = Q := ⟨_, rfl⟩
      obtain ⟨P, hP⟩ : ∃ P, ys.map (pdOf dat) = P := ⟨_, rfl⟩
      have hfx := mk_facts hys HXS.out HPM.out HOK.out hn HDT.out
      rw [hQ, hP] at hfx
      obtain ⟨hq1, hq2, hq3, hq4, hq5, hq6, hq7⟩ := hfx
      rw [← hq1] at hown
      have HOW := Bas.hid hown
      have HYS := Bas.hid hys
      have HOKE := HOK
      have HPD := Bas.hid hP
      have HQL := Bas.hid hq2
      have HPN := Bas.hid hq3
      have HQP := Bas.hid hq4
      have HTS := Bas.hid hq5
      have HQV := Bas.hid hq6
      have HTOT := Bas.hid hq7
      obtain ⟨hbl1, hbl2, hbl3⟩ := bl_facts n hn hn0
      obtain ⟨B, hB⟩ : ∃ B, Lib.bitLen n - 1 = B := ⟨_, rfl⟩
      have z1 : IntKind.i64.wrap ((Lib.bitLen n : Int) - 1) = (B : Int) := by rw [IntKind.wrap_i64]; omega
      have z2 : (Lib.bitLen n : Int) - 1 = (B : Int) := by omega
      rw [hB] at hbl3
      have HLEN := Bas.hid (blen_int (n : Int) wr (by omega) (by omega))
      rw [show ((n : Int)).toNat = n by omega] at HLEN
      have HMO : Hid (mostN n = (B : Int)) := by unfold Hid mostN; rw [if_neg (by omega)]; omega
      obtain ⟨q, hq⟩ : ∃ q : Int, 16 * 2 ^ B = q := ⟨_, rfl⟩
      have HNE : Hid (nearN n = q) := by unfold Hid nearN; rw [if_neg (by omega), hB]; exact hq
      have hq0 : 0 ≤ q ∧ q ≤ 16 * (n : Int) := by
        have h2 : ((2 ^ B : Nat) : Int) = (2 : Int) ^ B := by simp
        have h3 : ((2 ^ B : Nat) : Int) ≤ (n : Int) := Int.ofNat_le.2 hbl3
        have h4 : (0 : Int) ≤ ((2 ^ B : Nat) : Int) := Int.natCast_nonneg _
        rw [← hq, ← h2]
        generalize ((2 ^ B : Nat) : Int) = y at *
        omega
      obtain ⟨hq1', hq2'⟩ := hq0
      have z3 : wrap64 (16 * 2 ^ B) = q := by rw [hq]; unfold wrap64; omega
      have z4 : wrap64 (16 * (n : Int) - q) = 16 * (n : Int) - q := by unfold wrap64; omega
      have HHN := Bas.hid hq
      clear hown hys hQ hP hq1 hq2 hq3 hq4 hq5 hq6 hq7 HAT HOK HXS HDT hB hq
      go_wp2_with (fail)
      refine HLEN.out.mono ?_
      rintro e w5 ⟨rfl, rfl⟩
      go_wp2_with (fail)
      have hB0 := HB.out.size
      have hO0 : wr.ownsRow w.heap.size 5 1 (.slice none 0 0) ([] : List Int).length (([] : List Int).map (Value.int .u8)) := Row.owned_nil _ _ _ _
      refine (sput_any 65536 4 w.heap.size _ [] wr (by omega) (by omega) (by omega) (by simp [putB_len]) hB0 hO0).mono ?_
      rintro e u1 ⟨y1, rfl, gr1⟩
      have hB1 := Nat.le_trans hB0 gr1.grow.size
      have hO1 := gr1.own
      go_wp2_with (fail)
      refine (sput_any (n : Int) 2 w.heap.size _ _ u1 (by omega) (by omega) (by omega) (by simp [putB_len]) hB1 hO1).mono ?_
      rintro e u2 ⟨y2, rfl, gr2⟩
      have hB2 := Nat.le_trans hB1 gr2.grow.size
      have hO2 := gr2.own
      go_wp2_with (fail)
      refine (sput_any q 2 w.heap.size _ _ u2 (by omega) (by omega) (by omega) (by simp [putB_len]) hB2 hO2).mono ?_
      rintro e u3 ⟨y3, rfl, gr3⟩
      have hB3 := Nat.le_trans hB2 gr3.grow.size
      have hO3 := gr3.own
      go_wp2_with (fail)
      refine (sput_any (B : Int) 2 w.heap.size _ _ u3 (by omega) (by omega) (by omega) (by simp [putB_len]) hB3 hO3).mono ?_
      rintro e u4 ⟨y4, rfl, gr4⟩
      have hB4 := Nat.le_trans hB3 gr4.grow.size
      have hO4 := gr4.own
      go_wp2_with (fail)
      refine (sput_any (16 * (n : Int) - q) 2 w.heap.size _ _ u4 (by omega) (by omega) (by omega) (by simp [putB_len]) hB4 hO4).mono ?_
      rintro e u5 ⟨y5, rfl, gr5⟩
      have hB5 := Nat.le_trans hB4 gr5.grow.size
      have hO5 := gr5.own
      go_wp2_with (fail)
      have gA := (((gr1.trans gr2).trans gr3).trans gr4).trans gr5
      have HBA := Bas.hid (gA.below HB.out HB.out.size (fun g hg => by cases hg))
      have HOWA := Bas.hid (Row.owned_keep HOW.out fun g hg => gA.grow.block g (Row.own_block HOW.out hg).2 (fun e => by cases e))
      have HROW : Hid (u5.ownsRow w.heap.size 5 1 y5 (headM n q B).length ((headM n q B).map (Value.int .u8))) := by
        have h := gA.own
        simp only [List.nil_append] at h
        exact h
      clear gA gr1 gr2 gr3 gr4 gr5 hO0 hO1 hO2 hO3 hO4 hO5 hB0 hB1 hB2 hB3 hB4 hB5 HOW HB HLEN z1 z2 z3 z4
      have HATB : Hid (∀ i, i ≤ n → atM P i ≤ 1000000) := fun i hi => Nat.le_trans (atM_mono P (by rw [HPN.out]; exact hi)) HTOT.out
      have HDL : Hid (∀ p ∈ P, p.data.length ≤ 1000000) := fun p hp => Nat.le_trans (atM_data P p hp) HTOT.out
      have HH : Hid ((headM n q B).length = 12) := headM_len _ _ _
      have HP16 : Hid (∀ i, i ≤ n → (headM n q B ++ rowsM (12 + 16 * n) (P.take i)).length = 12 + 16 * i) := by
        intro i hi
        rw [List.length_append, HH.out, rowsM_len _ (fun p hp => HTS.out p (List.mem_of_mem_take hp)), List.length_take, HPN.out, Nat.min_eq_left hi]
      have HAT0 : Hid (atM P 0 = 12 + 16 * n) := by unfold Hid atM; rw [HPN.out]; simp
      go_loopw [8, 9, 76] (fun vb va vi wr => ∃ (i : Nat) (vB : Value), i ≤ n ∧ vi = .int .i64 i ∧ va = .int .i64 (atM P i : Nat) ∧ vb = vB ∧ wr.ownsRow w.heap.size 5 1 vB (headM n q B ++ rowsM (12 + 16 * n) (P.take i)).length ((headM n q B ++ rowsM (12 + 16 * n) (P.take i)).map (Value.int .u8)) ∧
        wr.ownsRow w.heap.size 37 2 (.slice (some ⟨G, 0, none⟩) n cp) n (Q.flatMap pC) ∧ Below w.heap.size w wr) (fun _ _ vi _ => n - (intOf vi).toNat)
      case atStart => exact ⟨0, _, Nat.zero_le _, rfl, by rw [HAT0.out]; go_num, rfl, by simpa [rowsM] using HROW.out, HOWA.out, HBA.out⟩
      case round =>
        obtain ⟨i, vB, hi, rfl, rfl, rfl, hrow, how, hb⟩ := hrel
        have HRW := Bas.hid hrow
        have HOW := Bas.hid how
        have HB := Bas.hid hb
        obtain ⟨bb, hbb⟩ : ∃ bb, headM n q B ++ rowsM (12 + 16 * n) (P.take i) = bb := ⟨_, rfl⟩
        have hbl : bb.length = 12 + 16 * i := by rw [← hbb]; exact HP16.out i hi
        have HBBE := Bas.hid hbb
        rw [hbb] at HRW
        obtain ⟨adB, cpB, hvB⟩ := own_slice HRW.out
        subst hvB
        clear hrow how hb hbb HROW HOWA HBA
        by_cases hik : i < n
        · have e1 : decide ((i : Int) < (n : Int)) = true := by simp; omega
          have e2 : decide (i < n) = true := by simp; omega
          obtain ⟨⟨⟨ct, cd⟩, cv⟩, hx⟩ : ∃ x, Q[i]? = some x := ⟨_, List.getElem?_eq_getElem (by rw [HQL.out]; exact hik)⟩
          obtain ⟨hld, hdb⟩ := HQV.out i _ hx
          have hln1 : cd.length ≤ 1000000 := HDL.out ⟨ct, cd⟩ (by rw [HQP.out]; exact List.mem_map_of_mem (List.mem_of_getElem? hx))
          obtain ⟨ar, cr, hcv⟩ := Row.leads_slice hld
          simp only at hld hdb hcv
          subst hcv
          have hPi : P[i]? = some ⟨ct, cd⟩ := by rw [HQP.out, List.getElem?_map, hx]; rfl
          have hct : ct.size = 4 := HTS.out ⟨ct, cd⟩ (List.mem_of_getElem? hPi)
          obtain ⟨G', C, hv3, -, -, -, hcl⟩ := Row.elem_cells pC_len HOW.out hx (by omega) (by rw [HQL.out])
          cases hv3
          have q0 : wr.cell? ⟨G, i * 2, none⟩ = some (.string ct) := hcl 0 _ rfl
          have q1 : wr.cell? ⟨G, i * 2 + 1, none⟩ = some (.slice ar cd.length cr) := hcl 1 _ rfl
          have HCT := Bas.hid hct
          clear hct hcl
          go_wp2_with (at_builtin; refine Row.fence ?_)
          refine Row.unfence ?_
          have hbC := (Below.refl wr.heap.size wr).alloc (Nat.le_refl _) (.cells #[.string ct, .slice ar cd.length cr] 37)
          have kC := Bas.heap_new wr (.cells #[.string ct, .slice ar cd.length cr] 37)
          have HRWC := Bas.hid (Row.owned_below HRW.out hbC)
          have HOWC := Bas.hid (Row.owned_below HOW.out hbC)
          have HBC := Bas.hid (Bas.on HB.out hbC)
          have hTB : w.heap.size ≤ wr.heap.size := HB.out.size
          generalize wr.alloc (.cells #[.string ct, .slice ar cd.length cr] 37) = wC at *
          generalize wr.heap.size = T at *
          have hctt := HCT.out
          obtain ⟨i8, hi8, hz1', hz2', hz3'⟩ := info_parts info8
          refine Lib.wpList_append_own_string _ rfl _ _ 22 9 rfl w.heap.size 5 i8 Try.underlying22 Try.underlying9 hi8 hz1' hz2' hz3' (.slice adB bb.length cpB) bb.length _ rfl HRWC.out ct rfl (by unfold maxLen; omega) (by omega) HBC.out.size ?_
          intro vA wA hA1 hA2 _
          have hOA : wA.ownsRow w.heap.size 5 1 vA (bb ++ tagB ct).length ((bb ++ tagB ct).map (Value.int .u8)) := by
            have e : Lib.strCells ct = (tagB ct).map (Value.int .u8) := by simp [Lib.strCells, tagB]
            rw [List.map_append, List.length_append, tagB_len, ← e]
            exact hA1
          have HBA := Bas.hid (HBC.out.grown hA2 HBC.out.size (fun g hg => (Row.own_block HRWC.out hg).1))
          have HOWA := Bas.hid (Row.owned_keep HOWC.out fun g hg => hA2.block g (Row.own_block HOWC.out hg).2 (fun e => own_apart HOWC.out HRWC.out (by decide) g hg e.symm))
          have kA := (hA2.block T (heap_lt kC) (fun e => own_ty HRWC.out kC (by decide) e.symm)).trans kC
          have hneT : vA.ownBlock ≠ some T := own_ty hOA kA (by decide)
          have lTA := heap_lt kA
          have q1A := cell_of_heap (i := 1) (v := .slice ar cd.length cr) kA rfl
          have hbaseA := HBA.out.size
          have hVD : VB wA.drew ar cd := by
            have h := (vb_of_leads hld hdb rfl (by omega)).below HBA.out
            exact ⟨h.len, h.byte, h.cell⟩
          have hsumb := sumTo_bd cd ((cd.length + 3) / 4)
          have hsumE : sumTo cd ((cd.length + 3) / 4) = sumL cd := rfl
          rw [hsumE] at hsumb
          have hatb := HATB.out i hi
          have hbAl : (bb ++ tagB ct).length ≤ 2000 := by rw [List.length_append, tagB_len, hbl, hctt]; omega
          obtain ⟨bA, hbA⟩ : ∃ l, bb ++ tagB ct = l := ⟨_, rfl⟩
          have HBAE := Bas.hid hbA
          rw [hbA] at hbAl hOA
          have HKA := Bas.hid kA
          clear hbA hA1 hA2 HRWC HOWC HBC hbC kC HRW HOW HB q0 q1 hctt hsumE kA hz1' hz2' hz3' hi8
          obtain ⟨adA, cpA, hvA⟩ := own_slice hOA
          subst hvA
          go_wp2_with (fail)
          obtain ⟨sm, hsm⟩ : ∃ sm, sumL cd = sm := ⟨_, rfl⟩
          obtain ⟨ln, hln⟩ : ∃ ln, cd.length = ln := ⟨_, rfl⟩
          obtain ⟨am, ham⟩ : ∃ am, atM P i = am := ⟨_, rfl⟩
          have HSUM := Bas.hid (ssum_any ar cd.length cr cd wA.drew hVD rfl (by omega))
          rw [sumS_eq hdb, hsm] at HSUM
          rw [hsm] at hsumb
          rw [hln] at q1A HSUM hln1 HKA
          rw [ham] at hatb ⊢
          have d := Row.owned_keep hOA (w' := wA.drew) (fun _ _ => rfl)
          obtain ⟨I, F, i0, F0, Fg, Fw, Fb⟩ := Pl.fam_g wA (Value.slice adA bA.length cpA).ownBlock
          have cc1 := fun j => (Bas.gcell (Fb j) (b := T) (o := 1) lTA hneT).trans q1A
          have FH := Bas.hid F0
          have hI : Nonempty I := ⟨i0⟩
          have FW := Bas.hid Fw
          clear F0 Fw Fg Fb hVD
          refine Pl.region_plan0 i0 [(true, 0), (true, 1), (true, 2), (true, 5), (true, 7), (true, 8), (true, 9), (false, 3), (false, 4), (false, 6), (false, 10), (false, 11)] [10, 11] (by kernel_rfl) (by kernel_rfl) (fun _ _ _ _ e h => ⟨e ▸ h.1, h.2⟩) FH.out ?_
          refine Pl.head_sel0 [(true, 0), (true, 1), (true, 2), (true, 5), (true, 7), (true, 8), (true, 9)] (by kernel_rfl) (by kernel_rfl) ?_
          simp only [Pl.sel, List.drop_succ_cons, List.drop_zero]
          repeat (go_big_quiet_step (fail))
          refine wpQuiet_nil ?_
          rw [← FH.out]
          clear cc1 FH
          refine Pl.one_sel (by kernel_rfl) ?_
          intro Q' hQ' hP'
          simp only [Pl.sel, List.drop_succ_cons, List.drop_zero]
          go_wp2_with (fail)
          refine HSUM.out.mono ?_
          rintro e x ⟨rfl, rfl⟩
          go_wp2_with (fail)
          refine hQ' _ _ (fun _ _ => FW.out _ (Bas.gdrew (Bas.grefl _ _))) ?_
          clear hQ' hP' Q' HSUM
          refine Pl.one_sel (by kernel_rfl) ?_
          intro Q' hQ' hP'
          simp only [Pl.sel, List.drop_succ_cons, List.drop_zero]
          go_wp2_with (fail)
          refine (sput_any sm 4 w.heap.size _ _ wA.drew (by omega) (by omega) (by omega) (by first | omega | (simp only [List.length_append, putB_len]; omega)) hbaseA d).mono ?_
          rintro e x1 ⟨z1, rfl, g1⟩
          have gg := Bas.gtrans (Bas.gdrew (Bas.grefl wA _)) g1.grow
          go_wp2_with (fail)
          refine hQ' _ _ (fun _ _ => FW.out _ gg) ?_
          clear hQ' hP' Q' gg
          refine Pl.one_sel (by kernel_rfl) ?_
          intro Q' hQ' hP'
          simp only [Pl.sel, List.drop_succ_cons, List.drop_zero]
          go_wp2_with (fail)
          refine (sput_any (am : Int) 4 w.heap.size _ _ x1 (by omega) (by omega) (by omega) (by first | omega | (simp only [List.length_append, putB_len]; omega)) (Nat.le_trans hbaseA g1.grow.size) g1.own).mono ?_
          rintro e x2 ⟨z2, rfl, g2⟩
          have g12 := g1.trans g2
          have gg := Bas.gtrans (Bas.gdrew (Bas.grefl wA _)) g12.grow
          go_wp2_with (fail)
          refine hQ' _ _ (fun _ _ => FW.out _ gg) ?_
          clear hQ' hP' Q' gg FW g1
          refine Pl.tail_sel [(false, 10), (false, 11)] (by kernel_rfl) (by kernel_rfl) ?_
          simp only [Pl.sel, List.drop_succ_cons, List.drop_zero]
          go_wp2_with (fail)
          refine (sput_any (ln : Int) 4 w.heap.size _ _ x2 (by omega) (by omega) (by omega) (by first | omega | (simp only [List.length_append, putB_len]; omega)) (Nat.le_trans hbaseA g12.grow.size) g12.own).mono ?_
          rintro e x3 ⟨z3, rfl, g3⟩
          have g13 := g12.trans g3
          have hOW3 := Row.owned_keep (w' := x3) HOWA.out fun g hg => (g13.grow.block g (Row.own_block HOWA.out hg).2 (fun e => own_apart HOWA.out hOA (by decide) g hg e.symm))
          have HB3 := Bas.hid ((g13.below (w := wA.drew) (HBA.out.drew) hbaseA (fun g hg => (Row.own_block hOA hg).1)))
          have HROW3 := Bas.hid g13.own
          have HOW3 := Bas.hid hOW3
          have q1D := cell_of_heap (i := 1) (v := .slice ar ln cr) ((g13.grow.block T (w := wA.drew) lTA (fun e => hneT e.symm)).trans HKA.out) rfl
          clear g2 g3 g12 g13 hOW3 d HBA HOWA q1A HKA
          go_wp2_with (fail)
          have HAS : Hid (atM P (i + 1) = am + pad4 ln) := by unfold Hid; rw [atM_succ P i _ hPi, ham, hln]
          have HBY3 : Hid (headM n q B ++ rowsM (12 + 16 * n) (P.take (i + 1)) = bA ++ putB sm 4 ++ putB (am : Int) 4 ++ putB (ln : Int) 4) := by
            have h := rowsM_take P i _ hPi
            rw [HPN.out] at h
            unfold Hid
            rw [h, ← List.append_assoc, HBBE.out, ← HBAE.out, rowM]
            simp only [hsm, ham, hln, List.append_assoc]
          go_roundw
          case rel => exact ⟨i + 1, z3, by omega, by go_num, by rw [HAS.out]; unfold pad4; go_num, rfl, by rw [HBY3.out]; exact HROW3.out, HOW3.out, HB3.out⟩
          case measure => simp [intOf]; omega
        · obtain rfl : n = i := by omega
          have e1 : decide ((n : Int) < (n : Int)) = false := by simp
          have HBB0 : Hid (bb = headM n q B ++ rowsM (12 + 16 * n) P) := by
            unfold Hid
            rw [← HBBE.out, List.take_of_length_le (by rw [HPN.out]; exact Nat.le_refl _)]
          go_wp2_with (fail)
          obtain ⟨wp, hwp⟩ : ∃ wo : World, wo = wr := ⟨_, rfl⟩
          rw [← hwp] at HRW HOW HB
          rw [← hwp]
          clear hwp
          have HRW0 : Hid (wp.ownsRow w.heap.size 5 1 (.slice adB bb.length cpB) (bb ++ (P.take 0).flatMap bodyM).length ((bb ++ (P.take 0).flatMap bodyM).map (Value.int .u8))) := by
            have h := HRW.out
            unfold Hid
            simpa using h
          have HLB : Hid (∀ j, j ≤ n → (bb ++ (P.take j).flatMap bodyM).length = atM P j) := by
            intro j hj
            rw [List.length_append, hbl, atM, HPN.out]
          have HLM : Hid (∀ j, atM P j % 4 = 0) := by
            intro j
            unfold atM
            have h4 : ∀ l : List PartD, (l.flatMap bodyM).length % 4 = 0 := by
              intro l
              induction l with
              | nil => rfl
              | cons p l ih =>
                have := pad4_le p.data.length
                rw [List.flatMap_cons, List.length_append, bodyM_len]; omega
            have := h4 (P.take j)
            omega
          clear HRW
          go_loopw [8, 106] (fun vb vi wr => ∃ (j : Nat) (vB : Value), j ≤ n ∧ vi = .int .i64 j ∧ vb = vB ∧ wr.ownsRow w.heap.size 5 1 vB (bb ++ (P.take j).flatMap bodyM).length ((bb ++ (P.take j).flatMap bodyM).map (Value.int .u8)) ∧
            wr.ownsRow w.heap.size 37 2 (.slice (some ⟨G, 0, none⟩) n cp) n (Q.flatMap pC) ∧ Below w.heap.size w wr) (fun _ vi _ => n - (intOf vi).toNat)
          case atStart => exact ⟨0, _, Nat.zero_le _, rfl, rfl, HRW0.out, HOW.out, HB.out⟩
          case round =>
            obtain ⟨j, vB, hj, rfl, rfl, hrow, how, hb⟩ := hrel
            have HRW := Bas.hid hrow
            have HOW := Bas.hid how
            have HB := Bas.hid hb
            obtain ⟨b2, hb2⟩ : ∃ b, bb ++ (P.take j).flatMap bodyM = b := ⟨_, rfl⟩
            have hb2l : b2.length = atM P j := by rw [← hb2]; exact HLB.out j hj
            have HB2E := Bas.hid hb2
            rw [hb2] at HRW
            obtain ⟨ad2, cp2, hv2⟩ := own_slice HRW.out
            subst hv2
            have hat2 := HATB.out j hj
            clear hrow how hb hb2 HRW0
            by_cases hjk : j < n
            · have e1 : decide ((j : Int) < (n : Int)) = true := by simp; omega
              have e2 : decide (j < n) = true := by simp; omega
              obtain ⟨⟨⟨ct, cd⟩, cv⟩, hx⟩ : ∃ x, Q[j]? = some x := ⟨_, List.getElem?_eq_getElem (by rw [HQL.out]; exact hjk)⟩
              obtain ⟨hld, hdb⟩ := HQV.out j _ hx
              obtain ⟨ar, cr, hcv⟩ := Row.leads_slice hld
              simp only at hld hdb hcv
              subst hcv
              have hPi : P[j]? = some ⟨ct, cd⟩ := by rw [HQP.out, List.getElem?_map, hx]; rfl
              have hln1 : cd.length ≤ 1000000 := HDL.out ⟨ct, cd⟩ (List.mem_of_getElem? hPi)
              obtain ⟨G', C, hv3, -, -, -, hcl⟩ := Row.elem_cells pC_len HOW.out hx (by omega) (by rw [HQL.out])
              cases hv3
              have q0 : wr.cell? ⟨G, j * 2, none⟩ = some (.string ct) := hcl 0 _ rfl
              have q1 : wr.cell? ⟨G, j * 2 + 1, none⟩ = some (.slice ar cd.length cr) := hcl 1 _ rfl
              have HPT := Bas.hid (Row.take_flat bodyM P j _ hPi)
              have hb2le : b2.length ≤ 1000000 := by omega
              have HB2L := Bas.hid hb2l
              clear hcl hb2l
              go_wp2_with (at_builtin; refine Row.fence ?_)
              refine Row.unfence ?_
              have hbC := (Below.refl wr.heap.size wr).alloc (Nat.le_refl _) (.cells #[.string ct, .slice ar cd.length cr] 37)
              have HRWC := Bas.hid (Row.owned_below HRW.out hbC)
              have HOWC := Bas.hid (Row.owned_below HOW.out hbC)
              have HBC := Bas.hid (Bas.on HB.out hbC)
              generalize wr.alloc (.cells #[.string ct, .slice ar cd.length cr] 37) = wC at *
              have hldw := Row.leads_below hld HBC.out
              refine (Row.append_at rfl _ _ 22 5 rfl (.int .u8 0) 1 1 Try.underlying22 info8 rfl (by decide) w.heap.size (.slice ad2 b2.length cp2) b2.length _ rfl HRWC.out (.slice ar cd.length cr) cd.length (cd.map (Value.int .u8)) rfl (u8_flat cd ▸ hldw) (by rw [List.length_map]; omega) (by simp; intros; rfl) (by unfold maxLen; omega) (by omega) HBC.out.size ?_)
              intro vA wA hA1 hA2 _ hA3
              have gA : Grown wC w.heap.size (.slice ad2 b2.length cp2) (b2 ++ cd) vA wA := ⟨by simpa only [List.map_append, List.length_append] using hA1, hA2, hA3.imp id fun h => ⟨_, h, Nat.le_refl _⟩⟩
              have HBA := Bas.hid (gA.below HBC.out HBC.out.size (fun g hg => (Row.own_block HRWC.out hg).1))
              have HOWA := Bas.hid (Row.owned_keep HOWC.out fun g hg => gA.grow.block g (Row.own_block HOWC.out hg).2 (fun e => own_apart HOWC.out HRWC.out (by decide) g hg e.symm))
              have HROWA : Hid (wA.ownsRow w.heap.size 5 1 vA (b2 ++ cd ++ List.replicate 0 0).length ((b2 ++ cd ++ List.replicate 0 0).map (Value.int .u8))) := by
                have h := gA.own
                unfold Hid
                simpa using h
              clear hA1 hA2 hA3 gA HRW HOW HB HRWC HOWC HBC hbC q0 q1 hldw hld
              go_wp2_with (fail)
              obtain ⟨pd, hpd⟩ : ∃ pd, pad4 cd.length - cd.length = pd := ⟨_, rfl⟩
              have hp4 := pad4_le cd.length
              have hm4 := HLM.out j
              have HPD4 := Bas.hid hpd
              go_loopw [8] (fun vb wr => ∃ (t : Nat) (vT : Value), t ≤ pd ∧ vb = vT ∧ wr.ownsRow w.heap.size 5 1 vT (b2 ++ cd ++ List.replicate t 0).length ((b2 ++ cd ++ List.replicate t 0).map (Value.int .u8)) ∧
                wr.ownsRow w.heap.size 37 2 (.slice (some ⟨G, 0, none⟩) n cp) n (Q.flatMap pC) ∧ Below w.heap.size w wr) (fun vb _ => match vb with | .slice _ l _ => atM P j + cd.length + pd - l | _ => 0)
              case atStart => exact ⟨0, _, Nat.zero_le _, rfl, HROWA.out, HOWA.out, HBA.out⟩
              case round =>
                obtain ⟨t, vT, htp, rfl, hrow, how, hb⟩ := hrel
                have HRT := Bas.hid hrow
                have HOW := Bas.hid how
                have HB := Bas.hid hb
                obtain ⟨bt, hbt⟩ : ∃ b, b2 ++ cd ++ List.replicate t 0 = b := ⟨_, rfl⟩
                have hbtl : bt.length = atM P j + cd.length + t := by rw [← hbt, List.length_append, List.length_append, HB2L.out, List.length_replicate]
                have HBTE := Bas.hid hbt
                rw [hbt] at HRT
                obtain ⟨adT, cpT, hvT⟩ := own_slice HRT.out
                subst hvT
                have HBTL := Bas.hid hbtl
                obtain ⟨lt, hlt⟩ : ∃ l, bt.length = l := ⟨_, rfl⟩
                have HLT := Bas.hid hlt
                rw [hlt] at hbtl
                rw [hlt]
                clear hrow how hb hbt hlt HROWA HOWA HBA
                by_cases htd : t < pd
                · have hmod : 0 < lt % 4 := by omega
                  have r1 : decide ((0 : Int) < (lt : Int) % 4) = true := by simp; omega
                  have r2 : decide (0 < lt % 4) = true := by simpa using hmod
                  have r3 : decide ((0 : Int) < Int.tmod (lt : Int) 4) = true := by rw [Int.tmod_eq_emod_of_nonneg (by omega)]; exact r1
                  have hltb : lt ≤ 3000000 := by omega
                  clear hbtl
                  go_wp2_with (at_builtin; refine Row.fence ?_)
                  refine Row.unfence ?_
                  have hb3 := (Below.refl wr.heap.size wr).alloc (Nat.le_refl _) (.cells #[.int .u8 0] 5)
                  have k3 := Bas.heap_new wr (.cells #[.int .u8 0] 5)
                  have HR3 := Bas.hid (Row.owned_below HRT.out hb3)
                  have HOW3 := Bas.hid (Row.owned_below HOW.out hb3)
                  have HB3 := Bas.hid (Bas.on HB.out hb3)
                  generalize wr.alloc (.cells #[.int .u8 0] 5) = W3 at *
                  have hltE := HLT.out
                  refine (Row.append_at rfl _ _ 22 5 rfl (.int .u8 0) 1 1 Try.underlying22 info8 rfl (by decide) w.heap.size (.slice adT lt cpT) lt _ rfl (hltE ▸ HR3.out) (.slice (some ⟨wr.heap.size, 0, none⟩) 1 1) 1 [.int .u8 0] rfl (leads_heap k3) rfl (by simp; rfl) (by unfold maxLen; omega) (by omega) HB3.out.size ?_)
                  intro vU wU hU1 hU2 _ hU3
                  have gU : Grown W3 w.heap.size (.slice adT lt cpT) (bt ++ [0]) vU wU := ⟨by rw [List.map_append, List.length_append, hltE]; exact hU1, hU2, hU3.imp id fun h => ⟨_, h, Nat.le_refl _⟩⟩
                  have HBU := Bas.hid (gU.below HB3.out HB3.out.size (fun g hg => (Row.own_block (hltE ▸ HR3.out) hg).1))
                  have HOWU := Bas.hid (Row.owned_keep HOW3.out fun g hg => gU.grow.block g (Row.own_block HOW3.out hg).2 (fun e => own_apart HOW3.out HR3.out (by decide) g hg (by rw [hltE]; exact e.symm)))
                  have HRU : Hid (wU.ownsRow w.heap.size 5 1 vU (b2 ++ cd ++ List.replicate (t + 1) 0).length ((b2 ++ cd ++ List.replicate (t + 1) 0).map (Value.int .u8))) := by
                    have e : b2 ++ cd ++ List.replicate (t + 1) 0 = bt ++ [0] := by rw [← HBTE.out, List.replicate_succ', ← List.append_assoc]
                    unfold Hid
                    rw [e]
                    exact gU.own
                  have hUl : (bt ++ [0]).length = lt + 1 := by rw [List.length_append, hltE]; rfl
                  obtain ⟨adU, cpU, hvU⟩ := own_slice gU.own
                  rw [hUl] at hvU
                  subst hvU
                  have HTL := HBTL.out
                  clear hU1 hU2 hU3 gU HR3 HOW3 HB3 HRT HOW HB k3 hb3 hUl
                  go_wp2_with (fail)
                  go_roundw
                  case rel => exact ⟨t + 1, _, by omega, rfl, HRU.out, HOWU.out, HBU.out⟩
                  case measure => simp; omega
                · have htd2 : t = pd := by omega
                  have hmod : lt % 4 = 0 := by omega
                  have r1 : decide ((0 : Int) < (lt : Int) % 4) = false := by simp; omega
                  have r2 : decide (0 < lt % 4) = false := by simp; omega
                  have r3 : decide ((0 : Int) < Int.tmod (lt : Int) 4) = false := by rw [Int.tmod_eq_emod_of_nonneg (by omega)]; exact r1
                  have HNX : Hid (bb ++ (P.take (j + 1)).flatMap bodyM = bt) := by
                    unfold Hid
                    rw [HPT.out, ← List.append_assoc, HB2E.out, bodyM, ← List.append_assoc, ← HBTE.out, htd2, ← HPD4.out]
                  clear hmod hbtl htd2
                  go_wp2_with (fail)
                  go_roundw
                  case rel => exact ⟨j + 1, _, by omega, by go_num, rfl, by rw [HNX.out, HLT.out]; exact HLT.out ▸ HRT.out, HOW.out, HB.out⟩
                  case measure => simp [intOf]; omega
            · obtain rfl : n = j := by omega
              have e1 : decide ((n : Int) < (n : Int)) = false := by simp
              go_wp2_with (fail)
              go_ret
              refine ⟨E, ys, HYS.out, HSR.out, HPM.out, HB.out, .inl ⟨HOKE.out, _, rfl, ?_⟩⟩
              rw [HPD.out, HNE.out, HMO.out]
              have e : makeM P q B = b2 := by
                rw [makeM, HPN.out, ← HB2E.out, HBB0.out, List.take_of_length_le (by rw [HPN.out]; exact Nat.le_refl _)]
              rw [e]
              exact HRW.out
end Sy
end Go.Proofs.Ytkmbeohheblhhaa
