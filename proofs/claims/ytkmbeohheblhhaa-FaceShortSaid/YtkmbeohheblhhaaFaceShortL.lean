/- The law FaceShort: parts that are cut, left out, longer. -/
import Derived.Test.YtkmbeohheblhhaaFaceSpeak
import Derived.ArgAppend
namespace Go.Proofs.Ytkmbeohheblhhaa
open Go.RowKit
namespace Fo
open Vw Wr

theorem be_take (bs : List Int) (n i k : Nat) (h : i + k ≤ n) : be (bs.take n) i k = be bs i k := by
  have := be_sub bs 0 n i k h
  simpa using this
theorem be_app (a b : List Int) (i k : Nat) (h : i + k ≤ a.length) : be (a ++ b) i k = be a i k := by
  rw [← be_take (a ++ b) a.length i k h, List.take_left]

/-- The first bytes of a row. -/
theorem leads_cut {w : World} {v : Value} {xs : List Int} {b : Option Addr} {cp n : Nat} (h : Row.Leads w v xs.length (xs.map (Value.int .u8))) (hv : v = .slice b xs.length cp) (hn : n ≤ xs.length) : Row.Leads w (.slice b n cp) (xs.take n).length ((xs.take n).flatMap u8C) := by
  rw [u8_flat, List.length_take, Nat.min_eq_left hn]
  rcases h with ⟨h1, h2, h3⟩ | ⟨ad, c, h1, h2⟩
  · have hx : xs = [] := List.length_eq_zero_iff.1 h2
    subst hx
    rw [hv] at h1; cases h1
    have : n = 0 := by simpa using hn
    subst this
    exact .inl ⟨rfl, rfl, rfl⟩
  · rw [hv] at h1; cases h1
    refine .inr ⟨ad, cp, rfl, fun j u hj => h2 j u ?_⟩
    rw [List.map_take] at hj
    by_cases hjn : j < n
    · rwa [List.getElem?_take_of_lt hjn] at hj
    · rw [List.getElem?_take_eq_none (by omega)] at hj; cases hj

theorem kept_row {w : World} {base G i : Nat} {r : Value} {d : List Int} {v : Value} {cs : Array Value} (hk : w.heap[G]? = some (.cells cs 27 (0, 0))) (h : w.ownsRow base 5 1 r d.length (d.map (Value.int .u8))) : (w.setCell ⟨G, i, none⟩ v).ownsRow base 5 1 r d.length (d.map (Value.int .u8)) :=
  Row.owned_keep h fun g hg => Below.heap_setCell _ _ _ _ (fun e => own_ty h hk (by decide) (hg.trans (congrArg some e)))
theorem kept_leads {w : World} {base G i : Nat} {r : Value} {d : List Int} {v : Value} {cs : Array Value} (hk : w.heap[G]? = some (.cells cs 27 (0, 0))) (h : w.ownsRow base 5 1 r d.length (d.map (Value.int .u8))) : Row.Leads (w.setCell ⟨G, i, none⟩ v) r d.length (d.flatMap u8C) := by
  rw [u8_flat]; exact Row.leads_owned (kept_row hk h)

theorem parts3 {w : World} {G : Nat} {t0 t1 t2 : ByteArray} {r0 r1 r2 : Value} {d0 d1 d2 : List Int} (hk : w.heap[G]? = some (.cells #[.string t0, r0, .string t1, r1, .string t2, r2] 27 (0, 0))) (h0 : Row.Leads w r0 d0.length (d0.flatMap u8C)) (h1 : Row.Leads w r1 d1.length (d1.flatMap u8C)) (h2 : Row.Leads w r2 d2.length (d2.flatMap u8C)) :
    PParts w (.slice (some ⟨G, 0, none⟩) 3 3) [⟨t0, d0⟩, ⟨t1, d1⟩, ⟨t2, d2⟩] := by
  refine ⟨[r0, r1, r2], rfl, leads_heap hk, fun i c r hc hr => ?_⟩
  match i, hc, hr with
  | 0, hc, hr => cases hc; cases hr; exact h0
  | 1, hc, hr => cases hc; cases hr; exact h1
  | 2, hc, hr => cases hc; cases hr; exact h2
  | j + 3, hc, hr => simp at hc

section
variable {w : World} {base G : Nat} {t0 t1 t2 : ByteArray} {r0 r1 r2 : Value} {d0 d1 d2 : List Int} {b : Option Addr} {cp n : Nat}
theorem cut0 (h : Own3 w base G t0 t1 t2 r0 r1 r2 d0 d1 d2) (hv : r0 = .slice b d0.length cp) (hn : n ≤ d0.length) : PParts (w.setCell ⟨G, 1, none⟩ (.slice b n cp)) (.slice (some ⟨G, 0, none⟩) 3 3) [⟨t0, d0.take n⟩, ⟨t1, d1⟩, ⟨t2, d2⟩] :=
  parts3 (heap_set h.2.1 _) (leads_cut (Row.leads_owned (kept_row h.2.1 h.2.2.1)) hv hn) (kept_leads h.2.1 h.2.2.2.1) (kept_leads h.2.1 h.2.2.2.2.1)
theorem cut1 (h : Own3 w base G t0 t1 t2 r0 r1 r2 d0 d1 d2) (hv : r1 = .slice b d1.length cp) (hn : n ≤ d1.length) : PParts (w.setCell ⟨G, 3, none⟩ (.slice b n cp)) (.slice (some ⟨G, 0, none⟩) 3 3) [⟨t0, d0⟩, ⟨t1, d1.take n⟩, ⟨t2, d2⟩] :=
  parts3 (heap_set h.2.1 _) (kept_leads h.2.1 h.2.2.1) (leads_cut (Row.leads_owned (kept_row h.2.1 h.2.2.2.1)) hv hn) (kept_leads h.2.1 h.2.2.2.2.1)
theorem cut2 (h : Own3 w base G t0 t1 t2 r0 r1 r2 d0 d1 d2) (hv : r2 = .slice b d2.length cp) (hn : n ≤ d2.length) : PParts (w.setCell ⟨G, 5, none⟩ (.slice b n cp)) (.slice (some ⟨G, 0, none⟩) 3 3) [⟨t0, d0⟩, ⟨t1, d1⟩, ⟨t2, d2.take n⟩] :=
  parts3 (heap_set h.2.1 _) (kept_leads h.2.1 h.2.2.1) (kept_leads h.2.1 h.2.2.2.1) (leads_cut (Row.leads_owned (kept_row h.2.1 h.2.2.2.2.1)) hv hn)
end

/-- What is read of a plain font that is cut, or longer. -/
theorem face_cut0 (n : Nat) (h : n < 6) : faceL ((maxpL 5).take n) (headL 100) (hheaL 5) = none := by
  unfold faceL; rw [if_neg]; rintro ⟨_, _, h3, _⟩; rw [List.length_take, maxpL_len] at h3; omega
theorem face_cut1 (n : Nat) (h : n < 54) : faceL (maxpL 5) ((headL 100).take n) (hheaL 5) = none := by
  unfold faceL; rw [if_neg]; rintro ⟨h3, _⟩; rw [List.length_take, headL_len] at h3; omega
theorem face_cut2 (n : Nat) (h : n < 36) : faceL (maxpL 5) (headL 100) ((hheaL 5).take n) = none := by
  unfold faceL; rw [if_neg]; rintro ⟨_, h3, _⟩; rw [List.length_take, hheaL_len] at h3; omega
theorem face_5 : faceL (maxpL 5) (headL 100) (hheaL 5) = some (5, 100, 5) := by rw [plain_face 5 100 5 (by omega) (by omega) (by omega), if_pos (by omega)]
theorem face_more (m0 m1 m2 : List Int) : faceL (maxpL 5 ++ m0) (headL 100 ++ m1) (hheaL 5 ++ m2) = some (5, 100, 5) := by
  have h := face_5
  unfold faceL at h ⊢
  rw [be_app _ _ _ _ (by rw [maxpL_len]; omega), be_app _ _ _ _ (by rw [headL_len]; omega), be_app _ _ _ _ (by rw [hheaL_len]; omega)]
  rw [maxp_g 5 (by omega), head_u 100 (by omega), hhea_m 5 (by omega)]
  rw [if_pos]
  simp only [List.length_append, maxpL_len, headL_len, hheaL_len]
  omega

def sMore : ByteArray := ⟨#[109, 111, 114, 101]⟩
theorem ord4 : ordered [sMaxp, sHead, sHhea, sMore] ⟨#[]⟩ true [1, 2, 0, 3] := by
  refine ⟨?_, by decide, rfl, ?_, by decide, rfl, ?_, by decide, rfl, ?_, by decide, rfl, trivial⟩
  all_goals (simp [leastTo, leastStep, sMaxp, sHead, sHhea, sMore, bl_data, gt_data, Op.bytesLess])
theorem rise4 (d0 d1 d2 d3 : List Int) : ∀ (i j : Nat) p q, i < j → [(⟨sHead, d0⟩ : PartD), ⟨sHhea, d1⟩, ⟨sMaxp, d2⟩, ⟨sMore, d3⟩][i]? = some p → [(⟨sHead, d0⟩ : PartD), ⟨sHhea, d1⟩, ⟨sMaxp, d2⟩, ⟨sMore, d3⟩][j]? = some q → ltS p.tag q.tag = true := by
  intro i j p q hij hp hq
  have hj : j < 4 := (List.getElem?_eq_some_iff.1 hq).1
  rcases (by omega : (i = 0 ∧ j = 1) ∨ (i = 0 ∧ j = 2) ∨ (i = 1 ∧ j = 2) ∨ (i = 0 ∧ j = 3) ∨ (i = 1 ∧ j = 3) ∨ (i = 2 ∧ j = 3)) with ⟨rfl, rfl⟩ | ⟨rfl, rfl⟩ | ⟨rfl, rfl⟩ | ⟨rfl, rfl⟩ | ⟨rfl, rfl⟩ | ⟨rfl, rfl⟩
  all_goals (cases hp; cases hq; simp [sHead, sHhea, sMaxp, sMore, bl_data, Op.bytesLess])
theorem at4 (d0 d1 d2 d3 : List Int) (h0 : d0.length ≤ 100000) (h1 : d1.length ≤ 100000) (h2 : d2.length ≤ 100000) (h3 : d3.length ≤ 100000) (t0 t1 t2 t3 : ByteArray) : atM [⟨t0, d0⟩, ⟨t1, d1⟩, ⟨t2, d2⟩, ⟨t3, d3⟩] 4 ≤ 1000000 := by
  have p0 := pad4_le d0.length
  have p1 := pad4_le d1.length
  have p2 := pad4_le d2.length
  have p3 := pad4_le d3.length
  simp only [atM, List.length_cons, List.length_nil, List.take_succ_cons, List.take_zero, List.flatMap_cons, List.flatMap_nil, List.length_append, bodyM_len, List.length_nil]
  omega
theorem at2 (d0 d1 : List Int) (h0 : d0.length ≤ 100000) (h1 : d1.length ≤ 100000) (t0 t1 : ByteArray) : atM [⟨t0, d0⟩, ⟨t1, d1⟩] 2 ≤ 1000000 := by
  have p0 := pad4_le d0.length
  have p1 := pad4_le d1.length
  simp only [atM, List.length_cons, List.length_nil, List.take_succ_cons, List.take_zero, List.flatMap_cons, List.flatMap_nil, List.length_append, bodyM_len, List.length_nil]
  omega
theorem rise2 (p0 p1 : PartD) (h : ltS p0.tag p1.tag = true) : ∀ (i j : Nat) p q, i < j → [p0, p1][i]? = some p → [p0, p1][j]? = some q → ltS p.tag q.tag = true := by
  intro i j p q hij hp hq
  have hj : j < 2 := (List.getElem?_eq_some_iff.1 hq).1
  obtain ⟨rfl, rfl⟩ : i = 0 ∧ j = 1 := by omega
  cases hp; cases hq; exact h

/-- A font was made of parts. -/
def Made (P : List PartD) (v : Value) (u : World) : Prop := ∃ g cap bs, v = .slice (some ⟨g, 0, none⟩) bs.length cap ∧ bs.length ≤ cap ∧ cap ≤ maxLen ∧ VB u (some ⟨g, 0, none⟩) bs ∧ IsFont bs P

/-- Make of two parts, or of four. -/
theorem make2 (v : Value) (p0 p1 : PartD) (q0 q1 : PartD) (O : List Nat) (w : World) (hin : PParts w v [p0, p1]) (hO : ordered [p0.tag, p1.tag] ⟨#[]⟩ true O) (hO2 : O.length = 2) (hP : [q0, q1] = O.map fun i => [p0, p1].getD i default) (h0 : q0.data.length ≤ 100000) (h1 : q1.data.length ≤ 100000)
    (b0 : ∀ x ∈ p0.data, 0 ≤ x ∧ x ≤ 255) (b1 : ∀ x ∈ p1.data, 0 ≤ x ∧ x ≤ 255) (hlt : ltS q0.tag q1.tag = true) :
    Calls Try.prog 8 #[v] w fun e w' => ∃ u, e = .returned u ∧ Below w.heap.size w w' ∧ Made [q0, q1] u w' :=
  (make_font v _ O w hin (by simp) (by simp) (by simpa using hO2) (by simpa using hO) [q0, q1] hP (at2 _ _ h0 h1 _ _) (fun p hp => by
    simp only [List.mem_cons, List.not_mem_nil, or_false] at hp
    rcases hp with rfl | rfl
    · exact b0
    · exact b1) (rise2 q0 q1 hlt)).mono fun e w' ⟨g, cap, bs, he, h1, h2, h3, h4, _, h5⟩ => ⟨_, he, h5, g, cap, bs, rfl, h1, h2, h3, h4⟩
theorem make4 (v : Value) (d0 d1 d2 d3 : List Int) (w : World) (hin : PParts w v [⟨sMaxp, d0⟩, ⟨sHead, d1⟩, ⟨sHhea, d2⟩, ⟨sMore, d3⟩]) (h0 : d0.length ≤ 100000) (h1 : d1.length ≤ 100000) (h2 : d2.length ≤ 100000) (h3 : d3.length ≤ 100000) (b0 : ∀ x ∈ d0, 0 ≤ x ∧ x ≤ 255) (b1 : ∀ x ∈ d1, 0 ≤ x ∧ x ≤ 255) (b2 : ∀ x ∈ d2, 0 ≤ x ∧ x ≤ 255) (b3 : ∀ x ∈ d3, 0 ≤ x ∧ x ≤ 255) :
    Calls Try.prog 8 #[v] w fun e w' => ∃ u, e = .returned u ∧ Below w.heap.size w w' ∧ Made [⟨sHead, d1⟩, ⟨sHhea, d2⟩, ⟨sMaxp, d0⟩, ⟨sMore, d3⟩] u w' :=
  (make_font v _ [1, 2, 0, 3] w hin (by simp) (by simp) rfl ord4 _ rfl (at4 d1 d2 d0 d3 h1 h2 h0 h3 _ _ _ _) (fun p hp => by
    simp only [List.mem_cons, List.not_mem_nil, or_false] at hp
    rcases hp with rfl | rfl | rfl | rfl
    · exact b0
    · exact b1
    · exact b2
    · exact b3) (rise4 d1 d2 d0 d3)).mono fun e w' ⟨g, cap, bs, he, h1, h2, h3, h4, _, h5⟩ => ⟨_, he, h5, g, cap, bs, rfl, h1, h2, h3, h4⟩
theorem ord_1 : ordered [sHead, sHhea] ⟨#[]⟩ true [0, 1] := by
  refine ⟨?_, by decide, rfl, ?_, by decide, rfl, trivial⟩
  all_goals (simp [leastTo, leastStep, sHead, sHhea, bl_data, gt_data, Op.bytesLess])
theorem ord_2 : ordered [sMaxp, sHhea] ⟨#[]⟩ true [1, 0] := by
  refine ⟨?_, by decide, rfl, ?_, by decide, rfl, trivial⟩
  all_goals (simp [leastTo, leastStep, sMaxp, sHhea, bl_data, gt_data, Op.bytesLess])
theorem ord_3 : ordered [sMaxp, sHead] ⟨#[]⟩ true [1, 0] := by
  refine ⟨?_, by decide, rfl, ?_, by decide, rfl, trivial⟩
  all_goals (simp [leastTo, leastStep, sMaxp, sHead, bl_data, gt_data, Op.bytesLess])
theorem lt_1 : ltS sHead sHhea = true := by simp [sHead, sHhea, bl_data, Op.bytesLess]
theorem lt_2 : ltS sHhea sMaxp = true := by simp [sHhea, sMaxp, bl_data, Op.bytesLess]
theorem lt_3 : ltS sHead sMaxp = true := by simp [sHead, sMaxp, bl_data, Op.bytesLess]

/-- A font that lacks a part is none. -/
theorem read_lacks (v : Value) (P : List PartD) (w : World) (h : Made P v w) (hP : P = [⟨sHead, headL 100⟩, ⟨sHhea, hheaL 5⟩] ∨ P = [⟨sHhea, hheaL 5⟩, ⟨sMaxp, maxpL 5⟩] ∨ P = [⟨sHead, headL 100⟩, ⟨sMaxp, maxpL 5⟩]) :
    Calls Try.prog 7 #[v] w fun e w' => e = .returned (.tuple #[.agg #[.int .i64 0, .int .i64 0, .int .i64 0], .int .i64 2]) ∧ Below w.heap.size w w' := by
  obtain ⟨g, cap, bs, rfl, h1, h2, h3, h4⟩ := h
  rcases hP with rfl | rfl | rfl
  · exact (fread_t1 _ cap bs _ w h1 h2 h3 h4 (by simp) (fun p hp => by
      simp only [List.mem_cons, List.not_mem_nil, or_false] at hp
      rcases hp with rfl | rfl <;> simp [sMaxp, sHead, sHhea])).mono fun _ _ ⟨hb, he⟩ => ⟨he, hb⟩
  · exact (fread_t2 _ cap bs _ w h1 h2 h3 h4 1 _ rfl (fun p hp => by
      simp only [List.mem_cons, List.not_mem_nil, or_false] at hp
      rcases hp with rfl | rfl <;> simp [sMaxp, sHead, sHhea])).mono fun _ _ ⟨hb, he⟩ => ⟨he, hb⟩
  · exact (fread_t3 _ cap bs _ w h1 h2 h3 h4 1 0 _ _ rfl rfl (fun p hp => by
      simp only [List.mem_cons, List.not_mem_nil, or_false] at hp
      rcases hp with rfl | rfl <;> simp [sMaxp, sHead, sHhea])).mono fun _ _ ⟨hb, he⟩ => ⟨he, hb⟩
end Fo
end Go.Proofs.Ytkmbeohheblhhaa
