/- Layer 3: fonts of three tables; what is read of them. -/
import Derived.Test.YtkmbeohheblhhaaFontRead
namespace Go.Proofs.Ytkmbeohheblhhaa
open Go.RowKit
namespace Fo
open Vw Wr

/-- Make, of parts in a known order: a font. -/
theorem make_font (v : Value) (L : List PartD) (O : List Nat) (w : World) (hin : PParts w v L) (hL0 : 0 < L.length) (hL : L.length ≤ 100) (hO : O.length = L.length) (hord : ordered (L.map PartD.tag) ⟨#[]⟩ true O) (P : List PartD) (hP : P = O.map fun i => L.getD i default)
    (htot : atM P P.length ≤ 1000000) (hby : ∀ p ∈ L, ∀ x ∈ p.data, 0 ≤ x ∧ x ≤ 255) (hri : ∀ (i j : Nat) p q, i < j → P[i]? = some p → P[j]? = some q → ltS p.tag q.tag = true) :
    Calls Try.prog 8 #[v] w fun e w' => ∃ g cap bs, e = .returned (.slice (some ⟨g, 0, none⟩) bs.length cap) ∧ bs.length ≤ cap ∧ cap ≤ maxLen ∧ VB w' (some ⟨g, 0, none⟩) bs ∧ IsFont bs P ∧ w'.ownsRow w.heap.size 5 1 (.slice (some ⟨g, 0, none⟩) bs.length cap) bs.length (bs.map (Value.int .u8)) ∧ Below w.heap.size w w' := by
  refine (make_any v L O w hin hL0 hL hO hord P hP htot hby).mono ?_
  rintro e w' ⟨near, most, v', rfl, hown, hb⟩
  have hPl : P.length = L.length := by rw [hP, List.length_map, hO]
  have hsz : ∀ p ∈ P, p.tag.size = 4 := by
    intro p hp
    rw [hP] at hp
    obtain ⟨i, hi, rfl⟩ := List.mem_map.1 hp
    exact ordered_size L O _ _ hord i hi
  have hbyP : ∀ p ∈ P, ∀ x ∈ p.data, 0 ≤ x ∧ x ≤ 255 := by
    intro p hp x hx
    rw [hP] at hp
    obtain ⟨i, hi, rfl⟩ := List.mem_map.1 hp
    rw [List.getD_eq_getElem?_getD] at hx
    cases hi2 : L[i]? with
    | none => rw [hi2] at hx; cases hx
    | some q =>
      rw [hi2] at hx
      exact hby q (List.mem_of_getElem? hi2) x hx
  have hF := makeM_font P near most (by omega) hsz hbyP htot hri
  have hl := hF.len
  obtain ⟨g, cap, rfl, h1, h2, h3⟩ := written hown (by omega) hF.byte (by have := hF.few; omega)
  exact ⟨g, cap, _, rfl, h1, h2, h3, hF, hown, hb⟩

theorem own3_parts {w : World} {base G : Nat} {t0 t1 t2 : ByteArray} {r0 r1 r2 : Value} {d0 d1 d2 : List Int} (h : Own3 w base G t0 t1 t2 r0 r1 r2 d0 d1 d2) : PParts w (.slice (some ⟨G, 0, none⟩) 3 3) [⟨t0, d0⟩, ⟨t1, d1⟩, ⟨t2, d2⟩] := by
  obtain ⟨_, hk, h0, h1, h2, _⟩ := h
  refine ⟨[r0, r1, r2], rfl, leads_heap hk, fun i c r hc hr => ?_⟩
  match i, hc, hr with
  | 0, hc, hr => cases hc; cases hr; rw [u8_flat]; exact Row.leads_owned h0
  | 1, hc, hr => cases hc; cases hr; rw [u8_flat]; exact Row.leads_owned h1
  | 2, hc, hr => cases hc; cases hr; rw [u8_flat]; exact Row.leads_owned h2
  | j + 3, hc, hr => simp at hc

theorem maxpL_len (g : Int) : (maxpL g).length = 6 := by simp [maxpL, putB_len]
theorem headL_len (u : Int) : (headL u).length = 54 := by simp [headL, putB_len, zs_len]
theorem hheaL_len (m : Int) : (hheaL m).length = 36 := by simp [hheaL, putB_len, zs_len]
theorem zs_byte (n : Nat) : ∀ x ∈ zs n, 0 ≤ x ∧ x ≤ 255 := fun x hx => by have := List.eq_of_mem_replicate hx; omega
theorem maxpL_byte (g : Int) : ∀ x ∈ maxpL g, 0 ≤ x ∧ x ≤ 255 := by
  intro x hx
  rcases List.mem_append.1 hx with hx | hx <;> exact putB_byte _ _ x hx
theorem headL_byte (u : Int) : ∀ x ∈ headL u, 0 ≤ x ∧ x ≤ 255 := by
  intro x hx
  simp only [headL, List.mem_append] at hx
  rcases hx with (((hx | hx) | hx) | hx) | hx
  · exact zs_byte _ x hx
  · exact putB_byte _ _ x hx
  · simp at hx; omega
  · exact putB_byte _ _ x hx
  · exact zs_byte _ x hx
theorem hheaL_byte (m : Int) : ∀ x ∈ hheaL m, 0 ≤ x ∧ x ≤ 255 := by
  intro x hx
  rcases List.mem_append.1 hx with hx | hx
  · exact zs_byte _ x hx
  · exact putB_byte _ _ x hx
theorem maxp_kind (g : Int) : be (maxpL g) 0 4 = 65536 := be_mid [] (putB g 2) 65536 4 0 rfl (by omega) (by rw [p256_4]; omega)
theorem maxp_g (g : Int) (h : 0 ≤ g ∧ g ≤ 65535) : be (maxpL g) 4 2 = g := by
  have e : maxpL g = putB 65536 4 ++ (putB g 2 ++ []) := by simp [maxpL]
  rw [e]; exact be_mid _ _ _ 2 4 (by simp [putB_len]) h.1 (by rw [p256_2]; omega)
theorem head_kind (u : Int) : be (headL u) 12 4 = 1594834165 := by
  have e : headL u = zs 12 ++ (putB 1594834165 4 ++ ([0, 0] ++ putB u 2 ++ zs 34)) := by simp [headL]
  rw [e]; exact be_mid _ _ _ 4 12 (by simp [zs_len]) (by omega) (by rw [p256_4]; omega)
theorem head_u (u : Int) (h : 0 ≤ u ∧ u ≤ 65535) : be (headL u) 18 2 = u := by
  have e : headL u = (zs 12 ++ putB 1594834165 4 ++ [0, 0]) ++ (putB u 2 ++ zs 34) := by simp [headL]
  rw [e]; exact be_mid _ _ _ 2 18 (by simp [zs_len, putB_len]) h.1 (by rw [p256_2]; omega)
theorem hhea_m (m : Int) (h : 0 ≤ m ∧ m ≤ 65535) : be (hheaL m) 34 2 = m := by
  have e : hheaL m = zs 34 ++ (putB m 2 ++ []) := by simp [hheaL]
  rw [e]; exact be_mid _ _ _ 2 34 (by simp [zs_len]) h.1 (by rw [p256_2]; omega)

theorem bl_data (a b : Array UInt8) : ltS ⟨a⟩ ⟨b⟩ = Op.bytesLess a.toList b.toList := by unfold ltS; rw [toList_eq_data, toList_eq_data]
theorem gt_data (a b : Array UInt8) : gtS ⟨a⟩ ⟨b⟩ = !(Op.bytesLess a.toList b.toList || a.toList == b.toList) := by unfold gtS; rw [toList_eq_data, toList_eq_data]
theorem ord3 : ordered [sMaxp, sHead, sHhea] ⟨#[]⟩ true [1, 2, 0] := by
  refine ⟨?_, by decide, rfl, ?_, by decide, rfl, ?_, by decide, rfl, trivial⟩
  all_goals (simp [leastTo, leastStep, sMaxp, sHead, sHhea, bl_data, gt_data, Op.bytesLess])
end Fo
end Go.Proofs.Ytkmbeohheblhhaa
