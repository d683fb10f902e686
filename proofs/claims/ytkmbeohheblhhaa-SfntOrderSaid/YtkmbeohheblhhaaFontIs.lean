/- Layer 2: what the reference's Make writes is a font of its parts. -/
import Derived.Test.YtkmbeohheblhhaaFontMk
namespace Go.Proofs.Ytkmbeohheblhhaa
open Go.RowKit
namespace Fo
open Vw Wr

/-- Bytes that are a font of these parts. -/
structure IsFont (b : List Int) (P : List PartD) : Prop where
  byte : ∀ x ∈ b, 0 ≤ x ∧ x ≤ 255
  len : 12 + 16 * P.length ≤ b.length
  few : b.length ≤ 1000000
  kind : be b 0 4 = 65536
  many : be b 4 2 = P.length
  tag : ∀ (i : Nat) p, P[i]? = some p → (b.drop (12 + 16 * i)).take 4 = tagB p.tag
  at' : ∀ (i : Nat) p, P[i]? = some p → be b (12 + 16 * i + 8) 4 = atM P i
  dlen : ∀ (i : Nat) p, P[i]? = some p → be b (12 + 16 * i + 12) 4 = p.data.length
  data : ∀ (i : Nat) p, P[i]? = some p → (b.drop (atM P i)).take p.data.length = p.data ∧ atM P i + p.data.length ≤ b.length
  size : ∀ p ∈ P, p.tag.size = 4
  rise : ∀ (i j : Nat) p q, i < j → P[i]? = some p → P[j]? = some q → ltS p.tag q.tag = true

theorem rowsM_append (l2 : List PartD) : ∀ (l1 : List PartD) (a : Nat), rowsM a (l1 ++ l2) = rowsM a l1 ++ rowsM (a + (l1.flatMap bodyM).length) l2
  | [], a => by simp [rowsM]
  | q :: l, a => by
    rw [List.cons_append, rowsM, rowsM_append l2 l, rowsM, List.append_assoc, List.flatMap_cons, List.length_append, bodyM_len, Nat.add_assoc]
theorem cut_at {α : Type} (l : List α) (i : Nat) (x : α) (h : l[i]? = some x) : l = l.take i ++ x :: l.drop (i + 1) := by
  obtain ⟨hi, rfl⟩ := List.getElem?_eq_some_iff.1 h
  rw [← List.drop_eq_getElem_cons hi, List.take_append_drop]
theorem rows_cut (P : List PartD) (i : Nat) (p : PartD) (h : P[i]? = some p) : ∃ rest, rowsM (12 + 16 * P.length) P = rowsM (12 + 16 * P.length) (P.take i) ++ (rowM (atM P i) p ++ rest) := by
  have h1 := rowsM_append (p :: P.drop (i + 1)) (P.take i) (12 + 16 * P.length)
  rw [← cut_at P i p h] at h1
  exact ⟨_, h1⟩
theorem bodies_cut (P : List PartD) (i : Nat) (p : PartD) (h : P[i]? = some p) : ∃ rest, P.flatMap bodyM = (P.take i).flatMap bodyM ++ (p.data ++ rest) := by
  have h1 : P.flatMap bodyM = (P.take i ++ p :: P.drop (i + 1)).flatMap bodyM := by rw [← cut_at P i p h]
  rw [h1, List.flatMap_append, List.flatMap_cons, bodyM, List.append_assoc]
  exact ⟨_, rfl⟩

theorem tagB_byte (s : ByteArray) : ∀ x ∈ tagB s, 0 ≤ x ∧ x ≤ 255 := by
  intro x hx
  obtain ⟨y, _, rfl⟩ := List.mem_map.1 hx
  have := y.toNat_lt
  omega
theorem bodyM_byte (p : PartD) (h : ∀ x ∈ p.data, 0 ≤ x ∧ x ≤ 255) : ∀ x ∈ bodyM p, 0 ≤ x ∧ x ≤ 255 := by
  intro x hx
  rcases List.mem_append.1 hx with hx | hx
  · exact h x hx
  · have := List.eq_of_mem_replicate hx
    omega
theorem rowsM_byte : ∀ (l : List PartD) (a : Nat), ∀ x ∈ rowsM a l, 0 ≤ x ∧ x ≤ 255
  | [], _, x, hx => by cases hx
  | p :: l, a, x, hx => by
    rw [rowsM, List.mem_append] at hx
    rcases hx with hx | hx
    · simp only [rowM, List.mem_append] at hx
      rcases hx with ((hx | hx) | hx) | hx
      · exact tagB_byte _ x hx
      all_goals exact putB_byte _ _ x hx
    · exact rowsM_byte l _ x hx

theorem p256_2 : (256 : Int) ^ 2 = 65536 := by decide
theorem p256_4 : (256 : Int) ^ 4 = 4294967296 := by decide

theorem makeM_font (P : List PartD) (near most : Int) (hn : P.length ≤ 100) (hsz : ∀ p ∈ P, p.tag.size = 4) (hby : ∀ p ∈ P, ∀ x ∈ p.data, 0 ≤ x ∧ x ≤ 255) (htot : atM P P.length ≤ 1000000)
    (hri : ∀ (i j : Nat) p q, i < j → P[i]? = some p → P[j]? = some q → ltS p.tag q.tag = true) : IsFont (makeM P near most) P := by
  have hhead := headM_len P.length near most
  have hrl : ∀ i, i ≤ P.length → (rowsM (12 + 16 * P.length) (P.take i)).length = 16 * i := fun i hi => by
    rw [rowsM_len _ (fun p hp => hsz p (List.mem_of_mem_take hp)), List.length_take, Nat.min_eq_left hi]
  have hrl0 := hrl P.length (Nat.le_refl _)
  rw [List.take_of_length_le (Nat.le_refl _)] at hrl0
  have hbl : (P.flatMap bodyM).length = atM P P.length - (12 + 16 * P.length) := by
    unfold atM; rw [List.take_of_length_le (Nat.le_refl _)]; omega
  have hal : 12 + 16 * P.length ≤ atM P P.length := by unfold atM; omega
  have htl : (makeM P near most).length = atM P P.length := by
    rw [makeM, List.length_append, List.length_append, hhead, hrl0, hbl]; omega
  have hil : ∀ (i : Nat) p, P[i]? = some p → i < P.length := fun i p h => (List.getElem?_eq_some_iff.1 h).1
  refine ⟨fun x hx => ?_, by omega, by omega, ?_, ?_, fun i p h => ?_, fun i p h => ?_, fun i p h => ?_, fun i p h => ?_, hsz, hri⟩
  · simp only [makeM, headM, List.mem_append] at hx
    rcases hx with (((((hx | hx) | hx) | hx) | hx) | hx) | hx
    · exact putB_byte _ _ x hx
    · exact putB_byte _ _ x hx
    · exact putB_byte _ _ x hx
    · exact putB_byte _ _ x hx
    · exact putB_byte _ _ x hx
    · exact rowsM_byte _ _ x hx
    · obtain ⟨p, hp, hx⟩ := List.mem_flatMap.1 hx
      exact bodyM_byte p (hby p hp) x hx
  · have e : makeM P near most = [] ++ (putB 65536 4 ++ (putB (P.length : Int) 2 ++ putB near 2 ++ putB most 2 ++ putB (16 * (P.length : Int) - near) 2 ++ (rowsM (12 + 16 * P.length) P ++ P.flatMap bodyM))) := by
      simp only [makeM, headM, List.append_assoc, List.nil_append]
    rw [e]
    exact be_mid _ _ _ 4 0 rfl (by omega) (by rw [p256_4]; omega)
  · have e : makeM P near most = putB 65536 4 ++ (putB (P.length : Int) 2 ++ (putB near 2 ++ putB most 2 ++ putB (16 * (P.length : Int) - near) 2 ++ (rowsM (12 + 16 * P.length) P ++ P.flatMap bodyM))) := by
      simp only [makeM, headM, List.append_assoc]
    rw [e]
    exact be_mid _ _ _ 2 4 (by simp [putB_len]) (by omega) (by rw [p256_2]; omega)
  · obtain ⟨rest, hr⟩ := rows_cut P i p h
    have e : makeM P near most = (headM P.length near most ++ rowsM (12 + 16 * P.length) (P.take i)) ++ (tagB p.tag ++ (putB (sumL p.data) 4 ++ putB (atM P i : Int) 4 ++ putB (p.data.length : Int) 4 ++ (rest ++ P.flatMap bodyM))) := by
      rw [makeM, hr, rowM]
      simp only [List.append_assoc]
    have hp : (headM P.length near most ++ rowsM (12 + 16 * P.length) (P.take i)).length = 12 + 16 * i := by
      rw [List.length_append, hhead, hrl i (Nat.le_of_lt (hil i p h))]
    have ht : (tagB p.tag).length = 4 := by rw [tagB_len]; exact hsz p (List.mem_of_getElem? h)
    rw [e, ← hp, List.drop_left, ← ht, List.take_left]
  · obtain ⟨rest, hr⟩ := rows_cut P i p h
    have e : makeM P near most = (headM P.length near most ++ rowsM (12 + 16 * P.length) (P.take i) ++ tagB p.tag ++ putB (sumL p.data) 4) ++ (putB (atM P i : Int) 4 ++ (putB (p.data.length : Int) 4 ++ (rest ++ P.flatMap bodyM))) := by
      rw [makeM, hr, rowM]
      simp only [List.append_assoc]
    have ht : (tagB p.tag).length = 4 := by rw [tagB_len]; exact hsz p (List.mem_of_getElem? h)
    have hi := hil i p h
    have := atM_mono P (Nat.le_of_lt hi)
    rw [e]
    exact be_mid _ _ _ 4 _ (by simp only [List.length_append, hhead, hrl i (Nat.le_of_lt hi), ht, putB_len]) (by omega) (by rw [p256_4]; omega)
  · obtain ⟨rest, hr⟩ := rows_cut P i p h
    have e : makeM P near most = (headM P.length near most ++ rowsM (12 + 16 * P.length) (P.take i) ++ tagB p.tag ++ putB (sumL p.data) 4 ++ putB (atM P i : Int) 4) ++ (putB (p.data.length : Int) 4 ++ (rest ++ P.flatMap bodyM)) := by
      rw [makeM, hr, rowM]
      simp only [List.append_assoc]
    have ht : (tagB p.tag).length = 4 := by rw [tagB_len]; exact hsz p (List.mem_of_getElem? h)
    have hi := hil i p h
    have := atM_data P p (List.mem_of_getElem? h)
    rw [e]
    exact be_mid _ _ _ 4 _ (by simp only [List.length_append, hhead, hrl i (Nat.le_of_lt hi), ht, putB_len]) (by omega) (by rw [p256_4]; omega)
  · obtain ⟨rest, hr⟩ := bodies_cut P i p h
    have e : makeM P near most = (headM P.length near most ++ rowsM (12 + 16 * P.length) P ++ (P.take i).flatMap bodyM) ++ (p.data ++ rest) := by
      rw [makeM, hr]
      simp only [List.append_assoc]
    have hp : (headM P.length near most ++ rowsM (12 + 16 * P.length) P ++ (P.take i).flatMap bodyM).length = atM P i := by
      rw [List.length_append, List.length_append, hhead, hrl0, atM]
    constructor
    · rw [e, ← hp, List.drop_left, List.take_left]
    · rw [← hp, e]; simp only [List.length_append]; omega
end Fo
end Go.Proofs.Ytkmbeohheblhhaa
