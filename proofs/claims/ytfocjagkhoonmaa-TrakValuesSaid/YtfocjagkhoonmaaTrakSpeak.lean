/- What layer 27's law asks first. -/
import Derived.Test.YtfocjagkhoonmaaTrakWr
namespace Go.Proofs.Ytfocjagkhoonmaa
open Go.RowKit
namespace Tk
open Vw Wr

theorem written {w : World} {base : Nat} {v : Value} {bs : List Int} (h : w.ownsRow base 5 1 v bs.length (bs.map (Value.int .u8))) (h0 : 0 < bs.length) (hb : ∀ x ∈ bs, 0 ≤ x ∧ x ≤ 255) (hl : bs.length ≤ 1000000000) :
    ∃ g cap, v = .slice (some ⟨g, 0, none⟩) bs.length cap ∧ bs.length ≤ cap ∧ cap ≤ maxLen ∧ VB w (some ⟨g, 0, none⟩) bs := by
  obtain ⟨g, cg, hv, _, _, hgc, hgm, hvg, _⟩ := owned h (fun e => by
    rcases Row.owned_parts h with ⟨_, h1, _⟩ | ⟨_, _, h1, _⟩
    · omega
    · rw [h1] at e; cases e) rfl hb (by omega)
  exact ⟨g, cg, hv, hgc, hgm, hvg⟩

theorem flat_byte {α : Type} {f : α → List Int} {l : List α} (h : ∀ y, ∀ x ∈ f y, 0 ≤ x ∧ x ≤ 255) : ∀ x ∈ l.flatMap f, 0 ≤ x ∧ x ≤ 255 := by
  intro x hx
  obtain ⟨y, _, hy⟩ := List.mem_flatMap.1 hx
  exact h y x hy
theorem rowsT_byte (m : Nat) : ∀ (l : List PTrack) (off : Nat), ∀ x ∈ rowsT m off l, 0 ≤ x ∧ x ≤ 255
  | [], _, x, hx => by cases hx
  | p :: l, off, x, hx => by
    rw [rowsT, List.mem_append] at hx
    rcases hx with hx | hx
    · simp only [rowT, List.mem_append] at hx
      rcases hx with (hx | hx) | hx <;> exact putB_byte _ _ x hx
    · exact rowsT_byte m l _ x hx
theorem dataW_byte (S : List Int) (l : List PTrack) (a : Nat) : ∀ x ∈ dataW S l a, 0 ≤ x ∧ x ≤ 255 := by
  intro x hx
  simp only [dataW, headT, List.mem_append] at hx
  rcases hx with (((((hx | hx) | hx) | hx) | hx)) | hx
  · exact putB_byte _ _ x hx
  · exact putB_byte _ _ x hx
  · exact putB_byte _ _ x hx
  · exact rowsT_byte _ _ _ x hx
  · exact flat_byte (fun y => putB_byte _ _) x hx
  · exact flat_byte (fun y => flat_byte fun z => putB_byte _ _) x hx
theorem writeT_byte (p : WPlanT) : ∀ x ∈ writeT p, 0 ≤ x ∧ x ≤ 255 := by
  intro x hx
  have hd0 : ∀ x ∈ d0 p, 0 ≤ x ∧ x ≤ 255 := by unfold d0; split; · intro x hx; cases hx
                                               · exact dataW_byte _ _ _
  have hd1 : ∀ x ∈ d1 p, 0 ≤ x ∧ x ≤ 255 := by unfold d1; split; · intro x hx; cases hx
                                               · exact dataW_byte _ _ _
  simp only [writeT, stB, stI, List.mem_append] at hx
  rcases hx with ((((hx | hx) | hx) | hx) | hx) | (hx | hx)
  · exact putB_byte _ _ x hx
  · exact putB_byte _ _ x hx
  · exact putB_byte _ _ x hx
  · exact putB_byte _ _ x hx
  · simp at hx; omega
  · exact hd0 x hx
  · exact hd1 x hx

def oneP : WPlanT := ⟨[10, 20], [], [⟨0, [-4, 3]⟩], []⟩
theorem oneP_small : smallP oneP := ⟨⟨by decide, by decide⟩, by decide, by decide⟩
theorem oneP_rg : rgPlan oneP := by
  refine ⟨⟨?_, ?_⟩, ?_, ?_⟩
  · intro s hs; simp [oneP] at hs; omega
  · intro t ht; simp [oneP] at ht; subst ht; exact ⟨by decide, by decide⟩
  · intro s hs; cases hs
  · intro s hs; cases hs
def oneT : TrackD × TrackD := (⟨[10, 20], [-4, 3]⟩, ⟨[], []⟩)
theorem one_table : tableAt (writeT oneP) = some oneT := by kernel_rfl
theorem oneT_v : TrkV oneT.1 ∧ TrkV oneT.2 := tableAt_v _ (writeT_byte oneP) _ one_table
theorem one_r : valueV oneT 0 13 = -2 := by kernel_rfl
theorem one_l : valueV oneT 1 99 = 3 := by kernel_rfl
theorem one_d : valueV oneT 2 13 = 0 := by kernel_rfl

set_option maxRecDepth 100000 in
set_option maxHeartbeats 8000000 in
theorem speaks_any (w : World) : Calls Try.prog 14 #[] w fun e w' => e = .returned (.bool true) ∧ Below w.heap.size w w' := by
  have HWR := Bas.hid (fun a b c d w' h => twrite_any a b c d oneP w' oneP_small oneP_rg h)
  have HWL := Bas.hid (writeT_len oneP oneP_small)
  go_enter Try.func14, Try.ntmps14
  go_wp2_with (fail)
  generalize hW1 : w.alloc (.cells #[.int .i32 10, .int .i32 20] 21) = W1
  have s1 : W1.heap.size = w.heap.size + 1 := by rw [← hW1]; simp
  have a1 : W1.heap[w.heap.size]? = some (.cells #[.int .i32 10, .int .i32 20] 21 (0, 0)) := by rw [← hW1]; exact Bas.heap_new _ _
  have B1 : Below w.heap.size w W1 := by rw [← hW1]; exact (Below.refl _ _).alloc (Nat.le_refl _) _
  generalize hW2 : W1.alloc (.cells #[.int .i16 (-4), .int .i16 3] 49) = W2
  have s2 : W2.heap.size = w.heap.size + 2 := by rw [← hW2]; simp [s1]
  have a2 : W2.heap[w.heap.size]? = some (.cells #[.int .i32 10, .int .i32 20] 21 (0, 0)) := by rw [← hW2, Below.heap_alloc _ _ _ (by omega)]; exact a1
  have b2 : W2.heap[w.heap.size + 1]? = some (.cells #[.int .i16 (-4), .int .i16 3] 49 (0, 0)) := by rw [← hW2, ← s1]; exact Bas.heap_new _ _
  have B2 : Below w.heap.size w W2 := by rw [← hW2]; exact B1.alloc (by omega) _
  generalize hW3 : W2.alloc (.cells #[.int .i32 0, .slice (some ⟨w.heap.size + 1, 0, none⟩) 2 2] 48) = W3
  have a3 : W3.heap[w.heap.size]? = some (.cells #[.int .i32 10, .int .i32 20] 21 (0, 0)) := by rw [← hW3, Below.heap_alloc _ _ _ (by omega)]; exact a2
  have b3 : W3.heap[w.heap.size + 1]? = some (.cells #[.int .i16 (-4), .int .i16 3] 49 (0, 0)) := by rw [← hW3, Below.heap_alloc _ _ _ (by omega)]; exact b2
  have c3 : W3.heap[w.heap.size + 2]? = some (.cells #[.int .i32 0, .slice (some ⟨w.heap.size + 1, 0, none⟩) 2 2] 48 (0, 0)) := by rw [← hW3, ← s2]; exact Bas.heap_new _ _
  have B3 : Below w.heap.size w W3 := by rw [← hW3]; exact B2.alloc (by omega) _
  clear hW1 hW2 hW3 s1 a1 B1 s2 a2 b2 B2
  have hin : PPlan W3 (.slice (some ⟨w.heap.size, 0, none⟩) 2 2) (.slice none 0 0) (.slice (some ⟨w.heap.size + 2, 0, none⟩) 1 1) (.slice none 0 0) oneP := by
    refine ⟨leads_heap a3, .inl ⟨rfl, rfl, rfl⟩, ⟨[.slice (some ⟨w.heap.size + 1, 0, none⟩) 2 2], rfl, leads_heap c3, fun i c r hc hr => ?_⟩, ⟨[], rfl, .inl ⟨rfl, rfl, rfl⟩, fun i c r hc hr => by simp [oneP] at hc⟩⟩
    have hi : i = 0 := by
      have := (List.getElem?_eq_some_iff.1 hc).1
      simp [oneP] at this; omega
    subst hi
    cases hc; cases hr
    exact leads_heap b3
  refine (HWR.out _ _ _ _ W3 hin).mono ?_
  rintro e w1 ⟨v1, rfl, hown, hb⟩
  have hwl := HWL.out
  obtain ⟨g, cg, rfl, hgc, hgm, hvg⟩ := written hown (by omega) (writeT_byte oneP) (by omega)
  have HB1 := Bas.hid (B3.trans (hb.mono B3.size))
  have HRD := Bas.hid (tRead_any (some ⟨g, 0, none⟩) _ cg (writeT oneP) w1 hgc hgm hvg rfl (by omega))
  clear hown hb hin a3 b3 c3 B3 HWR hvg hgc hgm hwl HWL
  go_wp2_with (fail)
  refine HRD.out.mono ?_
  rintro e w2 ⟨hb2, h⟩
  rw [one_table] at h
  obtain ⟨G, rfl, htab⟩ := h
  have HB2 := Bas.hid (HB1.out.trans (hb2.mono HB1.out.size))
  have HX := Bas.hid fun w' (hb : Below w2.heap.size w2 w') (d s : Int) (hd : 0 ≤ d ∧ d ≤ 2) (hs : 0 ≤ s ∧ s ≤ 100) => value_any oneT _ G d s w' (tab_below htab hb) oneT_v.1 oneT_v.2 (by omega) (by omega)
  have HX1 := Bas.hid (one_r ▸ HX.out _ (Below.refl _ _) 0 13 (by omega) (by omega))
  clear htab hb2 HRD HB1
  go_wp2_with (fail)
  refine HX1.out.mono ?_
  rintro e w3 ⟨rfl, hb3⟩
  have HB3 := Bas.hid hb3
  have HX2 := Bas.hid (one_l ▸ HX.out _ HB3.out 1 99 (by omega) (by omega))
  clear hb3 HX1
  go_wp2_with (fail)
  refine HX2.out.mono ?_
  rintro e w4 ⟨rfl, hb4⟩
  have HB4 := Bas.hid (Bas.on HB3.out hb4)
  have HX3 := Bas.hid (one_d ▸ HX.out _ HB4.out 2 13 (by omega) (by omega))
  clear hb4 HX2 HB3
  go_wp2_with (fail)
  refine HX3.out.mono ?_
  rintro e w5 ⟨rfl, hb5⟩
  have HB5 := Bas.hid (HB2.out.trans ((Bas.on HB4.out hb5).mono HB2.out.size))
  clear hb5 HX3 HX HB4
  go_wp2_with (fail)
  go_ret
  exact ⟨rfl, HB5.out⟩
end Tk
end Go.Proofs.Ytfocjagkhoonmaa
