/- What layer 19's law asks first. -/
import Derived.Test.YtgddghplhdmfdaaChainReadB
import Derived.Test.YtgddghplhdmfdaaChainWr
import Derived.Test.YtgddghplhdmfdaaChainBackL
namespace Go.Proofs.Ytgddghplhdmfdaa
open Go.RowKit
namespace Ch
open Vw Wr

theorem flat_byte {α : Type} {f : α → List Int} : ∀ (l : List α), (∀ a ∈ l, ∀ x ∈ f a, 0 ≤ x ∧ x ≤ 255) → ∀ x ∈ l.flatMap f, 0 ≤ x ∧ x ≤ 255 := fun l h x hx => by
  obtain ⟨a, ha, hx⟩ := List.mem_flatMap.1 hx
  exact h a ha x hx

theorem writeB_byte (l : List WChain) (h : ∀ c ∈ l, okChain c) : ∀ x ∈ writeB l, 0 ≤ x ∧ x ≤ 255 := by
  have P := putB_byte
  have hin : ∀ c ∈ l, ∀ x ∈ inB c, 0 ≤ x ∧ x ≤ 255 := fun c hc x hx => by
    obtain ⟨_, _, h3, h4, _⟩ := h c hc
    simp only [inB, List.mem_append] at hx
    rcases hx with (hx | hx) | hx
    · refine flat_byte _ (fun r _ y hy => ?_) x hx
      simp only [ruleB, List.mem_append] at hy
      rcases hy with ((hy | hy) | hy) | hy <;> exact P _ _ y hy
    · refine flat_byte _ (fun s hs y hy => ?_) x hx
      simp only [subB, List.mem_append] at hy
      rcases hy with ((hy | hy) | hy) | hy
      · exact P _ _ y hy
      · exact P _ _ y hy
      · exact P _ _ y hy
      · exact (h4 s hs).2.2.1 y hy
    · rw [List.mem_replicate] at hx; omega
  intro x hx
  simp only [writeB, headB, List.mem_append] at hx
  rcases hx with ((hx | hx) | hx) | hx
  · exact P _ _ x hx
  · exact P _ _ x hx
  · exact P _ _ x hx
  · refine flat_byte _ (fun c hc y hy => ?_) x hx
    simp only [chainB, List.mem_append] at hy
    rcases hy with (((hy | hy) | hy) | hy) | hy
    · exact P _ _ y hy
    · exact P _ _ y hy
    · exact P _ _ y hy
    · exact P _ _ y hy
    · exact hin c hc y hy

theorem writeB_len_le (l : List WChain) (hl : l.length ≤ 10) (h : ∀ c ∈ l, okChain c) : 8 ≤ (writeB l).length ∧ (writeB l).length ≤ 36238 := by
  have := Row.flat_len_le chainB 3623 l (fun c hc => chainB_len_le c (h c hc))
  simp only [writeB, List.length_append, headB_len]
  omega

def oneL : List WChain := [⟨5, [⟨1, 2, 3, 0⟩], [⟨4, 1, [7]⟩], 0⟩]
theorem oneL_ok : ∀ c ∈ oneL, okChain c := by
  intro c hc
  simp only [oneL, List.mem_singleton] at hc
  subst hc
  refine ⟨by decide, by decide, fun r hr => ?_, fun s hs => ?_, by decide, by decide⟩
  · simp only [List.mem_singleton] at hr; subst hr; exact ⟨by decide, by decide, by decide, by decide⟩
  · simp only [List.mem_singleton] at hs; subst hs; exact ⟨by decide, by decide, by decide, by decide⟩

set_option maxRecDepth 100000 in
set_option maxHeartbeats 8000000 in
theorem speaks_any (w : World) : Calls Try.prog 14 #[] w fun e w' => e = .returned (.bool true) ∧ Below w.heap.size w w' := by
  have WR := fun v w' h => write_any v oneL w' (by decide) oneL_ok h
  have HWR := Bas.hid WR
  clear WR
  go_enter Try.func14, Try.ntmps14
  go_wp2_with (fail)
  generalize hW1 : w.alloc (.cells #[.int .u16 1, .int .u16 2, .int .u32 3, .int .u32 0] 48) = W1
  have s1 : W1.heap.size = w.heap.size + 1 := by rw [← hW1]; simp
  have a1 : W1.heap[w.heap.size]? = some (.cells #[.int .u16 1, .int .u16 2, .int .u32 3, .int .u32 0] 48 (0, 0)) := by rw [← hW1]; exact Bas.heap_new _ _
  have B1 : Below w.heap.size w W1 := by rw [← hW1]; exact (Below.refl _ _).alloc (Nat.le_refl _) _
  generalize hW2 : W1.alloc (.cells #[.int .u8 7] 5) = W2
  have s2 : W2.heap.size = w.heap.size + 1 + 1 := by rw [← hW2]; simp [s1]
  have a2 : W2.heap[w.heap.size]? = some (.cells #[.int .u16 1, .int .u16 2, .int .u32 3, .int .u32 0] 48 (0, 0)) := by rw [← hW2, Below.heap_alloc _ _ _ (by omega)]; exact a1
  have b2 : W2.heap[w.heap.size + 1]? = some (.cells #[.int .u8 7] 5 (0, 0)) := by rw [← hW2, ← s1]; exact Bas.heap_new _ _
  have B2 : Below w.heap.size w W2 := by rw [← hW2]; exact B1.alloc (by omega) _
  generalize hW3 : W2.alloc (.cells #[.int .u32 4, .int .u32 1, .slice (some ⟨w.heap.size + 1, 0, none⟩) 1 1] 52) = W3
  have s3 : W3.heap.size = w.heap.size + 1 + 1 + 1 := by rw [← hW3]; simp [s2]
  have a3 : W3.heap[w.heap.size]? = some (.cells #[.int .u16 1, .int .u16 2, .int .u32 3, .int .u32 0] 48 (0, 0)) := by rw [← hW3, Below.heap_alloc _ _ _ (by omega)]; exact a2
  have b3 : W3.heap[w.heap.size + 1]? = some (.cells #[.int .u8 7] 5 (0, 0)) := by rw [← hW3, Below.heap_alloc _ _ _ (by omega)]; exact b2
  have c3 : W3.heap[w.heap.size + 1 + 1]? = some (.cells #[.int .u32 4, .int .u32 1, .slice (some ⟨w.heap.size + 1, 0, none⟩) 1 1] 52 (0, 0)) := by rw [← hW3, ← s2]; exact Bas.heap_new _ _
  have B3 : Below w.heap.size w W3 := by rw [← hW3]; exact B2.alloc (by omega) _
  generalize hW4 : W3.alloc (.cells #[.int .u32 5, .slice (some ⟨w.heap.size, 0, none⟩) 1 1, .slice (some ⟨w.heap.size + 1 + 1, 0, none⟩) 1 1, .int .u8 0] 42) = W4
  have a4 : W4.heap[w.heap.size]? = some (.cells #[.int .u16 1, .int .u16 2, .int .u32 3, .int .u32 0] 48 (0, 0)) := by rw [← hW4, Below.heap_alloc _ _ _ (by omega)]; exact a3
  have b4 : W4.heap[w.heap.size + 1]? = some (.cells #[.int .u8 7] 5 (0, 0)) := by rw [← hW4, Below.heap_alloc _ _ _ (by omega)]; exact b3
  have c4 : W4.heap[w.heap.size + 1 + 1]? = some (.cells #[.int .u32 4, .int .u32 1, .slice (some ⟨w.heap.size + 1, 0, none⟩) 1 1] 52 (0, 0)) := by rw [← hW4, Below.heap_alloc _ _ _ (by omega)]; exact c3
  have d4 : W4.heap[w.heap.size + 1 + 1 + 1]? = some (.cells #[.int .u32 5, .slice (some ⟨w.heap.size, 0, none⟩) 1 1, .slice (some ⟨w.heap.size + 1 + 1, 0, none⟩) 1 1, .int .u8 0] 42 (0, 0)) := by rw [← hW4, ← s3]; exact Bas.heap_new _ _
  have B4 : Below w.heap.size w W4 := by rw [← hW4]; exact B3.alloc (by omega) _
  clear hW1 hW2 hW3 hW4 s1 s2 s3 a1 a2 b2 a3 b3 c3 B1 B2 B3
  have hin : WChains W4 (.slice (some ⟨w.heap.size + 1 + 1 + 1, 0, none⟩) 1 1) oneL := by
    refine ⟨[(.slice (some ⟨w.heap.size, 0, none⟩) 1 1, .slice (some ⟨w.heap.size + 1 + 1, 0, none⟩) 1 1)], rfl, leads_heap d4, fun i c r hc hr => ?_⟩
    have hi : i = 0 := by
      have := (List.getElem?_eq_some_iff.1 hc).1
      simp [oneL] at this; omega
    subst hi
    cases hc; cases hr
    refine ⟨leads_heap a4, [.slice (some ⟨w.heap.size + 1, 0, none⟩) 1 1], rfl, leads_heap c4, fun j s d hs hd => ?_⟩
    have hj : j = 0 := by
      have := (List.getElem?_eq_some_iff.1 hs).1
      simp at this; omega
    subst hj
    cases hs; cases hd
    refine ⟨_, _, rfl, ⟨by simp, by simp, fun i hi => ?_⟩, by simp, by simp [maxLen], by simp⟩
    have hi0 : i = 0 := by simp at hi; omega
    subst hi0
    exact ⟨_, _, rfl, cell_of_heap b4 rfl⟩
  refine (HWR.out _ W4 hin).mono ?_
  rintro e w1 ⟨v1, rfl, hown, hb⟩
  have hwl := writeB_len_le oneL (by decide) oneL_ok
  obtain ⟨g, cg, rfl, hgb, hgl, hgc, hgm, hvg, -⟩ := owned hown (fun e => by
    have h := hown.1
    rcases Row.owned_parts hown with ⟨_, h0, _⟩ | ⟨_, _, h0, _⟩
    · omega
    · rw [h0] at e; cases e) rfl (writeB_byte oneL oneL_ok) (by omega)
  have HB1 := Bas.hid (B4.trans (hb.mono B4.size))
  have HRD := Bas.hid (chainRead_any (some ⟨g, 0, none⟩) _ cg (writeB oneL) w1 hgc hgm hvg rfl (by omega))
  clear hown hb hin a4 b4 c4 d4 B4 HWR hvg hgc hgm hgl hgb hwl
  go_wp2_with (fail)
  refine HRD.out.mono ?_
  rintro e w2 ⟨hb2, h⟩
  have hp : parseAll (writeB oneL) = some (chainsPos 8 oneL) := by
    have h := all_back oneL [] (by decide) oneL_ok
    rwa [List.append_nil] at h
  rw [hp] at h
  obtain ⟨v, rs, rfl, hrow⟩ := h
  have HB2 := Bas.hid (HB1.out.trans (hb2.mono HB1.out.size))
  obtain ⟨r, hr⟩ : ∃ r, rs[0]? = some r := ⟨_, List.getElem?_eq_getElem (by rw [hrow.len]; decide)⟩
  have hz : ((chainsPos 8 oneL).zip rs)[0]? = some (_, r) := List.getElem?_zip_eq_some.2 ⟨rfl, hr⟩
  obtain ⟨G, C, rfl, -, -, -, hcl⟩ := Row.elem_cells chainC_len hrow.own hz (by omega) (by rw [List.length_zip, hrow.len]; rfl)
  have hru := hrow.rules 0 _ r rfl hr
  have hsu := hrow.subs 0 _ r rfl hr
  obtain ⟨vr, vs⟩ := r
  obtain ⟨G3, C3, hv3, -, -, -, hcl3⟩ := Row.elem_cells (f := ruleC) ruleC_len hru (i := 0) rfl (by omega) rfl
  obtain ⟨G4, C4, hv4, -, -, -, hcl4⟩ := Row.elem_cells (f := subC _) (subC_len _) hsu (i := 0) rfl (by omega) rfl
  simp only at hv3 hv4
  subst hv3 hv4
  have q0 : w2.cell? ⟨G, 0, none⟩ = some (.int .u32 5) := hcl 0 _ rfl
  have q1 : w2.cell? ⟨G, 1, none⟩ = some (.slice (some ⟨G3, 0, none⟩) 1 C3) := hcl 1 _ rfl
  have q2 : w2.cell? ⟨G, 2, none⟩ = some (.slice (some ⟨G4, 0, none⟩) 1 C4) := hcl 2 _ rfl
  have q3 : w2.cell? ⟨G3, 2, none⟩ = some (.int .u32 3) := hcl3 2 _ rfl
  obtain ⟨A, q4⟩ : ∃ A, w2.cell? ⟨G4, 2, none⟩ = some (.slice A 1 1) := ⟨_, hcl4 2 _ rfl⟩
  have hn1 : (chainsPos 8 oneL).length = 1 := rfl
  rw [hn1]
  clear hn1 hcl hcl3 hcl4 hru hsu hz hr hrow hp hb2 HRD HB1
  go_wp2_with (fail)
  refine (len_any _ _ _ _).mono ?_
  rintro e w3 ⟨rfl, hb3⟩
  have HB3 := Bas.hid (HB2.out.trans (hb3.mono HB2.out.size))
  clear hb3 q0 q1 q2 q3 q4
  go_wp2_with (fail)
  go_ret
  exact ⟨rfl, HB3.out⟩
end Ch
end Go.Proofs.Ytgddghplhdmfdaa
