/- What layer 8's law asks first. -/
import Derived.Test.YtgddghplhdmfdaaFeatExcl
import Derived.Test.YtgddghplhdmfdaaFeatWr
import Derived.Test.YtgddghplhdmfdaaFeatBackL
namespace Go.Proofs.Ytgddghplhdmfdaa
open Go.RowKit
namespace Ft
open Vw Wr Ch

/-- What Write's answer is, as a View's bytes. -/
theorem written {w : World} {base : Nat} {v : Value} {bs : List Int} (h : w.ownsRow base 5 1 v bs.length (bs.map (Value.int .u8))) (h0 : 0 < bs.length) (hb : ∀ x ∈ bs, 0 ≤ x ∧ x ≤ 255) (hl : bs.length ≤ 1000000000) :
    ∃ g cap, v = .slice (some ⟨g, 0, none⟩) bs.length cap ∧ bs.length ≤ cap ∧ cap ≤ maxLen ∧ VB w (some ⟨g, 0, none⟩) bs := by
  obtain ⟨g, cg, hv, _, _, hgc, hgm, hvg, _⟩ := owned h (fun e => by
    rcases Row.owned_parts h with ⟨_, h1, _⟩ | ⟨_, _, h1, _⟩
    · omega
    · rw [h1] at e; cases e) rfl hb (by omega)
  exact ⟨g, cg, hv, hgc, hgm, hvg⟩

def oneP : List WPlan := [⟨3, 49153, [4, 5]⟩]
theorem oneP_ok : ∀ c ∈ oneP, okPlan c := by
  intro c hc
  simp only [oneP, List.mem_singleton] at hc
  subst hc
  exact ⟨⟨by decide, by decide, by decide⟩, by decide⟩

set_option maxRecDepth 100000 in
set_option maxHeartbeats 8000000 in
theorem speaks_any (w : World) : Calls Try.prog 25 #[] w fun e w' => e = .returned (.bool true) ∧ Below w.heap.size w w' := by
  have HWR := Bas.hid (fun v w' h => fwrite_any v oneP w' (by decide) oneP_ok h)
  go_enter Try.func25, Try.ntmps25
  go_wp2_with (fail)
  generalize hW1 : w.alloc (.cells #[.int .u16 4, .int .u16 5] 23) = W1
  have s1 : W1.heap.size = w.heap.size + 1 := by rw [← hW1]; simp
  have a1 : W1.heap[w.heap.size]? = some (.cells #[.int .u16 4, .int .u16 5] 23 (0, 0)) := by rw [← hW1]; exact Bas.heap_new _ _
  have B1 : Below w.heap.size w W1 := by rw [← hW1]; exact (Below.refl _ _).alloc (Nat.le_refl _) _
  generalize hW2 : W1.alloc (.cells #[.int .u16 3, .int .u16 49153, .slice (some ⟨w.heap.size, 0, none⟩) 2 2] 65) = W2
  have a2 : W2.heap[w.heap.size]? = some (.cells #[.int .u16 4, .int .u16 5] 23 (0, 0)) := by rw [← hW2, Below.heap_alloc _ _ _ (by omega)]; exact a1
  have b2 : W2.heap[w.heap.size + 1]? = some (.cells #[.int .u16 3, .int .u16 49153, .slice (some ⟨w.heap.size, 0, none⟩) 2 2] 65 (0, 0)) := by rw [← hW2, ← s1]; exact Bas.heap_new _ _
  have B2 : Below w.heap.size w W2 := by rw [← hW2]; exact B1.alloc (by omega) _
  clear hW1 hW2 s1 a1 B1
  have hin : WPlans W2 (.slice (some ⟨w.heap.size + 1, 0, none⟩) 1 1) oneP := by
    refine ⟨[.slice (some ⟨w.heap.size, 0, none⟩) 2 2], rfl, leads_heap b2, fun i c r hc hr => ?_⟩
    have hi : i = 0 := by
      have := (List.getElem?_eq_some_iff.1 hc).1
      simp [oneP] at this; omega
    subst hi
    cases hc; cases hr
    exact leads_heap a2
  refine (HWR.out _ W2 hin).mono ?_
  rintro e w1 ⟨v1, rfl, hown, hb⟩
  have hwl := featW_len_le oneP (by decide) oneP_ok
  obtain ⟨g, cg, rfl, hgc, hgm, hvg⟩ := written hown (by omega) (featW_byte oneP) (by omega)
  have HB1 := Bas.hid (B2.trans (hb.mono B2.size))
  have HRD := Bas.hid (fRead_any (some ⟨g, 0, none⟩) _ cg (featW oneP) w1 hgc hgm hvg rfl (by omega))
  clear hown hb hin a2 b2 B2 HWR hvg hgc hgm hwl
  go_wp2_with (fail)
  refine HRD.out.mono ?_
  rintro e w2 ⟨hb2, h⟩
  have hp : parseFs (featW oneP) = some (oneP.map toF) := by
    have h := fall_back oneP (by decide) oneP_ok
    rwa [if_pos (by decide)] at h
  rw [hp] at h
  obtain ⟨v, ss, rfl, hrow⟩ := h
  have HB2 := Bas.hid (HB1.out.trans (hb2.mono HB1.out.size))
  obtain ⟨s, hs⟩ : ∃ s, ss[0]? = some s := ⟨_, List.getElem?_eq_getElem (by rw [hrow.len]; decide)⟩
  have hz : ((oneP.map toF).zip ss)[0]? = some (_, s) := List.getElem?_zip_eq_some.2 ⟨rfl, hs⟩
  obtain ⟨G, C, rfl, -, -, -, hcl⟩ := Row.elem_cells fC_len hrow.own hz (by omega) (by rw [List.length_zip, hrow.len, Nat.min_self])
  obtain ⟨sa, sc, rfl⟩ := own_slice (hrow.sets 0 _ s rfl hs)
  have q0 : w2.cell? ⟨G, 0, none⟩ = some (.int .i64 3) := hcl 0 _ rfl
  have q1 : w2.cell? ⟨G, 1, none⟩ = some (.bool true) := hcl 1 _ rfl
  have q2 : w2.cell? ⟨G, 2, none⟩ = some (.int .i64 5) := hcl 2 _ rfl
  have q3 : w2.cell? ⟨G, 3, none⟩ = some (.slice sa 2 sc) := hcl 3 _ rfl
  have hn1 : (oneP.map toF).length = 1 := rfl
  have HX1 := Bas.hid fun w' (hb : Below w2.heap.size w2 w') => excl_any _ _ _ _ 3 w' (fRow_below hrow hb) (by decide)
  have HX2 := Bas.hid fun w' (hb : Below w2.heap.size w2 w') => excl_any _ _ _ _ 4 w' (fRow_below hrow hb) (by decide)
  rw [hn1] at HX1 HX2 ⊢
  have ex1 : exclL (oneP.map toF) 3 = true := by decide
  have ex2 : exclL (oneP.map toF) 4 = false := by decide
  rw [ex1] at HX1
  rw [ex2] at HX2
  clear hn1 hcl hz hs hrow hp hb2 HRD HB1 ex1 ex2
  go_wp2_with (fail)
  refine (HX1.out _ (Below.refl _ _)).mono ?_
  rintro e w3 ⟨rfl, hb3⟩
  have HB3 := Bas.hid hb3
  clear hb3 q0 q1 q2 q3
  go_wp2_with (fail)
  refine (HX2.out _ HB3.out).mono ?_
  rintro e w4 ⟨rfl, hb4⟩
  have HB4 := Bas.hid (HB2.out.trans ((Bas.on HB3.out hb4).mono HB2.out.size))
  clear hb4
  go_wp2_with (fail)
  go_ret
  exact ⟨rfl, HB4.out⟩
end Ft
end Go.Proofs.Ytgddghplhdmfdaa
