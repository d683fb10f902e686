/- Layer 9: what the laws' beginning hands on. -/
import Derived.Test.YtdmhenlfhbigbaaPickCase
namespace Go.Proofs.Ytdmhenlfhbigbaa
open Go.RowKit
namespace Pk
open Ch Ft Go.Maps

theorem caseOk_below {w w' : World} {a : Option Addr} {n c : Nat} {ka : Option Addr} {kn kc : Nat} {ba : Option Addr} {bn bc : Nat} {l : List (Int × Int)} {K : Nat → Int} {B : Nat → Bool} (h : CaseOk w a n c ka kn kc ba bn bc l K B) (hb : Below w.heap.size w w') : CaseOk w' a n c ka kn kc ba bn bc l K B :=
  ⟨Row.leads_below h.leads hb, h.len, h.wf, fun i hi => by
    obtain ⟨⟨b, o, h1, h2⟩, h3⟩ := h.kinds i hi
    exact ⟨⟨b, o, h1, (hb.cell (p := ⟨b, o + i, none⟩) (World.block_lt_of_cell? _ _ h2)).trans h2⟩, h3⟩, fun i hi => by
    obtain ⟨b, o, h1, h2⟩ := h.excl i hi
    exact ⟨b, o, h1, (hb.cell (p := ⟨b, o + i, none⟩) (World.block_lt_of_cell? _ _ h2)).trans h2⟩, h.n63, h.k63, h.b63⟩
theorem zip_nil : ∀ fs : List FeatD, (fs.zip (fs.map fun _ => Value.slice none 0 0)).flatMap fC = fs.flatMap pC
  | [] => rfl
  | f :: fs => by
    rw [List.map_cons, List.zip_cons_cons, List.flatMap_cons, List.flatMap_cons, zip_nil fs]; rfl
theorem featsN_sets (K : Nat → Int) (X : Nat → Bool) : ∀ i, ∀ f ∈ featsN K X i, f.sets = []
  | 0, f, hf => by cases hf
  | i + 1, f, hf => by
    rw [featsN, fstep] at hf
    split at hf
    · exact featsN_sets K X i f hf
    · rcases List.mem_append.1 hf with h | h
      · exact featsN_sets K X i f h
      · simp at h; subst h; rfl
theorem feats_frow {K : Nat → Int} {X : Nat → Bool} {i : Nat} {fs : List FeatD} {w : World} {base : Nat} {v : Value} (h : featsN K X i = fs) (ho : w.ownsRow base 78 4 v fs.length (fs.flatMap pC)) : FRow w base v fs (fs.map fun _ => .slice none 0 0) := by
  refine ⟨by simp, by rw [zip_nil]; exact ho, fun j f s hf hs => ?_⟩
  rw [List.getElem?_map, hf] at hs
  cases hs
  have := featsN_sets K X i f (by rw [h]; exact List.mem_of_getElem? hf)
  rw [this]
  exact Row.owned_nil _ _ _ _
theorem feats_rrow {fs : List FeatD} {w : World} {base : Nat} {v : Value} (ho : w.ownsRow base 76 4 v fs.length (fs.flatMap pC)) : RRow w v fs (fs.map fun _ => .slice none 0 0) :=
  ⟨by simp, by rw [zip_nil]; exact Row.leads_owned ho⟩
theorem own_cap {w : World} {base size : Nat} {e : TypeId} {a : Option Addr} {n m c : Nat} {xs : List Value} (h : w.ownsRow base e size (.slice a m c) n xs) : m = n ∧ n ≤ c ∧ c ≤ maxLen := by
  rcases Row.owned_parts h with ⟨h1, h2, _⟩ | ⟨g, cap, h1, _, _, h2, h3, _⟩
  · cases h1; subst h2; exact ⟨rfl, Nat.le_refl _, Nat.zero_le _⟩
  · cases h1; exact ⟨rfl, h2, h3⟩
end Pk
end Go.Proofs.Ytdmhenlfhbigbaa
