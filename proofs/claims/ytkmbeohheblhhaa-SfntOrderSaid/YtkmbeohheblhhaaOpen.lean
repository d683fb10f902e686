/- Arguments that lead into memory: slices of structs, of whatever fields. -/
import Derived.Test.YtkmbeohheblhhaaRowC
import Derived.Test.YtkmbeohheblhhaaVArg
import Derived.ProofKit
import Derived.OpenShut
import Derived.Deep.Slices
namespace Go.Proofs.Ytkmbeohheblhhaa
open Go.RowKit Go.ChangeShapes Go.WideShapes Go.ChangeAt
namespace Bas

theorem flat_get_inv {α : Type} {f : α → List Value} {m : Nat} (hm : 0 < m) (hf : ∀ x, (f x).length = m) : ∀ (l : List α) (j : Nat) (u : Value), (l.flatMap f)[j]? = some u → ∃ i k x, j = i * m + k ∧ l[i]? = some x ∧ (f x)[k]? = some u
  | [], j, u, h => by simp at h
  | y :: l, j, u, h => by
    rw [List.flatMap_cons] at h
    by_cases hj : j < m
    · rw [List.getElem?_append_left (by rw [hf]; exact hj)] at h
      exact ⟨0, j, y, by simp, rfl, h⟩
    · rw [List.getElem?_append_right (by rw [hf]; omega), hf] at h
      obtain ⟨i, k, x, h1, h2, h3⟩ := flat_get_inv hm hf l (j - m) u h
      exact ⟨i + 1, k, x, by rw [Nat.add_mul]; omega, h2, h3⟩

/-- Elements that are each opened make a row. -/
theorem open_elems {α : Type} [Inhabited α] {f : α → List Value} {m : Nat} {good : α → Prop} (hm : 0 < m) (hf : ∀ x, (f x).length = m) {w : World} {base : Nat} {a : Addr} {len cap : Nat}
    (h : ∀ i, i < len → ∃ cs, w.cells? base (a.add (i * m)) m = some cs ∧ ∃ x, cs = f x ∧ good x) :
    ∃ l : List α, l.length = len ∧ Row.Leads w (.slice (some a) len cap) len (l.flatMap f) ∧ ∀ x ∈ l, good x := by
  obtain ⟨g, hg⟩ := Go.Deep.choose_lt (α := α) (n := len) (p := fun i x => w.cells? base (a.add (i * m)) m = some (f x) ∧ good x) (fun i hi => by
    obtain ⟨cs, h1, x, rfl, h3⟩ := h i hi
    exact ⟨x, h1, h3⟩)
  refine ⟨(List.range len).map g, by simp, .inr ⟨a, cap, rfl, fun j u hu => ?_⟩, fun x hx => ?_⟩
  · obtain ⟨i, k, x, rfl, h2, h3⟩ := flat_get_inv hm hf _ j u hu
    have hi : i < len := by have := (List.getElem?_eq_some_iff.1 h2).1; simpa using this
    rw [List.getElem?_map, List.getElem?_range hi] at h2
    cases h2
    obtain ⟨_, _, hc⟩ := World.cells?_some (hg i hi).1
    have hk : k < m := by have := (List.getElem?_eq_some_iff.1 h3).1; rw [hf] at this; exact this
    have := hc k hk
    rw [Go.Deep.add_add] at this
    rw [this, h3]
  · obtain ⟨i, hi, rfl⟩ := List.mem_map.1 hx
    exact (hg i (by simpa using hi)).2

section
variable {H : Type} {enc : TypeId × Value → H} {P : Program} {w : World} {base : Nat} {spare : Nat → Bool} {held : Bool}

/-- A field of one cell. -/
theorem open_field {t : TypeId} {fs : Array Field} {fuel : Nat} {cs : List Value} {x : DataW H × List MemPlace} (k : Nat) (f : Field) (ht : P.underlying t = some (.struct fs)) (h : DataW.trod enc P w base spare held fuel t cs = some x) (hk : fs[k]? = some f) (hc : P.cellsOf f.type = 1) (ho : f.offset < P.cellsOf t) :
    cs.length = P.cellsOf t ∧ ∃ v y n, cs[f.offset]? = some v ∧ DataW.trod enc P w base spare held n f.type [v] = some y := by
  obtain ⟨xs, n, _, rfl, hl, hlen, hf⟩ := DataW.trod_struct ht h
  refine ⟨hl, ?_⟩
  have h1 := hf k f hk
  rw [hc] at h1
  have ho' : f.offset < cs.length := by rw [hl]; exact ho
  have e : (cs.drop f.offset).take 1 = [cs[f.offset]] := by
    rw [List.drop_eq_getElem_cons ho', List.take_succ_cons, List.take_zero]
  rw [e] at h1
  have hkx : k < xs.length := by
    have := (Array.getElem?_eq_some_iff.1 hk).1
    omega
  rw [List.getElem?_eq_getElem hkx] at h1
  exact ⟨_, _, _, List.getElem?_eq_getElem ho', h1⟩

theorem open_field_int {t : TypeId} {fs : Array Field} {fuel : Nat} {cs : List Value} {x : DataW H × List MemPlace} {kd : IntKind} (k : Nat) (f : Field) (ht : P.underlying t = some (.struct fs)) (h : DataW.trod enc P w base spare held fuel t cs = some x) (hk : fs[k]? = some f) (hc : P.cellsOf f.type = 1) (ho : f.offset < P.cellsOf t) (hi : P.underlying f.type = some (.int kd)) :
    ∃ n, cs[f.offset]? = some (.int kd n) ∧ (Lit.int kd n).wf = true := by
  obtain ⟨_, v, y, m, h1, h2⟩ := open_field k f ht h hk hc ho
  obtain ⟨n, e, _, hw⟩ := DataW.trod_int hi h2
  cases e
  exact ⟨n, h1, hw⟩

/-- A slice of bytes, opened where it lies. -/
theorem open_bytes {t e : TypeId} {fuel : Nat} {v : Value} {x : DataW H × List MemPlace} (ht : P.underlying t = some (.slice e)) (he : P.underlying e = some (.int .u8)) (hc : P.cellsOf e = 1) (h : DataW.trod enc P w base (fun _ => true) held fuel t [v] = some x) :
    ∃ a len cap zs, v = .slice a len cap ∧ Bas.IsRow .u8 w a len cap zs := by
  rcases open_ints ht he hc h with ⟨hcs, _⟩ | ⟨x, l, c, zs, hcs, _, hl, hm, hz, _, hcell, hwz⟩
  · cases hcs
    exact ⟨none, 0, 0, [], rfl, .inl ⟨rfl, rfl, rfl, rfl⟩⟩
  · cases hcs
    exact ⟨_, _, _, zs, rfl, .inr ⟨_, rfl, hl, hm, by simpa using hz, hcell, hwz⟩⟩
end
end Bas
end Go.Proofs.Ytkmbeohheblhhaa
