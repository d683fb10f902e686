/- Layer 19: the chains that a law is handed. -/
import Derived.Test.YtgddghplhdmfdaaOpen
import Derived.Test.YtgddghplhdmfdaaChainWrD
namespace Go.Proofs.Ytgddghplhdmfdaa
open Go.RowKit Go.ChangeShapes Go.WideShapes Go.ChangeAt
namespace Ch
open Vw Wr

def WData0 (w : World) (v : Value) (D : List Int) : Prop := ∃ a len cap zs, v = .slice a len cap ∧ Bas.IsRow .u8 w a len cap zs ∧ D = zs.take len
def WSubs0 (w : World) (v : Value) (l : List WSub) : Prop := ∃ ds : List Value, ds.length = l.length ∧ Row.Leads w v l.length ((l.zip ds).flatMap wSubC) ∧ ∀ (j : Nat) (s : WSub) (d : Value), l[j]? = some s → ds[j]? = some d → WData0 w d s.data
def WChains0 (w : World) (v : Value) (l : List WChain) : Prop := ∃ rs : List (Value × Value), rs.length = l.length ∧ Row.Leads w v l.length ((l.zip rs).flatMap wChainC) ∧
  ∀ (i : Nat) (c : WChain) (r : Value × Value), l[i]? = some c → rs[i]? = some r → Row.Leads w r.1 c.rules.length (c.rules.flatMap wRuleC) ∧ WSubs0 w r.2 c.subs

def rgSub (s : WSub) : Prop := (0 ≤ s.cover ∧ s.cover ≤ 4294967295) ∧ (0 ≤ s.flags ∧ s.flags ≤ 4294967295) ∧ (∀ x ∈ s.data, 0 ≤ x ∧ x ≤ 255)
def rgChain (c : WChain) : Prop := (0 ≤ c.first ∧ c.first ≤ 4294967295) ∧ (0 ≤ c.more ∧ c.more ≤ 255) ∧ (∀ r ∈ c.rules, okRule r) ∧ (∀ s ∈ c.subs, rgSub s)

/-- How large chains may be. -/
def szChain (c : WChain) : Prop := c.rules.length ≤ 40 ∧ c.subs.length ≤ 10 ∧ ∀ s ∈ c.subs, s.data.length ≤ 300

theorem ok_of (c : WChain) (h : rgChain c) (k : szChain c) : okChain c :=
  ⟨h.1, h.2.1, h.2.2.1, fun s hs => ⟨(h.2.2.2 s hs).1, (h.2.2.2 s hs).2.1, (h.2.2.2 s hs).2.2, k.2.2 s hs⟩, k.1, k.2.1⟩

theorem WData0.len {w : World} {v : Value} {D : List Int} (h : WData0 w v D) : ∃ a cap, v = .slice a D.length cap := by
  obtain ⟨a, len, cap, zs, rfl, hz, rfl⟩ := h
  have : (zs.take len).length = len := by
    rcases hz with ⟨rfl, rfl, rfl, rfl⟩ | ⟨x, rfl, hl, hm, hz, _⟩
    · rfl
    · rw [List.length_take]; omega
  exact ⟨a, cap, by rw [this]⟩

theorem WData0.up {w : World} {v : Value} {D : List Int} (h : WData0 w v D) (hl : D.length ≤ 300) : WData w v D := by
  obtain ⟨a, len, cap, zs, rfl, hz, rfl⟩ := h
  have hlen : (zs.take len).length = len := by
    rcases hz with ⟨rfl, rfl, rfl, rfl⟩ | ⟨x, rfl, hl, hm, hz, _⟩
    · rfl
    · rw [List.length_take]; omega
  rw [hlen] at hl
  obtain ⟨h1, h2, h3, h4, h5⟩ := VB_of_row hz (by omega)
  exact ⟨a, cap, by rw [hlen], h1, by rw [hlen]; exact h3, h4, h5⟩

theorem WChains0.up {w : World} {v : Value} {l : List WChain} (h : WChains0 w v l) (hs : ∀ c ∈ l, szChain c) : WChains w v l := by
  obtain ⟨rs, h1, h2, h3⟩ := h
  refine ⟨rs, h1, h2, fun i c r hc hr => ?_⟩
  obtain ⟨h4, ds, h5, h6, h7⟩ := h3 i c r hc hr
  exact ⟨h4, ds, h5, h6, fun j s d hs' hd => (h7 j s d hs' hd).up ((hs c (List.mem_of_getElem? hc)).2.2 s (List.mem_of_getElem? hs'))⟩

instance : Inhabited RuleD := ⟨⟨0, 0, 0, 0⟩⟩
instance : Inhabited WSub := ⟨⟨0, 0, []⟩⟩
instance : Inhabited WChain := ⟨⟨0, [], [], 0⟩⟩

theorem zip_self {α β : Type} (l : List (α × β)) : (l.map Prod.fst).zip (l.map Prod.snd) = l := by
  induction l with
  | nil => rfl
  | cons x l ih => simp [ih]

theorem list3 {c : List Value} (h : c.length = 3) {a b d : Value} (h0 : c[0]? = some a) (h1 : c[1]? = some b) (h2 : c[2]? = some d) : c = [a, b, d] := by
  match c, h with
  | [x, y, z], _ => simp at h0 h1 h2; subst h0 h1 h2; rfl
theorem list4 {c : List Value} (h : c.length = 4) {a b d e : Value} (h0 : c[0]? = some a) (h1 : c[1]? = some b) (h2 : c[2]? = some d) (h3 : c[3]? = some e) : c = [a, b, d, e] := by
  match c, h with
  | [x, y, z, t], _ => simp at h0 h1 h2 h3; subst h0 h1 h2 h3; rfl

section
variable {H : Type} {enc : TypeId × Value → H} {w : World} {base : Nat} {held : Bool}

theorem open_rules {fuel : Nat} {v : Value} {x : DataW H × List MemPlace} (h : DataW.trod enc Try.prog w base (fun _ => true) held fuel 39 [v] = some x) :
    ∃ l : List RuleD, Row.Leads w v l.length (l.flatMap wRuleC) ∧ ∀ r ∈ l, okRule r := by
  rcases Go.Deep.open_slice Try.underlying39 h with ⟨h0, _⟩ | ⟨a, len, cap, m, n, D, Pl, h0, _, hl, hm, hmm, _, hx⟩
  · cases h0
    exact ⟨[], .inl ⟨rfl, rfl, rfl⟩, fun r hr => by cases hr⟩
  · cases h0
    have hc4 : Try.prog.cellsOf 48 = 4 := by kernel_rfl
    rw [hc4] at hx
    obtain ⟨l, h1, h2, h3⟩ := Bas.open_elems (f := wRuleC) (good := okRule) (by omega) wRuleC_len (w := w) (base := base) (a := a) (len := len) (cap := cap) (fun i hi => by
      obtain ⟨cs, e1, e2⟩ := hx i (by rw [hmm]; simp; omega)
      refine ⟨cs, e1, ?_⟩
      obtain ⟨_, hlen, _⟩ := World.cells?_some e1
      obtain ⟨n0, f0, w0⟩ := Bas.open_field_int (kd := .u16) 0 _ Try.underlying48 e2 rfl (by kernel_rfl) (by rw [hc4]; decide) (by kernel_rfl)
      obtain ⟨n1, f1, w1⟩ := Bas.open_field_int (kd := .u16) 1 _ Try.underlying48 e2 rfl (by kernel_rfl) (by rw [hc4]; decide) (by kernel_rfl)
      obtain ⟨n2, f2, w2⟩ := Bas.open_field_int (kd := .u32) 2 _ Try.underlying48 e2 rfl (by kernel_rfl) (by rw [hc4]; decide) (by kernel_rfl)
      obtain ⟨n3, f3, w3⟩ := Bas.open_field_int (kd := .u32) 3 _ Try.underlying48 e2 rfl (by kernel_rfl) (by rw [hc4]; decide) (by kernel_rfl)
      exact ⟨⟨n0, n1, n2, n3⟩, list4 hlen f0 f1 f2 f3, Bas.wf_u16 w0, Bas.wf_u16 w1, Bas.wf_u32 w2, Bas.wf_u32 w3⟩)
    subst h1
    exact ⟨l, h2, h3⟩

theorem open_subs {fuel : Nat} {v : Value} {x : DataW H × List MemPlace} (h : DataW.trod enc Try.prog w base (fun _ => true) held fuel 40 [v] = some x) :
    ∃ l : List WSub, WSubs0 w v l ∧ ∀ s ∈ l, rgSub s := by
  rcases Go.Deep.open_slice Try.underlying40 h with ⟨h0, _⟩ | ⟨a, len, cap, m, n, D, Pl, h0, _, hl, hm, hmm, _, hx⟩
  · cases h0
    exact ⟨[], ⟨[], rfl, .inl ⟨rfl, rfl, rfl⟩, fun j s d hs => by simp at hs⟩, fun r hr => by cases hr⟩
  · cases h0
    have hc3 : Try.prog.cellsOf 52 = 3 := by kernel_rfl
    rw [hc3] at hx
    obtain ⟨l, h1, h2, h3⟩ := Bas.open_elems (f := wSubC) (good := fun x => WData0 w x.2 x.1.data ∧ rgSub x.1) (by omega) wSubC_len (w := w) (base := base) (a := a) (len := len) (cap := cap) (fun i hi => by
      obtain ⟨cs, e1, e2⟩ := hx i (by rw [hmm]; simp; omega)
      refine ⟨cs, e1, ?_⟩
      obtain ⟨_, hlen, _⟩ := World.cells?_some e1
      obtain ⟨n0, f0, w0⟩ := Bas.open_field_int (kd := .u32) 0 _ Try.underlying52 e2 rfl (by kernel_rfl) (by rw [hc3]; decide) (by kernel_rfl)
      obtain ⟨n1, f1, w1⟩ := Bas.open_field_int (kd := .u32) 1 _ Try.underlying52 e2 rfl (by kernel_rfl) (by rw [hc3]; decide) (by kernel_rfl)
      obtain ⟨_, v2, y2, m2, f2, t2⟩ := Bas.open_field 2 _ Try.underlying52 e2 rfl (by kernel_rfl) (by rw [hc3]; decide)
      obtain ⟨a2, l2, c2, z2, rfl, hz⟩ := Bas.open_bytes (e := 5) (by kernel_rfl) Try.underlying5 (by kernel_rfl) t2
      refine ⟨(⟨n0, n1, z2.take l2⟩, .slice a2 l2 c2), list3 hlen f0 f1 f2, ⟨_, _, _, _, rfl, hz, rfl⟩, Bas.wf_u32 w0, Bas.wf_u32 w1, fun y hy => ?_⟩
      rcases hz with ⟨rfl, rfl, rfl, rfl⟩ | ⟨q, rfl, _, _, _, _, hwz⟩
      · cases hy
      · exact Bas.wf_u8 (hwz y (List.mem_of_mem_take hy)))
    subst h1
    refine ⟨l.map Prod.fst, ⟨l.map Prod.snd, by simp, by rw [zip_self, List.length_map]; exact h2, fun j s d hs hd => ?_⟩, fun s hs => ?_⟩
    · rw [List.getElem?_map] at hs hd
      cases hj : l[j]? with
      | none => rw [hj] at hs; cases hs
      | some y =>
        rw [hj] at hs hd
        cases hs; cases hd
        exact (h3 y (List.mem_of_getElem? hj)).1
    · obtain ⟨y, hy, rfl⟩ := List.mem_map.1 hs
      exact (h3 y hy).2

theorem open_chains {fuel : Nat} {v : Value} {x : DataW H × List MemPlace} (h : DataW.trod enc Try.prog w base (fun _ => true) held fuel 22 [v] = some x) :
    ∃ l : List WChain, WChains0 w v l ∧ ∀ c ∈ l, rgChain c := by
  rcases Go.Deep.open_slice Try.underlying22 h with ⟨h0, _⟩ | ⟨a, len, cap, m, n, D, Pl, h0, _, hl, hm, hmm, _, hx⟩
  · cases h0
    exact ⟨[], ⟨[], rfl, .inl ⟨rfl, rfl, rfl⟩, fun j s d hs => by simp at hs⟩, fun r hr => by cases hr⟩
  · cases h0
    have hc4 : Try.prog.cellsOf 42 = 4 := by kernel_rfl
    rw [hc4] at hx
    obtain ⟨l, h1, h2, h3⟩ := Bas.open_elems (f := wChainC) (good := fun x => (Row.Leads w x.2.1 x.1.rules.length (x.1.rules.flatMap wRuleC) ∧ WSubs0 w x.2.2 x.1.subs) ∧ rgChain x.1) (by omega) wChainC_len (w := w) (base := base) (a := a) (len := len) (cap := cap) (fun i hi => by
      obtain ⟨cs, e1, e2⟩ := hx i (by rw [hmm]; simp; omega)
      refine ⟨cs, e1, ?_⟩
      obtain ⟨_, hlen, _⟩ := World.cells?_some e1
      obtain ⟨n0, f0, w0⟩ := Bas.open_field_int (kd := .u32) 0 _ Try.underlying42 e2 rfl (by kernel_rfl) (by rw [hc4]; decide) (by kernel_rfl)
      obtain ⟨_, v1, y1, m1, f1, t1⟩ := Bas.open_field 1 _ Try.underlying42 e2 rfl (by kernel_rfl) (by rw [hc4]; decide)
      obtain ⟨_, v2, y2, m2, f2, t2⟩ := Bas.open_field 2 _ Try.underlying42 e2 rfl (by kernel_rfl) (by rw [hc4]; decide)
      obtain ⟨n3, f3, w3⟩ := Bas.open_field_int (kd := .u8) 3 _ Try.underlying42 e2 rfl (by kernel_rfl) (by rw [hc4]; decide) (by kernel_rfl)
      obtain ⟨lr, hr1, hr2⟩ := open_rules t1
      obtain ⟨ls, hs1, hs2⟩ := open_subs t2
      exact ⟨(⟨n0, lr, ls, n3⟩, (v1, v2)), list4 hlen f0 f1 f2 f3, ⟨hr1, hs1⟩, Bas.wf_u32 w0, Bas.wf_u8 w3, hr2, hs2⟩)
    subst h1
    refine ⟨l.map Prod.fst, ⟨l.map Prod.snd, by simp, by rw [zip_self, List.length_map]; exact h2, fun j s d hs hd => ?_⟩, fun s hs => ?_⟩
    · rw [List.getElem?_map] at hs hd
      cases hj : l[j]? with
      | none => rw [hj] at hs; cases hs
      | some y =>
        rw [hj] at hs hd
        cases hs; cases hd
        exact (h3 y (List.mem_of_getElem? hj)).1
    · obtain ⟨y, hy, rfl⟩ := List.mem_map.1 hs
      exact (h3 y hy).2
end
end Ch
end Go.Proofs.Ytgddghplhdmfdaa
