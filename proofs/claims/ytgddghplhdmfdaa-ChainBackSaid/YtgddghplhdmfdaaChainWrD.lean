/- The law's own Write (layer 19): what it is handed, and what it writes. -/
import Derived.Test.YtgddghplhdmfdaaRowC
import Derived.Test.YtgddghplhdmfdaaChainD
import Derived.Test.YtgddghplhdmfdaaZeros
import Derived.Test.YtgddghplhdmfdaaPlanG
namespace Go.Proofs.Ytgddghplhdmfdaa
open Go.RowKit
namespace Vw
theorem VB_apart {w w' : World} {a : Option Addr} {D : List Int} {r : Option Nat} (h : VB w a D) (hg : w.grownBy w' r) (hr : ∀ g, r = some g → ∀ x, a = some x → D ≠ [] → x.block ≠ g) : VB w' a D :=
  ⟨h.len, h.byte, fun i hi => by
    obtain ⟨b, o, h1, h2⟩ := h.cell i hi
    refine ⟨b, o, h1, (Bas.gcell hg (World.block_lt_of_cell? _ _ h2) (fun e => ?_)).trans h2⟩
    exact hr _ e _ h1 (by intro e0; rw [e0] at hi; simp at hi) rfl⟩
end Vw
namespace Ch
open Vw Wr

structure WSub where
  cover : Int
  flags : Int
  data : List Int

structure WChain where
  first : Int
  rules : List RuleD
  subs : List WSub
  more : Int

def wRuleC (r : RuleD) : List Value := [.int .u16 r.type, .int .u16 r.value, .int .u32 r.enable, .int .u32 r.disable]
def wSubC (x : WSub × Value) : List Value := [.int .u32 x.1.cover, .int .u32 x.1.flags, x.2]
def wChainC (x : WChain × (Value × Value)) : List Value := [.int .u32 x.1.first, x.2.1, x.2.2, .int .u8 x.1.more]

def okRule (r : RuleD) : Prop := (0 ≤ r.type ∧ r.type ≤ 65535) ∧ (0 ≤ r.value ∧ r.value ≤ 65535) ∧ (0 ≤ r.enable ∧ r.enable ≤ 4294967295) ∧ (0 ≤ r.disable ∧ r.disable ≤ 4294967295)
def okSub (s : WSub) : Prop := (0 ≤ s.cover ∧ s.cover ≤ 4294967295) ∧ (0 ≤ s.flags ∧ s.flags ≤ 4294967295) ∧ (∀ x ∈ s.data, 0 ≤ x ∧ x ≤ 255) ∧ s.data.length ≤ 300
def okChain (c : WChain) : Prop := (0 ≤ c.first ∧ c.first ≤ 4294967295) ∧ (0 ≤ c.more ∧ c.more ≤ 255) ∧ (∀ r ∈ c.rules, okRule r) ∧ (∀ s ∈ c.subs, okSub s) ∧ c.rules.length ≤ 40 ∧ c.subs.length ≤ 10

def WData (w : World) (v : Value) (D : List Int) : Prop := ∃ a cap, v = .slice a D.length cap ∧ VB w a D ∧ D.length ≤ cap ∧ cap ≤ maxLen ∧ (a = none → cap = 0)
def WSubs (w : World) (v : Value) (l : List WSub) : Prop := ∃ ds : List Value, ds.length = l.length ∧ Row.Leads w v l.length ((l.zip ds).flatMap wSubC) ∧ ∀ (j : Nat) (s : WSub) (d : Value), l[j]? = some s → ds[j]? = some d → WData w d s.data
def WChains (w : World) (v : Value) (l : List WChain) : Prop := ∃ rs : List (Value × Value), rs.length = l.length ∧ Row.Leads w v l.length ((l.zip rs).flatMap wChainC) ∧
  ∀ (i : Nat) (c : WChain) (r : Value × Value), l[i]? = some c → rs[i]? = some r → Row.Leads w r.1 c.rules.length (c.rules.flatMap wRuleC) ∧ WSubs w r.2 c.subs

/-- Bytes lead to their cells. -/
theorem vb_leads {w : World} {a : Option Addr} {D : List Int} (h : VB w a D) (cap : Nat) (hn : a = none → cap = 0) : Row.Leads w (.slice a D.length cap) D.length (D.map (Value.int .u8)) := by
  cases a with
  | none =>
    have h0 : D = [] := by
      cases D with
      | nil => rfl
      | cons x D => obtain ⟨b, o, h1, _⟩ := h.cell 0 (by simp); cases h1
    subst h0
    rw [hn rfl]
    exact .inl ⟨rfl, rfl, rfl⟩
  | some x =>
    refine .inr ⟨x, cap, rfl, fun j u hu => ?_⟩
    have hj : j < D.length := by have := (List.getElem?_eq_some_iff.1 hu).1; simpa using this
    obtain ⟨b, o, h1, h2⟩ := h.cell j hj
    cases h1
    rw [Addr.add_lit, h2]
    rw [List.getElem?_map, List.getElem?_eq_getElem hj] at hu
    rw [← hu]; simp [hj]

theorem WData.below {w w' : World} {v : Value} {D : List Int} (h : WData w v D) (hb : Below w.heap.size w w') : WData w' v D := by
  obtain ⟨a, cap, h1, h2, h3⟩ := h
  exact ⟨a, cap, h1, h2.below hb, h3⟩
theorem WSubs.below {w w' : World} {v : Value} {l : List WSub} (h : WSubs w v l) (hb : Below w.heap.size w w') : WSubs w' v l := by
  obtain ⟨ds, h1, h2, h3⟩ := h
  exact ⟨ds, h1, Row.leads_below h2 hb, fun j s d hs hd => (h3 j s d hs hd).below hb⟩
theorem WChains.below {w w' : World} {v : Value} {l : List WChain} (h : WChains w v l) (hb : Below w.heap.size w w') : WChains w' v l := by
  obtain ⟨rs, h1, h2, h3⟩ := h
  exact ⟨rs, h1, Row.leads_below h2 hb, fun i c r hc hr => ⟨Row.leads_below (h3 i c r hc hr).1 hb, (h3 i c r hc hr).2.below hb⟩⟩

def ruleB (r : RuleD) : List Int := putB r.type 2 ++ putB r.value 2 ++ putB r.enable 4 ++ putB r.disable 4
def subB (s : WSub) : List Int := putB (12 + (s.data.length : Int)) 4 ++ putB s.cover 4 ++ putB s.flags 4 ++ s.data
def inB (c : WChain) : List Int := c.rules.flatMap ruleB ++ c.subs.flatMap subB ++ List.replicate (c.more % 8).toNat 0
def chainB (c : WChain) : List Int := putB c.first 4 ++ putB (16 + ((inB c).length : Int)) 4 ++ putB (c.rules.length : Int) 4 ++ putB (c.subs.length : Int) 4 ++ inB c
def headB (n : Nat) : List Int := putB 2 2 ++ putB 0 2 ++ putB (n : Int) 4
def writeB (l : List WChain) : List Int := headB l.length ++ l.flatMap chainB

theorem ruleB_len (r : RuleD) : (ruleB r).length = 12 := by simp [ruleB, putB_len]
theorem subB_len (s : WSub) : (subB s).length = 12 + s.data.length := by simp [subB, putB_len]; omega
theorem headB_len (n : Nat) : (headB n).length = 8 := by simp [headB, putB_len]
theorem inB_len_le (c : WChain) (h : okChain c) : (inB c).length ≤ 3607 := by
  obtain ⟨_, h2, _, h4, h5, h6⟩ := h
  have a1 := Row.flat_len_le ruleB 12 c.rules (fun r _ => by rw [ruleB_len]; exact Nat.le_refl _)
  have a2 := Row.flat_len_le subB 312 c.subs (fun s hs => by rw [subB_len]; have := (h4 s hs).2.2.2; omega)
  simp only [inB, List.length_append, List.length_replicate]
  omega
theorem chainB_len_le (c : WChain) (h : okChain c) : (chainB c).length ≤ 3623 := by
  have := inB_len_le c h
  simp only [chainB, List.length_append, putB_len]
  omega
theorem wRuleC_len (r : RuleD) : (wRuleC r).length = 4 := rfl
theorem wSubC_len (x : WSub × Value) : (wSubC x).length = 3 := rfl
theorem wChainC_len (x : WChain × (Value × Value)) : (wChainC x).length = 4 := rfl
end Ch
end Go.Proofs.Ytgddghplhdmfdaa
