/- Layer 19 (chain): the plain law: what chains bytes hold. -/
import Derived.Test.YtdmhenlfhbigbaaOwn
import Derived.Test.YtdmhenlfhbigbaaRow
namespace Go.Proofs.Ytdmhenlfhbigbaa
open Go.RowKit
namespace Ch
open Vw

structure RuleD where
  type : Int
  value : Int
  enable : Int
  disable : Int

/-- A subtable: off and len say where its data stand. -/
structure SubD where
  cover : Int
  flags : Int
  at' : Nat
  len : Nat

structure ChainD where
  first : Int
  rules : List RuleD
  subs : List SubD

def ruleAt (bs : List Int) (i : Nat) : RuleD := ⟨be bs (16 + 12 * i) 2, be bs (16 + 12 * i + 2) 2, be bs (16 + 12 * i + 4) 4, be bs (16 + 12 * i + 8) 4⟩
def rulesAt (bs : List Int) (n : Nat) : List RuleD := (List.range n).map (ruleAt bs)

def subsAt (bs : List Int) : Nat → Nat → Option (List SubD)
  | 0, _ => some []
  | k + 1, p => if p + 4 ≤ bs.length ∧ 12 ≤ (be bs p 4).toNat ∧ p + (be bs p 4).toNat ≤ bs.length then (subsAt bs k (p + (be bs p 4).toNat)).map fun l => ⟨be bs (p + 4) 4, be bs (p + 8) 4, p, (be bs p 4).toNat⟩ :: l else none

/-- A chain of its bytes. -/
def parseOne (bs : List Int) : Option ChainD :=
  if 16 ≤ bs.length ∧ 16 + 12 * (be bs 8 4).toNat ≤ bs.length then (subsAt bs (be bs 12 4).toNat (16 + 12 * (be bs 8 4).toNat)).map fun l => ⟨be bs 0 4, rulesAt bs (be bs 8 4).toNat, l⟩ else none

def ruleC (r : RuleD) : List Value := [.int .i64 r.type, .int .i64 r.value, .int .u32 r.enable, .int .u32 r.disable]
def rulesC (l : List RuleD) : List Value := l.flatMap ruleC
/-- A subtable's cells, its bytes being a piece of what a leads to. -/
def subC (a : Option Addr) (s : SubD) : List Value := [.int .u32 s.cover, .int .u32 s.flags, .slice (sub (sub a s.at' s.len) 12 (s.len - 12)) (s.len - 12) (s.len - 12)]
def subsC (a : Option Addr) (l : List SubD) : List Value := l.flatMap (subC a)

theorem rulesAt_succ (bs : List Int) (n : Nat) : rulesAt bs (n + 1) = rulesAt bs n ++ [ruleAt bs n] := by
  unfold rulesAt; rw [List.range_succ, List.map_append]; rfl
theorem rulesAt_len (bs : List Int) (n : Nat) : (rulesAt bs n).length = n := by simp [rulesAt]
theorem rulesC_snoc (l : List RuleD) (r : RuleD) : rulesC (l ++ [r]) = rulesC l ++ ruleC r := by simp [rulesC]
theorem subsC_snoc (a : Option Addr) (l : List SubD) (s : SubD) : subsC a (l ++ [s]) = subsC a l ++ subC a s := by simp [subsC]

theorem be_sub (bs : List Int) (q m i k : Nat) (h : i + k ≤ m) : be ((bs.drop q).take m) i k = be bs (q + i) k := by
  unfold be
  rw [List.drop_take, List.take_take, List.drop_drop, Nat.min_eq_left (by omega)]

theorem vb_sub_sub {w : World} {a : Option Addr} {bs : List Int} (hv : VB w a bs) (q m i k : Nat) (h1 : q + m ≤ bs.length) (h2 : i + k ≤ m) : VB w (sub (sub a q m) i k) ((bs.drop (q + i)).take k) := by
  have h3 := (hv.sub q m h1).sub i k (by rw [List.length_take, List.length_drop]; omega)
  rwa [List.drop_take, List.take_take, List.drop_drop, Nat.min_eq_left (by omega)] at h3

/-- A block of one value, or more, by its number. -/
theorem cell_of_heap {w : World} {b i : Nat} {cs : Array Value} {t : TypeId} {v : Value} (h : w.heap[b]? = some (.cells cs t (0, 0))) (hi : cs[i]? = some v) : w.cell? ⟨b, i, none⟩ = some v := by
  simp [World.cell?, h, hi]
theorem free_of_heap {w : World} {b i : Nat} {cs : Array Value} {t : TypeId} (h : w.heap[b]? = some (.cells cs t (0, 0))) : w.frozen? ⟨b, i, none⟩ = false := by
  simp [World.frozen?, h]
theorem heap_set {w : World} {b i : Nat} {cs : Array Value} {t : TypeId} (h : w.heap[b]? = some (.cells cs t (0, 0))) (v : Value) : (w.setCell ⟨b, i, none⟩ v).heap[b]? = some (.cells (cs.setIfInBounds i v) t (0, 0)) := by
  simp [World.setCell, Array.getElem?_modify, h]
theorem heap_lt {w : World} {b : Nat} {o : Obj} (h : w.heap[b]? = some o) : b < w.heap.size := (Array.getElem?_eq_some_iff.1 h).1
theorem leads_heap {w : World} {g n c : Nat} {cs : List Value} {t : TypeId} (h : w.heap[g]? = some (.cells cs.toArray t (0, 0))) : Row.Leads w (.slice (some ⟨g, 0, none⟩) n c) n cs :=
  .inr ⟨_, c, rfl, fun j u hu => by rw [Addr.add_lit, Nat.zero_add]; exact cell_of_heap h (by simpa using hu)⟩
theorem own_slice {w : World} {base size : Nat} {e : TypeId} {v : Value} {n : Nat} {xs : List Value} (h : w.ownsRow base e size v n xs) : ∃ ad cp, v = .slice ad n cp := by
  rcases Row.owned_parts h with ⟨rfl, rfl, _⟩ | ⟨_, _, h, _⟩
  · exact ⟨_, _, rfl⟩
  · exact ⟨_, _, h⟩
/-- A row of elements of one type is no block of another type. -/
theorem own_ty {w : World} {base : Nat} {v : Value} {n g size : Nat} {xs : List Value} {e t : TypeId} {cs : Array Value} (h : w.ownsRow base e size v n xs) (ho : w.heap[g]? = some (.cells cs t (0, 0))) (hne : e ≠ t) : v.ownBlock ≠ some g := by
  intro e'
  obtain ⟨_, ⟨rfl, _⟩ | ⟨g', cp, cur, rfl, _, hh, _⟩⟩ := h
  · cases e'
  · cases e'
    rw [hh] at ho
    simp at ho
    exact hne ho.2
theorem own_rows_ne {w : World} {b1 b2 s1 s2 n1 n2 g : Nat} {v1 v2 : Value} {x1 x2 : List Value} {e1 e2 : TypeId} (h1 : w.ownsRow b1 e1 s1 v1 n1 x1) (h2 : w.ownsRow b2 e2 s2 v2 n2 x2) (hne : e1 ≠ e2) (hg : v1.ownBlock = some g) : v2.ownBlock ≠ some g := by
  obtain ⟨_, ⟨rfl, _⟩ | ⟨g', cp, cur, rfl, _, hh, _⟩⟩ := h1
  · cases hg
  · cases hg
    exact own_ty h2 hh (fun e => hne e.symm)
end Ch
end Go.Proofs.Ytdmhenlfhbigbaa
