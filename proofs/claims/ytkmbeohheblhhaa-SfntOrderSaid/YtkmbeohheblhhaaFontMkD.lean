/- Layer 2 (the reference's Make): what it writes. -/
import Derived.Test.YtkmbeohheblhhaaFontLeast
import Derived.Test.YtkmbeohheblhhaaTwoRows
import Derived.Test.YtkmbeohheblhhaaNumB
import Derived.Lib.ConvBytes
namespace Go.Proofs.Ytkmbeohheblhhaa
open Go.RowKit
namespace Fo
open Vw Wr

instance : Inhabited PartD := ⟨⟨⟨#[]⟩, []⟩⟩

def PParts (w : World) (v : Value) (L : List PartD) : Prop := ∃ rs : List Value, rs.length = L.length ∧ Row.Leads w v L.length ((L.zip rs).flatMap pC) ∧
  ∀ (i : Nat) (c : PartD) (r : Value), L[i]? = some c → rs[i]? = some r → Row.Leads w r c.data.length (c.data.flatMap u8C)
theorem PParts.below {w w' : World} {v : Value} {L : List PartD} (h : PParts w v L) (hb : Below w.heap.size w w') : PParts w' v L := by
  obtain ⟨rs, h1, h2, h3⟩ := h
  exact ⟨rs, h1, Row.leads_below h2 hb, fun i c r hc hr => Row.leads_below (h3 i c r hc hr) hb⟩

/-- The order in which the parts are taken. -/
def ordered (T : List ByteArray) : ByteArray → Bool → List Nat → Prop
  | _, _, [] => True
  | last, f, i :: O => leastTo T last f T.length = i ∧ i < T.length ∧ (T.getD i ⟨#[]⟩).size = 4 ∧ ordered T (T.getD i ⟨#[]⟩) false O

def tagB (s : ByteArray) : List Int := s.data.toList.map fun x => (x.toNat : Int)
def pad4 (n : Nat) : Nat := (n + 3) / 4 * 4
def headM (n : Nat) (near most : Int) : List Int := putB 65536 4 ++ putB (n : Int) 2 ++ putB near 2 ++ putB most 2 ++ putB (16 * (n : Int) - near) 2
def rowM (at' : Nat) (p : PartD) : List Int := tagB p.tag ++ putB (sumL p.data) 4 ++ putB (at' : Int) 4 ++ putB (p.data.length : Int) 4
def bodyM (p : PartD) : List Int := p.data ++ List.replicate (pad4 p.data.length - p.data.length) 0
def rowsM : Nat → List PartD → List Int
  | _, [] => []
  | at', p :: l => rowM at' p ++ rowsM (at' + pad4 p.data.length) l
def makeM (P : List PartD) (near most : Int) : List Int := headM P.length near most ++ rowsM (12 + 16 * P.length) P ++ P.flatMap bodyM

theorem pad4_le (n : Nat) : n ≤ pad4 n ∧ pad4 n ≤ n + 3 ∧ pad4 n % 4 = 0 := by unfold pad4; omega
theorem bodyM_len (p : PartD) : (bodyM p).length = pad4 p.data.length := by
  have := pad4_le p.data.length
  simp [bodyM]; omega
theorem tagB_len (s : ByteArray) : (tagB s).length = s.size := by unfold tagB; rw [List.length_map, Array.length_toList]; rfl
theorem headM_len (n : Nat) (a b : Int) : (headM n a b).length = 12 := by simp [headM, putB_len]
theorem rowM_len (at' : Nat) (p : PartD) (h : p.tag.size = 4) : (rowM at' p).length = 16 := by simp [rowM, putB_len, tagB_len, h]

/-- Where the body of the k-th part stands. -/
def atM (P : List PartD) (k : Nat) : Nat := 12 + 16 * P.length + ((P.take k).flatMap bodyM).length
theorem atM_succ (P : List PartD) (k : Nat) (p : PartD) (h : P[k]? = some p) : atM P (k + 1) = atM P k + pad4 p.data.length := by
  unfold atM
  rw [Row.take_flat bodyM P k p h, List.length_append, bodyM_len]; omega
theorem rowsM_snoc (p : PartD) : ∀ (l : List PartD) (a : Nat), rowsM a (l ++ [p]) = rowsM a l ++ rowM (a + (l.flatMap bodyM).length) p
  | [], a => by simp [rowsM]
  | q :: l, a => by
    rw [List.cons_append, rowsM, rowsM_snoc p l, rowsM, List.append_assoc, List.flatMap_cons, List.length_append, bodyM_len, Nat.add_assoc]
theorem rowsM_take (P : List PartD) (k : Nat) (p : PartD) (h : P[k]? = some p) : rowsM (12 + 16 * P.length) (P.take (k + 1)) = rowsM (12 + 16 * P.length) (P.take k) ++ rowM (atM P k) p := by
  rw [List.take_add_one, h]
  exact rowsM_snoc p _ _
theorem rowsM_len (l : List PartD) (h : ∀ p ∈ l, p.tag.size = 4) : ∀ a, (rowsM a l).length = 16 * l.length := by
  induction l with
  | nil => intro a; rfl
  | cons p l ih =>
    intro a
    rw [rowsM, List.length_append, rowM_len _ _ (h p (by simp)), ih (fun q hq => h q (by simp [hq])), List.length_cons]; omega

theorem u8_flat (l : List Int) : l.flatMap u8C = l.map (Value.int .u8) := by
  induction l with
  | nil => rfl
  | cons x l ih => rw [List.flatMap_cons, ih]; rfl

/-- What '[]byte(s)' lays reads as the string's bytes, and nothing else has changed. -/
theorem leads_bytes (w : World) (s : ByteArray) (cap : Nat) : Row.Leads (Lib.bytesWorld w 5 s) (.slice (some ⟨w.heap.size, 0, none⟩) s.size cap) s.size ((tagB s).map (Value.int .u8)) := by
  refine .inr ⟨_, cap, rfl, fun j u hu => ?_⟩
  have hj : j < s.size := by
    have := (List.getElem?_eq_some_iff.1 hu).1
    rwa [List.length_map, tagB_len] at this
  rw [Addr.add_lit, Nat.zero_add, Lib.bytesWorld_cell _ _ _ _ hj]
  have hd : j < s.data.toList.length := by rw [Array.length_toList]; exact hj
  unfold tagB at hu
  rw [List.getElem?_map, List.getElem?_map, List.getElem?_eq_getElem hd] at hu
  simp only [Option.map_some, Option.some.injEq] at hu
  rw [← hu, List.getD_eq_getElem?_getD, List.getElem?_eq_getElem hd]
  rfl
end Fo
end Go.Proofs.Ytkmbeohheblhhaa
