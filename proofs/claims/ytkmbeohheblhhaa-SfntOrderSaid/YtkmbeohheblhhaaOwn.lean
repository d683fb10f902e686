/- Rows of bytes of the call's own: read as strings, written one by one. -/
import Derived.Test.YtkmbeohheblhhaaVArg
import Derived.Laws.AppendOwnNone
namespace Go.Proofs.Ytkmbeohheblhhaa
open Go.RowKit
namespace Vw

theorem VB.nil {w : World} {bs : List Int} (h : VB w none bs) : bs = [] := by
  cases bs with
  | nil => rfl
  | cons x l => obtain ⟨b, o, hb, _⟩ := h.cell 0 (by simp); cases hb

theorem sub_none {a : Option Addr} {p n : Nat} (h : sub a p n = none) : a = none := by
  unfold sub at h
  split at h
  · exact h
  · simpa using h

theorem VB.block {w : World} {b o : Nat} {bs : List Int} {u : World} (h : VB w (some ⟨b, o, none⟩) bs) (hh : u.heap[b]? = w.heap[b]?) : VB u (some ⟨b, o, none⟩) bs :=
  ⟨h.len, h.byte, fun i hi => by
    obtain ⟨b', o', hab, hc⟩ := h.cell i hi
    simp only [Option.some.injEq, Addr.mk.injEq, and_true] at hab
    obtain ⟨rfl, rfl⟩ := hab
    exact ⟨b, o, rfl, (World.cell?_of_block (w := w) hh).trans hc⟩⟩

/-- 'string(b)'. -/
theorem conv_vb {w : World} {a : Option Addr} {bs : List Int} (h : VB w a bs) (len cap : Nat) (hl : bs.length = len) :
    (convert 22 9 (.slice a len cap)).run Try.prog w = .ok (.string (strOfNums bs)) w := by
  cases a with
  | none =>
    have : bs = [] := by
      cases bs with
      | nil => rfl
      | cons x l => obtain ⟨b, o, hb, _⟩ := h.cell 0 (by simp); cases hb
    subst this
    exact run_convert_bytes_nil w 22 5 Try.underlying22 Try.underlying5 len cap 9 Try.underlying9
  | some ad =>
    rw [run_convert_bytes_string w 22 9 5 _ len cap Try.underlying22 Try.underlying5 Try.underlying9]
    have hl' := run_loadCells_list (P := Try.prog) w ad (bs.map (Value.int .u8)) (fun j v hj => by
      simp only [List.getElem?_map, Option.map_eq_some_iff] at hj
      obtain ⟨x, hx, rfl⟩ := hj
      have hj : j < bs.length := (List.getElem?_eq_some_iff.1 hx).1
      obtain ⟨b, o, hab, hcell⟩ := h.cell j hj
      simp only [Option.some.injEq] at hab
      subst hab
      rw [List.getD_eq_getElem?_getD, hx] at hcell
      rw [Addr.add_lit]
      exact hcell)
    rw [List.length_map, hl] at hl'
    rw [run_bytesToString w ad len cap bs hl', foldl_push_bytes]
    simp [strOfNums, ByteArray.empty, ByteArray.emptyWithCapacity]
    rfl

/-- Block g is a row of bytes that may be written. -/
def OwnB (w : World) (g n : Nat) : Prop := ∃ cur, w.heap[g]? = some (.cells cur 5 (0, 0)) ∧ ∀ i, i < n → ∃ y, cur[i]? = some (.int .u8 y)

theorem OwnB.cell {w : World} {g n : Nat} (h : OwnB w g n) (i : Nat) (hi : i < n) : ∃ y, w.cell? ⟨g, i, none⟩ = some (.int .u8 y) := by
  obtain ⟨cur, hg, hc⟩ := h
  obtain ⟨y, hy⟩ := hc i hi
  exact ⟨y, by simp [World.cell?, hg, hy]⟩

theorem OwnB.free {w : World} {g n : Nat} (h : OwnB w g n) (i : Nat) : w.frozen? ⟨g, i, none⟩ = false := by
  obtain ⟨cur, hg, hc⟩ := h
  simp [World.frozen?, hg]

theorem OwnB.set {w : World} {g n : Nat} (h : OwnB w g n) (i : Nat) (y : Int) : OwnB (w.setCell ⟨g, i, none⟩ (.int .u8 y)) g n := by
  obtain ⟨cur, hg, hc⟩ := h
  refine ⟨cur.setIfInBounds i (.int .u8 y), by simp [World.setCell, Array.getElem?_modify, hg], fun j hj => ?_⟩
  obtain ⟨z, hz⟩ := hc j hj
  by_cases hij : i = j
  · subst hij
    exact ⟨y, by simp [(Array.getElem?_eq_some_iff.1 hz).1]⟩
  · exact ⟨z, by rw [Array.getElem?_setIfInBounds_ne hij]; exact hz⟩

theorem OwnB.below {w w' : World} {g n : Nat} (h : OwnB w g n) (hb : Below w.heap.size w w') (hg : g < w.heap.size) : OwnB w' g n := by
  obtain ⟨cur, h1, h2⟩ := h
  exact ⟨cur, (hb.block g hg).trans h1, h2⟩

theorem OwnB.block {w u : World} {g n : Nat} (h : OwnB w g n) (hh : u.heap[g]? = w.heap[g]?) : OwnB u g n := by
  obtain ⟨cur, h1, h2⟩ := h
  exact ⟨cur, hh.trans h1, h2⟩

/-- What an owned row of bytes is. -/
theorem owned {w : World} {base : Nat} {v : Value} {n : Nat} {bs : List Int} (h : w.ownsRow base 5 1 v n (bs.map (Value.int .u8))) (hne : v ≠ .slice none 0 0) (hn : n = bs.length) (hb : ∀ x ∈ bs, 0 ≤ x ∧ x ≤ 255) (hl : bs.length ≤ 140737488355328) :
    ∃ g cap, v = .slice (some ⟨g, 0, none⟩) n cap ∧ base ≤ g ∧ g < w.heap.size ∧ n ≤ cap ∧ cap ≤ maxLen ∧ VB w (some ⟨g, 0, none⟩) bs ∧ OwnB w g n := by
  obtain ⟨hlen, ⟨rfl, _⟩ | ⟨g, cap, cur, rfl, hg, hh, hc, hm, hs, ht⟩⟩ := h
  · exact absurd rfl hne
  · have hcur : ∀ i, i < n → cur[i]? = some (.int .u8 (bs.getD i 0)) := by
      intro i hi
      have h1 : (cur.toList.take (n * 1))[i]? = (bs.map (Value.int .u8))[i]? := by rw [ht]
      rw [List.getElem?_take_of_lt (by omega)] at h1
      rw [← Array.getElem?_toList, h1, List.getElem?_map, List.getElem?_eq_getElem (by omega)]
      simp [show i < bs.length by omega]
    refine ⟨g, cap, rfl, hg, (Array.getElem?_eq_some_iff.1 hh).1, hc, hm, ⟨hl, hb, fun i hi => ⟨g, 0, rfl, ?_⟩⟩, cur, hh, fun i hi => ⟨_, hcur i hi⟩⟩
    simp [World.cell?, hh, hcur i (by omega)]

theorem grownBy_refl (w : World) (r : Option Nat) : w.grownBy w r := ⟨rfl, rfl, rfl, Nat.le_refl _, fun _ _ _ => rfl⟩

/-- 'append(dst, src...)', dst a row of bytes of the call's own (or nil), src any bytes. -/
theorem append_vb {w : World} {ops : Array Oper} {rest : List Oper} {o : Oper} {a : Act} {Q : Exit → Act → World → Prop} (hgd : o.guard = none) (s x : Operand)
    (ho : o.op = .call { callee := .builtin .append, args := #[s, x], argTypes := #[22, 22] })
    (base : Nat) (v : Value) (n : Nat) (xs : List Int) (hs : a.eval s = v) (hown : w.ownsRow base 5 1 v n (xs.map (Value.int .u8)))
    (ax : Option Addr) (len cap : Nat) (bs : List Int) (hx : a.eval x = .slice ax len cap) (hv : VB w ax bs) (hbl : bs.length = len) (hnil : ax = none → cap = 0)
    (hbd : n + len ≤ 140737488355328) (hbase : base ≤ w.heap.size)
    (h : ∀ v' w', w'.ownsRow base 5 1 v' (n + len) ((xs ++ bs).map (Value.int .u8)) → w.grownBy w' v.ownBlock → (v' = .slice none 0 0 → v = .slice none 0 0) → wpList Try.prog ops Q rest (a.put o.dst v') w') :
    wpList Try.prog ops Q (o :: rest) a w := by
  obtain ⟨i8, hi8, hz1, hz2, hz3⟩ := info_parts info8
  cases ax with
  | none =>
    obtain rfl : cap = 0 := hnil rfl
    have hbs : bs = [] := by
      cases bs with
      | nil => rfl
      | cons y l => obtain ⟨b, o, hb, _⟩ := hv.cell 0 (by simp); cases hb
    subst hbs
    obtain rfl : len = 0 := by simpa using hbl.symm
    exact wpList_append_own_none hgd s x 22 ho base 5 i8 1 Try.underlying22 hi8 v n _ hs hown hx (h v w (by simpa using hown) (grownBy_refl _ _) id)
  | some ad =>
    refine wpList_append_own _ hgd s x 22 ho base 5 i8 (.int .u8 0) 1 1 Try.underlying22 hi8 hz1 hz2 hz3 rfl (by decide) v n _ hs hown ad len cap (bs.map (Value.int .u8)) hx (by simp [hbl]) ?_ ?_ (by unfold maxLen; omega) (by omega) hbase ?_
    · intro j u hu
      simp only [List.getElem?_map, Option.map_eq_some_iff] at hu
      obtain ⟨y, hy, rfl⟩ := hu
      have hj : j < bs.length := (List.getElem?_eq_some_iff.1 hy).1
      obtain ⟨b, o, hab, hcell⟩ := hv.cell j hj
      simp only [Option.some.injEq] at hab
      subst hab
      rw [List.getD_eq_getElem?_getD, hy] at hcell
      rw [Addr.add_lit]
      exact hcell
    · intro u hu
      obtain ⟨y, _, rfl⟩ := List.mem_map.1 hu
      rfl
    · intro v' w' h1 h2 h3
      exact h v' w' (by rw [List.map_append]; exact h1) h2 (fun e => (h3.1 e).1)
end Vw
end Go.Proofs.Ytkmbeohheblhhaa
