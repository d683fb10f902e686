/- Rows of the call's own, of whatever elements: appended to, read. -/
import Derived.Test.YtkmbeohheblhhaaBase
import Derived.Laws.AppendOwnNone
namespace Go.Proofs.Ytkmbeohheblhhaa
open Go.RowKit
namespace Row

/-- A goal that the steps leave alone: 'at_builtin; refine Row.fence ?_' stops a walk at an append. -/
def Fence (p : Prop) : Prop := p
theorem fence {p : Prop} (h : Fence p) : p := h
theorem unfence {p : Prop} (h : p) : Fence p := h

/-- What a slice leads to: nil, or cells that hold 'news'. -/
def Leads (w : World) (v : Value) (len : Nat) (news : List Value) : Prop :=
  (v = .slice none 0 0 ∧ len = 0 ∧ news = []) ∨ ∃ ad cap, v = .slice (some ad) len cap ∧ ∀ j u, news[j]? = some u → w.cell? (ad.add j) = some u

/-- 'append(dst, src...)', dst a row of the call's own (or nil), src whatever leads to cells. -/
theorem append_any {P : Program} {w : World} {ops : Array Oper} {rest : List Oper} {o : Oper} {a : Act} {Q : Exit → Act → World → Prop} (hgd : o.guard = none) (s x : Operand) (t e : TypeId)
    (ho : o.op = .call { callee := .builtin .append, args := #[s, x], argTypes := #[t, t] })
    (z : Value) (size bytes : Nat) (ht : P.underlying t = some (.slice e)) (hinfo : (P.info? e).map (fun i => (i.zero, i.size, i.bytes)) = some (some z, size, bytes)) (hzs : z.cells.size = size) (hsz : 0 < size)
    (base : Nat) (v : Value) (n : Nat) (xs : List Value) (hs : a.eval s = v) (hown : w.ownsRow base e size v n xs)
    (vx : Value) (len : Nat) (news : List Value) (hx : a.eval x = vx) (hl : Leads w vx len news) (hln : news.length = len * size) (h1 : ∀ u ∈ news, u.oneCell' = true)
    (h63 : n + len ≤ maxLen) (hbd : (n + len) * bytes ≤ 140737488355328) (hbase : base ≤ w.heap.size)
    (h : ∀ v' w', w'.ownsRow base e size v' (n + len) (xs ++ news) → w.grownBy w' v.ownBlock → (v' = .slice none 0 0 → v = .slice none 0 0) → wpList P ops Q rest (a.put o.dst v') w') :
    wpList P ops Q (o :: rest) a w := by
  obtain ⟨i8, hi8, hz1, hz2, hz3⟩ := info_parts hinfo
  rcases hl with ⟨rfl, rfl, rfl⟩ | ⟨ad, cap, rfl, hc⟩
  · exact wpList_append_own_none hgd s x t ho base e i8 size ht hi8 v n _ hs hown hx (h v w (by simpa using hown) (Bas.grefl _ _) id)
  · refine wpList_append_own _ hgd s x t ho base e i8 z size bytes ht hi8 hz1 hz2 hz3 hzs hsz v n _ hs hown ad len cap news hx hln hc h1 h63 hbd hbase ?_
    intro v' w' h1 h2 h3
    exact h v' w' h1 h2 (fun e => (h3.1 e).1)

/-- A row of the call's own leads to its cells. -/
theorem leads_owned {w : World} {base : Nat} {e : TypeId} {size : Nat} {v : Value} {n : Nat} {xs : List Value} (h : w.ownsRow base e size v n xs) : Leads w v n xs := by
  obtain ⟨hlen, ⟨rfl, rfl⟩ | ⟨g, cap, cur, rfl, hg, hh, hc, hm, hs, ht⟩⟩ := h
  · exact .inl ⟨rfl, rfl, List.length_eq_zero_iff.1 (by simpa using hlen)⟩
  · refine .inr ⟨_, cap, rfl, fun j u hu => ?_⟩
    rw [Addr.add_lit, Nat.zero_add]
    have hj : j < xs.length := (List.getElem?_eq_some_iff.1 hu).1
    have h1 : (cur.toList.take (n * size))[j]? = xs[j]? := by rw [ht]
    rw [List.getElem?_take_of_lt (by omega), hu] at h1
    simp [World.cell?, hh, ← Array.getElem?_toList, h1]

/-- A new slice of one element, of one cell. -/
theorem leads_one (w : World) (x : Value) (t : TypeId) : Leads (w.alloc (.cells #[x] t)) (.slice (some ⟨w.heap.size, 0, none⟩) 1 1) 1 [x] :=
  .inr ⟨_, 1, rfl, fun j u hu => by
    have hj : j = 0 := by
      have := (List.getElem?_eq_some_iff.1 hu).1
      simpa using this
    subst hj
    rw [Addr.add_lit]
    simpa using hu⟩

theorem owned_nil (w : World) (base : Nat) (e : TypeId) (size : Nat) : w.ownsRow base e size (.slice none 0 0) 0 [] := ⟨by simp, .inl ⟨rfl, rfl⟩⟩

/-- Kept where its block is kept. -/
theorem owned_keep {w w' : World} {base : Nat} {e : TypeId} {size : Nat} {v : Value} {n : Nat} {xs : List Value} (h : w.ownsRow base e size v n xs) (hk : ∀ g, v.ownBlock = some g → w'.heap[g]? = w.heap[g]?) : w'.ownsRow base e size v n xs := by
  obtain ⟨hlen, h0 | ⟨g, cap, cur, rfl, hg, hh, r⟩⟩ := h
  · exact ⟨hlen, .inl h0⟩
  · exact ⟨hlen, .inr ⟨g, cap, cur, rfl, hg, (hk g rfl).trans hh, r⟩⟩

theorem owned_below {w w' : World} {base : Nat} {e : TypeId} {size : Nat} {v : Value} {n : Nat} {xs : List Value} (h : w.ownsRow base e size v n xs) (hb : Below w.heap.size w w') : w'.ownsRow base e size v n xs :=
  owned_keep h fun g hg => by
    obtain ⟨hlen, ⟨rfl, _⟩ | ⟨g', cap, cur, rfl, hg', hh, r⟩⟩ := h
    · cases hg
    · cases hg; exact hb.block g' (Array.getElem?_eq_some_iff.1 hh).1

theorem owned_base {w : World} {base base' : Nat} {e : TypeId} {size : Nat} {v : Value} {n : Nat} {xs : List Value} (h : w.ownsRow base e size v n xs) (hb : base' ≤ base) : w.ownsRow base' e size v n xs := by
  obtain ⟨hlen, h0 | ⟨g, cap, cur, rfl, hg, r⟩⟩ := h
  · exact ⟨hlen, .inl h0⟩
  · exact ⟨hlen, .inr ⟨g, cap, cur, rfl, by omega, r⟩⟩

/-- What an owned row is: nil, or a block. -/
theorem owned_parts {w : World} {base : Nat} {e : TypeId} {size : Nat} {v : Value} {n : Nat} {xs : List Value} (h : w.ownsRow base e size v n xs) :
    (v = .slice none 0 0 ∧ n = 0 ∧ xs = []) ∨ ∃ g cap, v = .slice (some ⟨g, 0, none⟩) n cap ∧ base ≤ g ∧ g < w.heap.size ∧ n ≤ cap ∧ cap ≤ maxLen ∧ (∀ j u, xs[j]? = some u → w.cell? ⟨g, j, none⟩ = some u) ∧ ∀ o, w.frozen? ⟨g, o, none⟩ = false := by
  have hl := leads_owned h
  obtain ⟨hlen, ⟨rfl, rfl⟩ | ⟨g, cap, cur, rfl, hg, hh, hc, hm, hs, ht⟩⟩ := h
  · exact .inl ⟨rfl, rfl, List.length_eq_zero_iff.1 (by simpa using hlen)⟩
  · refine .inr ⟨g, cap, rfl, hg, (Array.getElem?_eq_some_iff.1 hh).1, hc, hm, fun j u hu => ?_, fun o => by simp [World.frozen?, hh]⟩
    rcases hl with ⟨h0, _⟩ | ⟨ad, cap', he, hcl⟩
    · cases h0
    · cases he
      have := hcl j u hu
      rwa [Addr.add_lit, Nat.zero_add] at this

theorem own_block {w : World} {base : Nat} {e : TypeId} {size : Nat} {v : Value} {n : Nat} {xs : List Value} (h : w.ownsRow base e size v n xs) {g : Nat} (hg : v.ownBlock = some g) : base ≤ g ∧ g < w.heap.size := by
  obtain ⟨_, ⟨rfl, _⟩ | ⟨g', cap, cur, rfl, hb, hh, _⟩⟩ := h
  · cases hg
  · cases hg
    exact ⟨hb, (Array.getElem?_eq_some_iff.1 hh).1⟩
end Row
end Go.Proofs.Ytkmbeohheblhhaa
