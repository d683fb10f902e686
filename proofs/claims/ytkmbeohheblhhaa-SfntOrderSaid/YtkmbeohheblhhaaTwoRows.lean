/- Two rows of bytes of the call's own, apart from each other. -/
import Derived.Test.YtkmbeohheblhhaaZeros
import Derived.Test.YtkmbeohheblhhaaRowC
import Derived.Test.YtkmbeohheblhhaaPlanG
namespace Go.Proofs.Ytkmbeohheblhhaa
open Go.RowKit
namespace Wr
open Vw

structure TwoRows (w : World) (base : Nat) (v : Value) (xs : List Int) (u : Value) (ys : List Int) : Prop where
  l : w.ownsRow base 5 1 v xs.length (xs.map (Value.int .u8))
  r : w.ownsRow base 5 1 u ys.length (ys.map (Value.int .u8))
  apart : ∀ g, v.ownBlock = some g → u.ownBlock ≠ some g

theorem TwoRows.growL {w w' : World} {base : Nat} {v v' u : Value} {xs xs' ys : List Int} (h : TwoRows w base v xs u ys) (g : Grown w base v xs' v' w') : TwoRows w' base v' xs' u ys :=
  ⟨g.own, Row.owned_keep h.r fun b hb => g.grow.block b (Row.own_block h.r hb).2 (fun e => h.apart b e.symm hb), fun b hb e => by
    rcases g.at' with h1 | ⟨c, h1, h2⟩
    · exact h.apart b (h1 ▸ hb) e
    · rw [h1] at hb; cases hb
      exact absurd (Row.own_block h.r e).2 (Nat.not_lt.2 h2)⟩

theorem TwoRows.growR {w w' : World} {base : Nat} {v u u' : Value} {xs ys ys' : List Int} (h : TwoRows w base v xs u ys) (g : Grown w base u ys' u' w') : TwoRows w' base v xs u' ys' :=
  ⟨Row.owned_keep h.l fun b hb => g.grow.block b (Row.own_block h.l hb).2 (fun e => h.apart b hb e.symm), g.own, fun b hb e => by
    rcases g.at' with h1 | ⟨c, h1, h2⟩
    · exact h.apart b hb (h1 ▸ e)
    · rw [h1] at e; cases e
      exact absurd (Row.own_block h.l hb).2 (Nat.not_lt.2 h2)⟩

theorem TwoRows.below {w w' : World} {base : Nat} {v u : Value} {xs ys : List Int} (h : TwoRows w base v xs u ys) (hb : Below w.heap.size w w') : TwoRows w' base v xs u ys :=
  ⟨Row.owned_below h.l hb, Row.owned_below h.r hb, h.apart⟩

theorem row_slice {w : World} {base : Nat} {v : Value} {xs : List Int} (h : w.ownsRow base 5 1 v xs.length (xs.map (Value.int .u8))) : ∃ ad cp, v = .slice ad xs.length cp := by
  rcases Row.owned_parts h with ⟨h, h0, _⟩ | ⟨_, _, h, _⟩
  · exact ⟨none, 0, by rw [h, h0]⟩
  · exact ⟨_, _, h⟩
end Wr
end Go.Proofs.Ytkmbeohheblhhaa
