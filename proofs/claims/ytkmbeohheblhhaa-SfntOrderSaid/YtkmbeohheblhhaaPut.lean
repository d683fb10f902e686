/- The reference's Put: a number's bytes behind others. -/
import Derived.Test.YtkmbeohheblhhaaOwn
import Derived.Test.YtkmbeohheblhhaaRow
import Derived.Maps.AppendAt
namespace Go.Proofs.Ytkmbeohheblhhaa
open Go.RowKit
namespace Row

/-- Row.append_any, and where the new row lies. -/
theorem append_at {P : Program} {w : World} {ops : Array Oper} {rest : List Oper} {o : Oper} {a : Act} {Q : Exit → Act → World → Prop} (hgd : o.guard = none) (s x : Operand) (t e : TypeId)
    (ho : o.op = .call { callee := .builtin .append, args := #[s, x], argTypes := #[t, t] })
    (z : Value) (size bytes : Nat) (ht : P.underlying t = some (.slice e)) (hinfo : (P.info? e).map (fun i => (i.zero, i.size, i.bytes)) = some (some z, size, bytes)) (hzs : z.cells.size = size) (hsz : 0 < size)
    (base : Nat) (v : Value) (n : Nat) (xs : List Value) (hs : a.eval s = v) (hown : w.ownsRow base e size v n xs)
    (vx : Value) (len : Nat) (news : List Value) (hx : a.eval x = vx) (hl : Leads w vx len news) (hln : news.length = len * size) (h1 : ∀ u ∈ news, u.oneCell' = true)
    (h63 : n + len ≤ maxLen) (hbd : (n + len) * bytes ≤ 140737488355328) (hbase : base ≤ w.heap.size)
    (h : ∀ v' w', w'.ownsRow base e size v' (n + len) (xs ++ news) → w.grownBy w' v.ownBlock → (v' = .slice none 0 0 → v = .slice none 0 0) → (v'.ownBlock = v.ownBlock ∨ v'.ownBlock = some w.heap.size) → wpList P ops Q rest (a.put o.dst v') w') :
    wpList P ops Q (o :: rest) a w := by
  obtain ⟨i8, hi8, hz1, hz2, hz3⟩ := info_parts hinfo
  rcases hl with ⟨rfl, rfl, rfl⟩ | ⟨ad, cap, rfl, hc⟩
  · exact wpList_append_own_none hgd s x t ho base e i8 size ht hi8 v n _ hs hown hx (h v w (by simpa using hown) (Bas.grefl _ _) id (.inl rfl))
  · exact wpList_append_own_at _ hgd s x t ho base e i8 z size bytes ht hi8 hz1 hz2 hz3 hzs hsz v n _ hs hown ad len cap news hx hln hc h1 h63 hbd hbase fun v' w' h1 h2 h3 h4 => h v' w' h1 h2 (fun e => (h3.1 e).1) h4
end Row
namespace Wr
open Vw

/-- A number's bytes, the higher first. -/
def putB (n : Int) : Nat → List Int
  | 0 => []
  | k + 1 => (n / 256 ^ k) % 256 :: putB n k

theorem putB_len (n : Int) (k : Nat) : (putB n k).length = k := by induction k <;> simp [putB, *]
theorem putB_byte (n : Int) (k : Nat) : ∀ x ∈ putB n k, 0 ≤ x ∧ x ≤ 255 := by
  induction k with
  | zero => intro x hx; cases hx
  | succ k ih =>
    intro x hx
    rcases List.mem_cons.1 hx with rfl | h
    · omega
    · exact ih x h

/-- What a writer answers: the row, longer; nothing else that was there has changed but the row's own block. -/
structure Grown (w : World) (base : Nat) (v : Value) (ys : List Int) (v' : Value) (w' : World) : Prop where
  own : w'.ownsRow base 5 1 v' ys.length (ys.map (Value.int .u8))
  grow : w.grownBy w' v.ownBlock
  at' : v'.ownBlock = v.ownBlock ∨ ∃ g, v'.ownBlock = some g ∧ w.heap.size ≤ g

theorem Grown.refl {w : World} {base : Nat} {v : Value} {ys : List Int} (h : w.ownsRow base 5 1 v ys.length (ys.map (Value.int .u8))) : Grown w base v ys v w := ⟨h, Bas.grefl _ _, .inl rfl⟩

theorem Grown.trans {w w1 w2 : World} {base : Nat} {v v1 v2 : Value} {ys zs : List Int} (h : Grown w base v ys v1 w1) (k : Grown w1 base v1 zs v2 w2) : Grown w base v zs v2 w2 := by
  have hs := h.grow.size
  refine ⟨k.own, ⟨k.grow.os.trans h.grow.os, k.grow.tape.trans h.grow.tape, k.grow.output.trans h.grow.output, Nat.le_trans hs k.grow.size, fun i hi hr => ?_⟩, ?_⟩
  · refine (k.grow.block i (Nat.lt_of_lt_of_le hi hs) fun e => ?_).trans (h.grow.block i hi hr)
    rcases h.at' with h1 | ⟨g, h1, h2⟩
    · exact hr (e.trans h1)
    · rw [h1] at e; cases e; omega
  · rcases k.at' with h1 | ⟨g, h1, h2⟩
    · rcases h.at' with h3 | ⟨g, h3, h4⟩
      · exact .inl (h1.trans h3)
      · exact .inr ⟨g, h1.trans h3, h4⟩
    · exact .inr ⟨g, h1, by omega⟩

theorem Grown.add {w wr wa w2 : World} {base : Nat} {v u v' : Value} {cur : List Int} (h : Grown w base v cur u wr) (zs : List Int) (hown : w2.ownsRow base 5 1 v' (cur ++ zs).length ((cur ++ zs).map (Value.int .u8)))
    (ha : wr.grownBy wa u.ownBlock) (hg : wa.grownBy w2 u.ownBlock) (hat : v'.ownBlock = u.ownBlock ∨ ∃ g, v'.ownBlock = some g ∧ wr.heap.size ≤ g) : Grown w base v (cur ++ zs) v' w2 :=
  h.trans ⟨hown, Bas.gtrans ha hg, hat⟩

theorem Grown.below {w w' : World} {base B : Nat} {v v' : Value} {ys : List Int} {a : World} (h : Grown w base v ys v' w') (hb : Below B a w) (hB : B ≤ w.heap.size) (hv : ∀ g, v.ownBlock = some g → B ≤ g) : Below B a w' :=
  hb.grown h.grow hB hv

def PutPost (w : World) (base : Nat) (v : Value) (ys : List Int) (e : Ending) (w' : World) : Prop := ∃ v', e = .returned v' ∧ Grown w base v ys v' w'

theorem quo_bd (n : Int) (t : Nat) (hn : 0 ≤ n) : 0 ≤ n / 256 ^ t ∧ n / 256 ^ t ≤ n := by
  have h : (0 : Int) < 256 ^ t := Int.pow_pos (by omega)
  exact ⟨Int.ediv_nonneg hn (by omega), Int.ediv_le_self _ hn⟩
theorem quo_succ (n : Int) (t : Nat) (_hn : 0 ≤ n) : n / 256 ^ (t + 1) = n / 256 ^ t / 256 := by
  have h : (0 : Int) < 256 ^ t := Int.pow_pos (by omega)
  rw [Int.pow_succ, Int.ediv_ediv_of_nonneg (by omega)]

set_option maxRecDepth 20000 in
set_option maxHeartbeats 2000000 in
theorem put_any (n : Int) (size : Nat) (base : Nat) (v : Value) (xs : List Int) (w : World) (hn : 0 ≤ n) (hn2 : n ≤ 9223372036854775807) (hs : size ≤ 8) (hxs : xs.length ≤ 1000000000) (hbase : base ≤ w.heap.size)
    (hown : w.ownsRow base 5 1 v xs.length (xs.map (Value.int .u8))) :
    Calls Try.prog 12 #[v, .int .i64 n, .int .i64 size] w (PutPost w base v (xs ++ putB n size)) := by
  have HG := Bas.hid (Grown.refl hown)
  clear hown
  go_enter Try.func12, Try.ntmps12
  go_wp2_with (fail)
  go_loopw [0, 7] (fun cv c wr => ∃ (k : Nat) (cur : List Int), k ≤ size ∧ c = .int .i64 ((k : Int) - 1) ∧ cur ++ putB n k = xs ++ putB n size ∧ Grown w base v cur cv wr) (fun _ c _ => (intOf c + 1).toNat)
  case atStart => exact ⟨size, xs, Nat.le_refl _, rfl, rfl, HG.out⟩
  case round =>
    obtain ⟨k, cur, hk, rfl, hcur, hg⟩ := hrel
    have hcl : cur.length ≤ 1000000008 := by
      have := congrArg List.length hcur
      simp [putB_len] at this
      omega
    have HC := Bas.hid hcur
    have HGR := Bas.hid hg
    clear hcur hg
    by_cases hk0 : 0 < k
    · obtain ⟨j, rfl⟩ : ∃ j, k = j + 1 := ⟨k - 1, by omega⟩
      have e1 : ((j + 1 : Nat) : Int) - 1 = (j : Int) := by omega
      rw [e1]
      clear e1
      go_wp2_with (fail)
      go_loop [8, 9] (fun kv jv => ∃ t : Nat, t ≤ j ∧ jv = .int .i64 t ∧ kv = .int .i64 (n / 256 ^ t)) (fun _ jv => j - (intOf jv).toNat)
      case atStart => exact ⟨0, Nat.zero_le _, rfl, by simp⟩
      case round =>
        obtain ⟨t, ht, rfl, rfl⟩ := hrel
        obtain ⟨b1, b2⟩ := quo_bd n t hn
        by_cases htj : t < j
        · have hs := Bas.hid (quo_succ n t hn)
          generalize n / 256 ^ t = q at *
          go_wp2_with (fail)
          go_round
          case rel => exact ⟨t + 1, by omega, by go_num, by rw [hs.out]⟩
          case measure => simp [intOf]; omega
        · have htj2 : t = j := by omega
          subst htj2
          have hp : Hid (putB n (t + 1) = (n / 256 ^ t) % 256 :: putB n t) := rfl
          generalize n / 256 ^ t = q at *
          have b3 : 0 ≤ q % 256 := by omega
          have b4 : q % 256 ≤ 255 := by omega
          go_wp2_with (at_builtin; refine Row.append_at rfl _ _ 22 5 rfl (.int .u8 0) 1 1 Try.underlying22 info8 rfl (by decide) base _ cur.length (cur.map (Value.int .u8)) rfl (HGR.out.own.alloc _) (.slice (some ⟨wr.heap.size, 0, none⟩) 1 1) 1 [.int .u8 (q % 256)] rfl (Row.leads_one _ _ _) rfl (by simp; rfl) (by unfold maxLen; omega) (by omega) (by have := HGR.out.grow.size; simp; omega) ?_)
          intro v' w2 hown2 hg2 _ hat
          have HG2 := Bas.hid (HGR.out.add [q % 256] (by simpa using hown2) (Bas.galloc (Bas.grefl _ _) _) hg2 (hat.imp id fun h => ⟨_, h, by omega⟩))
          clear hown2 hg2 hat
          go_wp2_with (fail)
          go_roundw
          case rel => exact ⟨t, cur ++ [q % 256], by omega, by go_num, by rw [← HC.out, hp.out]; simp, HG2.out⟩
          case measure => simp [intOf]
    · have hk00 : k = 0 := by omega
      subst hk00
      go_wp2_with (fail)
      go_ret
      have h1 := HGR.out
      have h2 := HC.out
      simp only [putB, List.append_nil] at h2
      rw [h2] at h1
      exact ⟨_, rfl, h1⟩
end Wr
end Go.Proofs.Ytkmbeohheblhhaa
