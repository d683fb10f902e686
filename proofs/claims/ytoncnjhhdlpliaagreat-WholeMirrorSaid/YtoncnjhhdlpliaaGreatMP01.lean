/- Parts of a proof: texts Base, Row, RowB, Ord, View, ViewB, Try, VArg, Own, RowC, ChainD, Mod, LnD, First, Take, Plan, Read, Ref01, LkD, StD. -/
import Derived.Test.YtoncnjhhdlpliaaGreatRows
import Derived.WalkKit
import Derived.WalkSpells
import Derived.WalkLawsBesides
import Derived.Deep.QuietTactic
import Derived.BigQuiet
import Derived.Laws.AppendOwnNone
import Derived.StillTail
import Derived.OrdersHeld
namespace Go.Proofs.YtoncnjhhdlpliaaGreat
open Go.RowKit
namespace Bas
theorem hid {p : Prop} (h : p) : Hid p := h
theorem fam (B : Nat) (W : World) : ∃ (I : Type) (F : I → World), Nonempty I ∧ (∀ w, Below B W w → ∃ i, w = F i) ∧ ∀ i, Below B W (F i) :=
 ⟨{ w : World // Below B W w }, fun i => i.1, ⟨⟨W, Below.refl _ _⟩⟩, fun w h => ⟨⟨w, h⟩, rfl⟩, fun i => i.2⟩
theorem region_fam {P : Program} {id : Nat} {Q : Exit → Act → World → Prop} {a : Act} {w : World} {l : List Oper} {I : Type} {F : I → World}
  (hm : P.follows .mixedOrders = true) (hB : Region.lexB .any l.toArray = true) (h0 : ∃ i, w.drew = F i)
  (h : wpQuiet P l.toArray (fun w' => ∃ i, w' = F i) (fun a' => ∀ i, Q .normal a' (F i)) l a) : (Code.region id l.toArray true).wp P Q a w :=
 wp_region_quiet (C := fun w' => ∃ i, w' = F i) hm hB h0 (by
  have e : (fun a' : Act => ∀ w', (∃ i, w' = F i) → Q .normal a' w') = fun a' => ∀ i, Q .normal a' (F i) := by
   funext a'
   apply propext;exact ⟨fun h i => h _ ⟨i, rfl⟩, fun h w' ⟨i, e⟩ => e ▸ h i⟩
  rw [e];simpa using h)
theorem call_fam {P : Program} {f : FuncId} {args : Array Value} {B : Nat} {W : World} {I : Type} {F : I → World} {i : I} {v : Value}
  (hF : (∀ w, Below B W w → ∃ i, w = F i) ∧ ∀ i, Below B W (F i)) (hB : B ≤ W.heap.size)
  (h : Calls P f args (F i) fun e w' => e = .returned v ∧ Below (F i).heap.size (F i) w') : Calls P f args (F i) fun e w'' => e = .returned v ∧ ∃ j, w'' = F j :=
 h.mono fun _ w' ⟨he, hb⟩ => ⟨he, hF.1 w' ((hF.2 i).trans (hb.mono (Nat.le_trans hB (hF.2 i).size)))⟩
theorem cell_fam {B : Nat} {W : World} {I : Type} {F : I → World} (hF : (∀ w, Below B W w → ∃ i, w = F i) ∧ ∀ i, Below B W (F i)) {b o : Nat} {v : Value} (hb : b < B)
  (h : W.cell? ⟨b, o, none⟩ = some v) (i : I) : (F i).cell? ⟨b, o, none⟩ = some v :=
 ((hF.2 i).cell (p := ⟨b, o, none⟩) hb).trans h
theorem below_drewN {B : Nat} {a w : World} (h : Below B a w) (n : Nat) : Below B a (w.drewN n) := ⟨h.os, h.tape, h.output, h.size, h.block⟩
theorem bcell {W w1 : World} (hb : Below W.heap.size W w1) : (∀ b o, b < W.heap.size → w1.cell? ⟨b, o, none⟩ = W.cell? ⟨b, o, none⟩) ∧ (∀ b o, b < W.heap.size → w1.frozen? ⟨b, o, none⟩ = W.frozen? ⟨b, o, none⟩) :=
 ⟨fun b o h => hb.cell (p := ⟨b, o, none⟩) h, fun b o h => hb.frozen (p := ⟨b, o, none⟩) h⟩
theorem on {W0 w w' : World} (HB : Below W0.heap.size W0 w) (hb : Below w.heap.size w w') : Below W0.heap.size W0 w' := HB.trans (hb.mono HB.size)
theorem wf_u8 {x : Int} (h : (Lit.int .u8 x).wf = true) : 0 ≤ x ∧ x ≤ 255 := by
 simpa [Lit.wf, IntKind.min, IntKind.max, IntKind.bits, IntKind.signed] using h
def IsRow (k : IntKind) (w : World) (a : Option Addr) (len cap : Nat) (zs : List Int) : Prop :=
 (a = none ∧ len = 0 ∧ cap = 0 ∧ zs = []) ∨
 ∃ x, a = some x ∧ len ≤ cap ∧ cap ≤ maxLen ∧ zs.length = cap ∧ (∀ i, i < zs.length → w.cell? (x.add i) = some (.int k (zs.getD i 0))) ∧ ∀ n ∈ zs, (Lit.int k n).wf = true
theorem heap_new (w : World) (o : Obj) : (w.alloc o).heap[w.heap.size]? = some o := (MapKept.heap_alloc w o).1
theorem heap_new2 (w : World) (o o2 : Obj) : ((w.alloc o).alloc o2).heap[w.heap.size + 1]? = some o2 := by
 have h := heap_new (w.alloc o) o2;rw [World.size_alloc] at h;exact h
theorem gcell {w w' : World} {r : Option Nat} (h : w.grownBy w' r) {b o : Nat} (hb : b < w.heap.size) (hr : r ≠ some b) : w'.cell? ⟨b, o, none⟩ = w.cell? ⟨b, o, none⟩ :=
 World.cell?_of_block (w := w) (h.block b hb (fun e => hr e.symm))
theorem gfrozen {w w' : World} {r : Option Nat} (h : w.grownBy w' r) {b o : Nat} (hb : b < w.heap.size) (hr : r ≠ some b) : w'.frozen? ⟨b, o, none⟩ = w.frozen? ⟨b, o, none⟩ :=
 World.frozen?_of_block (w := w) (h.block b hb (fun e => hr e.symm))
theorem gtrans {a b c : World} {r : Option Nat} (h : a.grownBy b r) (k : b.grownBy c r) : a.grownBy c r :=
 ⟨k.os.trans h.os, k.tape.trans h.tape, k.output.trans h.output, Nat.le_trans h.size k.size, fun i hi hr => (k.block i (Nat.lt_of_lt_of_le hi h.size) hr).trans (h.block i hi hr)⟩
theorem grefl (w : World) (r : Option Nat) : w.grownBy w r := ⟨rfl, rfl, rfl, Nat.le_refl _, fun _ _ _ => rfl⟩
theorem gset {a w : World} {b : Nat} (h : a.grownBy w (some b)) (o : Nat) (v : Value) : a.grownBy (w.setCell ⟨b, o, none⟩ v) (some b) :=
 gtrans h ⟨rfl, rfl, rfl, by simp [World.setCell], fun k _ hk => Below.heap_setCell _ _ _ _ (fun e => hk (by rw [e]))⟩
theorem galloc {a w : World} {r : Option Nat} (h : a.grownBy w r) (o : Obj) : a.grownBy (w.alloc o) r :=
 gtrans h ⟨rfl, rfl, rfl, by simp, fun k hk _ => Below.heap_alloc _ _ _ hk⟩
theorem gdrew {a w : World} {r : Option Nat} (h : a.grownBy w r) : a.grownBy w.drew r := ⟨h.os, h.tape, h.output, h.size, h.block⟩
theorem gbelow {a w w' : World} {r : Option Nat} (h : a.grownBy w r) (hb : Below w.heap.size w w') : a.grownBy w' r :=
 gtrans h ⟨hb.os, hb.tape, hb.output, hb.size, fun k hk _ => hb.block k hk⟩
theorem below_g {B b : Nat} {a w w' : World} (h : Below B a w) (hg : w.grownBy w' (some b)) (hB : B ≤ w.heap.size) (hb : B ≤ b) : Below B a w' :=
 h.grown hg hB (fun k hk => by cases hk; exact hb)
theorem spot_add {w : World} {x : Addr} {i : Nat} {v : Value} (h0 : ∃ u, w.cell? (x.add 0) = some u) (h : w.cell? (x.add i) = some v) : x = ⟨x.block, x.off, none⟩ ∧ w.cell? ⟨x.block, x.off + i, none⟩ = some v := by
 obtain ⟨u, hu⟩ := h0;have hs := World.cell?_spot hu;obtain ⟨b, o, s⟩ := x;have : s = none := by simpa [Addr.add] using hs
 subst this;rw [Addr.add_lit] at h;exact ⟨rfl, h⟩
theorem u32_mask (x m : Int) (k : Nat) (hm : m = ((2 ^ k - 1 : Nat) : Int)) (hk : k ≤ 32) (h0 : 0 ≤ x) (h1 : x ≤ 4294967295) : bits .and .u32 x m = x % 2 ^ k := by
 have h2 : 2 ^ k ≤ 2 ^ 32 := Nat.pow_le_pow_right (by omega) hk
 rw [u32_and x m h0 (by omega) (by omega) (by omega), hm, Int.toNat_natCast, Nat.and_two_pow_sub_one_eq_mod]
 obtain ⟨n, rfl⟩ := Int.eq_ofNat_of_zero_le h0;simp
end Bas
namespace Row
def Fence (p : Prop) : Prop := p
theorem fence {p : Prop} (h : Fence p) : p := h
theorem unfence {p : Prop} (h : p) : Fence p := h
def Leads (w : World) (v : Value) (len : Nat) (news : List Value) : Prop :=
 (v = .slice none 0 0 ∧ len = 0 ∧ news = []) ∨ ∃ ad cap, v = .slice (some ad) len cap ∧ ∀ j u, news[j]? = some u → w.cell? (ad.add j) = some u
theorem append_any {P : Program} {w : World} {ops : Array Oper} {rest : List Oper} {o : Oper} {a : Act} {Q : Exit → Act → World → Prop} (hgd : o.guard = none) (s x : Operand) (t e : TypeId)
  (ho : o.op = .call { callee := .builtin .append, args := #[s, x], argTypes := #[t, t] })
  (z : Value) (size bytes : Nat) (ht : P.underlying t = some (.slice e)) (hinfo : (P.info? e).map (fun i => (i.zero, i.size, i.bytes)) = some (some z, size, bytes)) (hzs : z.cells.size = size) (hsz : 0 < size)
  (base : Nat) (v : Value) (n : Nat) (xs : List Value) (hs : a.eval s = v) (hown : w.ownsRow base e size v n xs)
  (vx : Value) (len : Nat) (news : List Value) (hx : a.eval x = vx) (hl : Leads w vx len news) (hln : news.length = len * size) (h1 : ∀ u ∈ news, u.oneCell' = true)
  (h63 : n + len ≤ maxLen) (hbd : (n + len) * bytes ≤ 140737488355328) (hbase : base ≤ w.heap.size)
  (h : ∀ v' w', w'.ownsRow base e size v' (n + len) (xs ++ news) → w.grownBy w' v.ownBlock → (v' = .slice none 0 0 → v = .slice none 0 0) → wpList P ops Q rest (a.put o.dst v') w') :
  wpList P ops Q (o :: rest) a w := by
 obtain ⟨i8, hi8, hz1, hz2, hz3⟩ := info_parts hinfo;rcases hl with ⟨rfl, rfl, rfl⟩ | ⟨ad, cap, rfl, hc⟩
 ·exact wpList_append_own_none hgd s x t ho base e i8 size ht hi8 v n _ hs hown hx (h v w (by simpa using hown) (Bas.grefl _ _) id)
 ·refine wpList_append_own _ hgd s x t ho base e i8 z size bytes ht hi8 hz1 hz2 hz3 hzs hsz v n _ hs hown ad len cap news hx hln hc h1 h63 hbd hbase ?_;intro v' w' h1 h2 h3;exact h v' w' h1 h2 (fun e => (h3.1 e).1)
theorem leads_owned {w : World} {base : Nat} {e : TypeId} {size : Nat} {v : Value} {n : Nat} {xs : List Value} (h : w.ownsRow base e size v n xs) : Leads w v n xs := by
 obtain ⟨hlen, ⟨rfl, rfl⟩ | ⟨g, cap, cur, rfl, hg, hh, hc, hm, hs, ht⟩⟩ := h
 ·exact .inl ⟨rfl, rfl, List.length_eq_zero_iff.1 (by simpa using hlen)⟩
 ·refine .inr ⟨_, cap, rfl, fun j u hu => ?_⟩
  rw [Addr.add_lit, Nat.zero_add];have hj : j < xs.length := (List.getElem?_eq_some_iff.1 hu).1;have h1 : (cur.toList.take (n * size))[j]? = xs[j]? := by rw [ht]
  rw [List.getElem?_take_of_lt (by omega), hu] at h1
  simp [World.cell?, hh, ← Array.getElem?_toList, h1]
theorem leads_one (w : World) (x : Value) (t : TypeId) : Leads (w.alloc (.cells #[x] t)) (.slice (some ⟨w.heap.size, 0, none⟩) 1 1) 1 [x] :=
 .inr ⟨_, 1, rfl, fun j u hu => by
  have hj : j = 0 := by
   have := (List.getElem?_eq_some_iff.1 hu).1;simpa using this
  subst hj;rw [Addr.add_lit];simpa using hu⟩
theorem owned_nil (w : World) (base : Nat) (e : TypeId) (size : Nat) : w.ownsRow base e size (.slice none 0 0) 0 [] := ⟨by simp, .inl ⟨rfl, rfl⟩⟩
theorem owned_keep {w w' : World} {base : Nat} {e : TypeId} {size : Nat} {v : Value} {n : Nat} {xs : List Value} (h : w.ownsRow base e size v n xs) (hk : ∀ g, v.ownBlock = some g → w'.heap[g]? = w.heap[g]?) : w'.ownsRow base e size v n xs := by
 obtain ⟨hlen, h0 | ⟨g, cap, cur, rfl, hg, hh, r⟩⟩ := h
 ·exact ⟨hlen, .inl h0⟩
 ·exact ⟨hlen, .inr ⟨g, cap, cur, rfl, hg, (hk g rfl).trans hh, r⟩⟩
theorem owned_below {w w' : World} {base : Nat} {e : TypeId} {size : Nat} {v : Value} {n : Nat} {xs : List Value} (h : w.ownsRow base e size v n xs) (hb : Below w.heap.size w w') : w'.ownsRow base e size v n xs :=
 owned_keep h fun g hg => by
  obtain ⟨hlen, ⟨rfl, _⟩ | ⟨g', cap, cur, rfl, hg', hh, r⟩⟩ := h
  ·cases hg
  ·cases hg; exact hb.block g' (Array.getElem?_eq_some_iff.1 hh).1
theorem owned_base {w : World} {base base' : Nat} {e : TypeId} {size : Nat} {v : Value} {n : Nat} {xs : List Value} (h : w.ownsRow base e size v n xs) (hb : base' ≤ base) : w.ownsRow base' e size v n xs := by
 obtain ⟨hlen, h0 | ⟨g, cap, cur, rfl, hg, r⟩⟩ := h
 ·exact ⟨hlen, .inl h0⟩
 ·exact ⟨hlen, .inr ⟨g, cap, cur, rfl, by omega, r⟩⟩
theorem owned_parts {w : World} {base : Nat} {e : TypeId} {size : Nat} {v : Value} {n : Nat} {xs : List Value} (h : w.ownsRow base e size v n xs) :
  (v = .slice none 0 0 ∧ n = 0 ∧ xs = []) ∨ ∃ g cap, v = .slice (some ⟨g, 0, none⟩) n cap ∧ base ≤ g ∧ g < w.heap.size ∧ n ≤ cap ∧ cap ≤ maxLen ∧ (∀ j u, xs[j]? = some u → w.cell? ⟨g, j, none⟩ = some u) ∧ ∀ o, w.frozen? ⟨g, o, none⟩ = false := by
 have hl := leads_owned h;obtain ⟨hlen, ⟨rfl, rfl⟩ | ⟨g, cap, cur, rfl, hg, hh, hc, hm, hs, ht⟩⟩ := h
 ·exact .inl ⟨rfl, rfl, List.length_eq_zero_iff.1 (by simpa using hlen)⟩
 ·refine .inr ⟨g, cap, rfl, hg, (Array.getElem?_eq_some_iff.1 hh).1, hc, hm, fun j u hu => ?_, fun o => by simp [World.frozen?, hh]⟩
  rcases hl with ⟨h0, _⟩ | ⟨ad, cap', he, hcl⟩
  ·cases h0
  ·cases he;have := hcl j u hu
   rwa [Addr.add_lit, Nat.zero_add] at this
theorem own_block {w : World} {base : Nat} {e : TypeId} {size : Nat} {v : Value} {n : Nat} {xs : List Value} (h : w.ownsRow base e size v n xs) {g : Nat} (hg : v.ownBlock = some g) : base ≤ g ∧ g < w.heap.size := by
 obtain ⟨_, ⟨rfl, _⟩ | ⟨g', cap, cur, rfl, hb, hh, _⟩⟩ := h
 ·cases hg
 ·cases hg;exact ⟨hb, (Array.getElem?_eq_some_iff.1 hh).1⟩
theorem flat_get {α : Type} {f : α → List Value} {m : Nat} (hf : ∀ x, (f x).length = m) : ∀ (l : List α) (i j : Nat) (x : α) (u : Value), l[i]? = some x → (f x)[j]? = some u → (l.flatMap f)[i * m + j]? = some u
 | [], i, j, x, u, h, _ => by simp at h
 | y :: l, 0, j, x, u, h, hu => by
  have hy : y = x := by simpa using h
  subst hy;have hj : j < (f y).length := (List.getElem?_eq_some_iff.1 hu).1;rw [List.flatMap_cons, Nat.zero_mul, Nat.zero_add, List.getElem?_append_left hj];exact hu
 | y :: l, i + 1, j, x, u, h, hu => by
  have h' : l[i]? = some x := by simpa using h
  have := flat_get hf l i j x u h' hu;rw [List.flatMap_cons, List.getElem?_append_right (by rw [hf]; rw [Nat.add_mul]; omega), hf, show (i + 1) * m + j - m = i * m + j by rw [Nat.add_mul]; omega]
  exact this
theorem elem_cells {α : Type} {f : α → List Value} {m : Nat} (hf : ∀ x, (f x).length = m) {w : World} {base : Nat} {e : TypeId} {v : Value} {n : Nat} {l : List α} (h : w.ownsRow base e m v n (l.flatMap f)) {i : Nat} {x : α} (hx : l[i]? = some x) (_hm : 0 < m) (hln : l.length = n) :
  ∃ G cp, v = .slice (some ⟨G, 0, none⟩) n cp ∧ base ≤ G ∧ G < w.heap.size ∧ (n ≤ cp ∧ cp ≤ 9223372036854775807) ∧ ∀ j u, (f x)[j]? = some u → w.cell? ⟨G, i * m + j, none⟩ = some u := by
 rcases owned_parts h with ⟨_, hn, _⟩ | ⟨G, cp, hv, hb, hG, hc, hm63, hcl, _⟩
 ·have := (List.getElem?_eq_some_iff.1 hx).1;omega
 ·exact ⟨G, cp, hv, hb, hG, ⟨hc, by unfold maxLen at hm63; omega⟩, fun j u hu => hcl _ _ (flat_get hf l i j x u hx hu)⟩
end Row
namespace Ord
section
variable {P : Program} {ops : Array Oper} {md : Region.Mode} {C : World → Prop} {Z : List PanicEntry → World → Prop}
def haltUpon (P : Program) (Z : List PanicEntry → World → Prop) (w : World) : Result Next → Prop
 | .ok (.enter f args) w' => w' = w ∧ Calls P f args w (fun e w'' => ∃ ch, e = .panicked ch ∧ Z ch w'')
 | .halt (.panic v) w' => Z [{ v, recovered := false }] w'
 | _ => False
def haltsIn (P : Program) (C : World → Prop) (Z : List PanicEntry → World → Prop) (o : Oper) (a : Act) : Prop := ∀ w, C w → haltUpon P Z w ((execOp a.eval o).run P w)
theorem wp_of_halts {o : Oper} {a : Act} {K : Act → World → Prop} {Q : Exit → Act → World → Prop} {w : World} (hw : C w) (hQ : ∀ ch w, Z ch w → Q (.panic ch) a w) (h : haltsIn P C Z o a) : o.wp P a w K Q := by
 have h1 := h w hw;unfold Oper.wp;generalize (execOp a.eval o).run P w = r at *;cases r with
 | ok n w' =>
  cases n <;> simp only [haltUpon] at h1 <;> simp only [Oper.upon]
  case enter f args =>
   obtain ⟨e1, hc⟩ := h1;rw [e1];exact hc.mono fun e w'' ⟨ch, he, hz⟩ => by subst he; exact hQ _ _ hz
 | halt x w' =>
  cases x <;> simp only [haltUpon] at h1
  exact hQ _ _ h1
theorem put_defers (a : Act) (d : Option Tmp) (v : Value) : (a.put d v).defers = a.defers := by cases d <;> rfl
def pOp (P : Program) (ops : Array Oper) (C : World → Prop) (Z : List PanicEntry → World → Prop) (i : Nat) (K : Act → Prop) (a : Act) : Prop :=
 match ops[i]? with
 | none => K a
 | some o => if Region.wanted o (yielded ops a.tmps) then (o.quiet P a C K ∨ haltsIn P C Z o a) else K (a.put o.dst undef)
theorem pOp_mono {i : Nat} {a : Act} {K K' : Act → Prop} (h : ∀ a, K a → K' a) (hh : pOp P ops C Z i K a) : pOp P ops C Z i K' a := by
 unfold pOp at *;cases ho : ops[i]? with
 | none => rw [ho] at hh; exact h _ hh
 | some o =>
  rw [ho] at hh;simp only at hh ⊢;by_cases hw : Region.wanted o (yielded ops a.tmps) = true
  ·rw [if_pos hw] at hh ⊢;exact hh.imp (Oper.quiet_mono h) id
  ·rw [if_neg hw] at hh ⊢;exact h _ hh
theorem pOp_of_qOp {i : Nat} {a : Act} {K : Act → Prop} (hh : qOp P ops C i K a) : pOp P ops C Z i K a := by
 unfold pOp;unfold qOp at hh;cases ho : ops[i]? with
 | none => rw [ho] at hh; exact hh
 | some o =>
  rw [ho] at hh;simp only at hh ⊢;by_cases hw : Region.wanted o (yielded ops a.tmps) = true
  ·rw [if_pos hw] at hh ⊢; exact .inl hh
  ·rw [if_neg hw] at hh ⊢; exact hh
theorem wpOp_of_pOp {i : Nat} {a : Act} {K : Act → Prop} {K' : Act → World → Prop} {Q : Exit → Act → World → Prop} {w : World} (hC : C w) (hQ : ∀ ch w, Z ch w → Q (.panic ch) a w)
  (h : ∀ a' w', C w' → a'.defers = a.defers → K a' → K' a' w') (hh : pOp P ops C Z i K a) : wpOp P ops Q i K' a w := by
 replace hh : pOp P ops C Z i (fun a' => a'.defers = a.defers ∧ K a') a := by
  unfold pOp at *;cases ho : ops[i]? with
  | none => rw [ho] at hh; exact ⟨rfl, hh⟩
  | some o =>
   rw [ho] at hh;simp only at hh ⊢;by_cases hw : Region.wanted o (yielded ops a.tmps) = true
   ·rw [if_pos hw] at hh ⊢;refine hh.imp (fun ⟨v, h1, h2⟩ => ⟨v, h1, put_defers a o.dst v, h2⟩) id
   ·rw [if_neg hw] at hh ⊢;exact ⟨put_defers a o.dst undef, hh⟩
 replace h : ∀ a' w', C w' → (a'.defers = a.defers ∧ K a') → K' a' w' := fun a' w' hc hk => h a' w' hc hk.1 hk.2
 unfold pOp at hh;unfold wpOp;cases ho : ops[i]? with
 | none => rw [ho] at hh; exact h _ _ hC hh
 | some o =>
  rw [ho] at hh;simp only at hh ⊢;by_cases hw : Region.wanted o (yielded ops a.tmps) = true
  ·rw [if_pos hw] at hh ⊢;exact .inl (hh.elim (Oper.wp_of_quiet hC h) (wp_of_halts hC hQ))
  ·rw [if_neg hw] at hh ⊢;exact h _ _ hC hh
def wpAnyZ (P : Program) (md : Region.Mode) (ops : Array Oper) (C : World → Prop) (Z : List PanicEntry → World → Prop) : Nat → Array Bool → Act → Prop
 | 0, _, _ => False
 | n + 1, listed, a => Region.ready md ops listed ≠ [] ∧ ∀ i ∈ Region.ready md ops listed, pOp P ops C Z i (wpAnyZ P md ops C Z n (listed.setIfInBounds i true)) a
theorem wpAny_of_Z {Q : Exit → Act → World → Prop} {d : List Deferred} (hQ : ∀ ch a w, a.defers = d → Z ch w → Q (.panic ch) a w) : ∀ (n m : Nat) (listed : Array Bool) (a : Act) (w : World), C w → a.defers = d → n ≤ m →
  wpAnyZ P md ops C Z n listed a → wpAny P md ops Q m listed a w
 | 0, _, _, _, _, _, _, _, h => h.elim
 | n + 1, 0, _, _, _, _, _, hm, _ => absurd hm (by omega)
 | n + 1, m + 1, _, _, _, hw, hd, hm, h =>
  ⟨fun h0 => absurd h0 h.1, fun i hi => wpOp_of_pOp hw (fun ch w hz => hQ ch _ w hd hz) (fun a' w' hw' hd' h' => wpAny_of_Z hQ n m _ a' w' hw' (hd'.trans hd) (by omega) h') (h.2 i hi)⟩
theorem pOp_put {j : Nat} {oi oj : Oper} {v : Value} (hj : ops[j]? = some oj) (hap : oi.apart ops oj = true)
  (hsi : ∀ cs b, oi.op ≠ .select cs b) (hsj : ∀ cs b, oj.op ≠ .select cs b) {K : Act → Prop} {a : Act}
  (hy : YieldsIn P ops C oi v a) (h : pOp P ops C Z j K (a.put oi.dst v)) :
  pOp P ops C Z j (fun a' => YieldsIn P ops C oi v a' ∧ K (a'.put oi.dst v)) a := by
 obtain ⟨h1, h2, h3⟩ := Oper.apart_spec hap;by_cases hw : Region.wanted oj (yielded ops a.tmps) = true
 ·have hw' : Region.wanted oj (yielded ops (a.put oi.dst v).tmps) = true := by rw [wanted_put oj a oi.dst v h1]; exact hw
  unfold pOp at h;simp only [hj] at h;rw [if_pos hw'] at h;rcases h with h | h
  ·refine pOp_of_qOp (qOp_put hj hap hsi hsj hy ?_);unfold qOp;simp only [hj];rw [if_pos hw'];exact h
  ·unfold pOp;simp only [hj];rw [if_pos hw];right;intro w hw2;have := h w hw2
   rwa [execOp_put oj hsj a oi.dst v h1] at this
 ·refine pOp_of_qOp (qOp_put hj hap hsi hsj hy ?_);have hw' : ¬ Region.wanted oj (yielded ops (a.put oi.dst v).tmps) = true := by rw [wanted_put oj a oi.dst v h1]; exact hw
  unfold pOp at h;simp only [hj] at h;rw [if_neg hw'] at h;unfold qOp;simp only [hj];rw [if_neg hw'];exact h
theorem wpAnyZ_first {i : Nat} {oi : Oper} {v : Value} (hi : ops[i]? = some oi) (hsel : ∀ (j : Nat) (o : Oper) cs b, ops[j]? = some o → o.op ≠ .select cs b) :
  ∀ (n : Nat) (listed : Array Bool) (a : Act),
   (∀ j oj, ops[j]? = some oj → j ≠ i → listed.getD j true = false → (∀ e ∈ oj.after, Region.binds md e = true → e.on ≠ i) → oi.apart ops oj = true) →
   i ∈ Region.ready md ops listed → YieldsIn P ops C oi v a →
   wpAnyZ P md ops C Z n (listed.setIfInBounds i true) (a.put oi.dst v) → wpAnyZ P md ops C Z (n + 1) listed a := by
 intro n;induction n with
 | zero => intro _ _ _ _ _ H; exact H.elim
 | succ n ih =>
  intro listed a hfree hr hy H;have hun := (mem_ready.1 hr).1;refine ⟨fun h => (by rw [h] at hr; cases hr), fun j hj => ?_⟩
  by_cases hji : j = i
  ·subst hji; exact pOp_of_qOp (hy.qOp hi H)
  ·have h1 := H.2 j (ready_mono hj hji);obtain ⟨hjun, oj, hoj, hall⟩ := mem_ready.1 hj;have hnot : ∀ e ∈ oj.after, Region.binds md e = true → e.on ≠ i := fun e he hb heq => by
    have h1 := hall e he hb;rw [heq, getD_both hun] at h1;cases h1
   have h2 := pOp_put hoj (hfree j oj hoj hji hjun hnot) (fun cs b => hsel i oi cs b hi) (fun cs b => hsel j oj cs b hoj) hy h1
   have hfree' : ∀ k ok, ops[k]? = some ok → k ≠ i → (listed.setIfInBounds j true).getD k true = false →
     (∀ e ∈ ok.after, Region.binds md e = true → e.on ≠ i) → oi.apart ops ok = true := fun k ok hk hki hun hno => by
    refine hfree k ok hk hki ?_ hno;by_cases hjk : j = k
    ·subst hjk; exact hjun
    ·rw [getD_set_ne true hjk] at hun; exact hun
   refine pOp_mono (fun a' h3 => ih (listed.setIfInBounds j true) a' hfree' (ready_mono hr (Ne.symm hji)) h3.1 ?_) h2
   rw [Array.setIfInBounds_comm _ _ hji];exact h3.2
def pick : List Oper → List Bool → List Oper
 | o :: l, true :: m => o :: pick l m
 | _ :: l, false :: m => pick l m
 | _, _ => []
def maskB (md : Region.Mode) (ops : Array Oper) (p : Nat) : List Bool → Nat → Array Bool → Bool
 | [], _, listed => decide (Region.ready md ops listed = [p])
 | true :: m, k, listed => (Region.ready md ops listed).contains k && Region.free md ops listed k && maskB md ops p m (k + 1) (listed.setIfInBounds k true)
 | false :: m, k, listed => maskB md ops p m (k + 1) listed
theorem wpAnyZ_mask {p : Nat} {op : Oper} (hsel : Region.noSelect ops = true) (hp : ops[p]? = some op) : ∀ (m : List Bool) (l : List Oper) (k : Nat) (listed : Array Bool) (a : Act),
  (∀ j, l[j]? = ops[k + j]?) → m.length = l.length → maskB md ops p m k listed = true →
  wpQuiet P ops C (fun a' => Region.wanted op (yielded ops a'.tmps) = true ∧ haltsIn P C Z op a') (pick l m) a → wpAnyZ P md ops C Z (m.count true + 1) listed a
 | [], l, k, listed, a, hl, hm, hB, h => by
  have hB' : Region.ready md ops listed = [p] := of_decide_eq_true hB;have hl0 : l = [] := List.length_eq_zero_iff.1 hm.symm;subst hl0;refine ⟨by rw [hB']; simp, fun i hi => ?_⟩
  rw [hB'] at hi;have : i = p := by simpa using hi
  subst this;have h' : Region.wanted op (yielded ops a.tmps) = true ∧ haltsIn P C Z op a := h;unfold pOp;simp only [hp];rw [if_pos h'.1];exact .inr h'.2
 | b :: m, [], _, _, _, _, hm, _, _ => by simp at hm
 | false :: m, o :: l, k, listed, a, hl, hm, hB, h => by
  have H := wpAnyZ_mask hsel hp m l (k + 1) listed a (fun j => by have := hl (j + 1); simpa [Nat.add_assoc, Nat.add_comm 1 j] using this) (by simpa using hm) hB h
  simpa using H
 | true :: m, o :: l, k, listed, a, hl, hm, hB, h => by
  have h0 : ops[k]? = some o := by simpa using (hl 0).symm
  simp only [maskB, Bool.and_eq_true] at hB;obtain ⟨⟨hr, hf⟩, hB'⟩ := hB;have hst : qOp P ops C k (wpQuiet P ops C (fun a' => Region.wanted op (yielded ops a'.tmps) = true ∧ haltsIn P C Z op a') (pick l m)) a := by unfold qOp; simp only [h0]; exact h
  obtain ⟨v, hy, hK⟩ := yieldsIn_of_qOp h0 hst;have H := wpAnyZ_mask hsel hp m l (k + 1) _ _ (fun j => by have := hl (j + 1); simpa [Nat.add_assoc, Nat.add_comm 1 j] using this) (by simpa using hm) hB' hK
  rw [List.count_cons_self];exact wpAnyZ_first h0 (Region.noSelect_spec hsel) _ listed a (Region.free_spec h0 hf) (by simpa using hr) hy H
theorem region_halt {id : Nat} {Q : Exit → Act → World → Prop} {a : Act} {w : World} {l : List Oper} {I : Type} {F : I → World} (Z : List PanicEntry → World → Prop) (m : List Bool) (p : Nat) (op : Oper)
  (hp : l[p]? = some op) (hm : P.follows .mixedOrders = true) (hB : (Region.noSelect l.toArray && decide (m.length = l.length) && decide (m.count true < l.length) && maskB .any l.toArray p m 0 (Array.replicate l.toArray.size false)) = true)
  (h0 : ∃ i, w.drew = F i) (hQ : ∀ ch a' w, a'.defers = a.defers → Z ch w → Q (.panic ch) a' w)
  (h : wpQuiet P l.toArray (fun w' => ∃ i, w' = F i) (fun a' => Region.wanted op (yielded l.toArray a'.tmps) = true ∧ haltsIn P (fun w' => ∃ i, w' = F i) Z op a') (pick l m) a) : (Code.region id l.toArray true).wp P Q a w := by
 simp only [Bool.and_eq_true, decide_eq_true_eq] at hB;obtain ⟨⟨⟨hs, hml⟩, hcn⟩, hB⟩ := hB;refine wp_region_any hm ?_;have H := wpAnyZ_mask (md := .any) hs (by simpa using hp) m l 0 (Array.replicate l.toArray.size false) a (by simp) hml hB h
 exact wpAny_of_Z hQ _ _ _ _ _ h0 rfl (by simp only [List.size_toArray]; omega) H
end
end Ord
namespace Vw
def short : List PanicEntry := [{ v := .iface 97 (.agg #[]), recovered := false }]
set_option maxHeartbeats 400000 in
theorem fail_any (w : World) : Calls Tryz.prog 73 #[] w fun e w' => e = .panicked short ∧ w = w' := by
 go_enter Tryz.func73, Tryz.ntmps73
 go_wp2;exact ⟨rfl, rfl, rfl⟩
set_option maxHeartbeats 400000 in
theorem need_no (w : World) : Calls Tryz.prog 51 #[.bool false] w fun e w' => e = .panicked short ∧ w = w' := by
 go_enter Tryz.func51, Tryz.ntmps51
 go_wp2_with (go_at_call 73; refine (fail_any _).mono ?_; rintro e w' ⟨rfl, rfl⟩);exact ⟨rfl, rfl, rfl⟩
set_option maxHeartbeats 400000 in
theorem need_yes (w : World) : Calls Tryz.prog 51 #[.bool true] w fun e w' => e = .returned (.tuple #[]) ∧ w = w' := by
 go_enter Tryz.func51, Tryz.ntmps51
 go_wp2_with (fail)
 go_end0
 exact ⟨rfl, rfl⟩
theorem need_yesb (b : Bool) (w : World) (hb : b = true) : Calls Tryz.prog 51 #[.bool b] w fun e w' => e = .returned (.tuple #[]) ∧ w = w' := hb ▸ need_yes w
theorem need_nob (b : Bool) (w : World) (hb : b = false) : Calls Tryz.prog 51 #[.bool b] w fun e w' => e = .panicked short ∧ w = w' := hb ▸ need_no w
def sub (a : Option Addr) (at' n : Nat) : Option Addr := if n = 0 then a else a.map (·.add at')
structure VB (w : World) (a : Option Addr) (bs : List Int) : Prop where
 len : bs.length ≤ 140737488355328
 byte : ∀ x ∈ bs, 0 ≤ x ∧ x ≤ 255
 cell : ∀ i, i < bs.length → ∃ b o, a = some ⟨b, o, none⟩ ∧ w.cell? ⟨b, o + i, none⟩ = some (.int .u8 (bs.getD i 0))
set_option maxHeartbeats 400000 in
theorem piece_ok (a : Option Addr) (len cap : Nat) (at' n : Int) (w : World) (hl : len ≤ cap) (hc : cap ≤ maxLen) (h0 : 0 ≤ at') (h1 : 0 ≤ n) (h2 : at' + n ≤ len) :
    Calls Tryz.prog 72 #[.agg #[.slice a len cap], .int .i64 at', .int .i64 n] w fun e w' => e = .returned (.slice (sub a at'.toNat n.toNat) n.toNat n.toNat) ∧ Below w.heap.size w w' := by
  unfold maxLen at hc
  obtain ⟨p, rfl⟩ := Int.eq_ofNat_of_zero_le h0
  obtain ⟨q, rfl⟩ := Int.eq_ofNat_of_zero_le h1
  go_enter Tryz.func72, Tryz.ntmps72
  go_wp2_with (fail)
  refine (need_yesb _ _ (by simp; omega)).mono ?_
  rintro e w' ⟨rfl, rfl⟩
  go_wp2_with (fail)
  all_goals
    go_ret
    refine ⟨?_, (Below.refl _ _).alloc (Nat.le_refl _) _⟩
    first
      | (rw [sub, if_neg (by omega)]; simp; done)
      | (obtain rfl : q = 0 := by omega
         simp [sub])
set_option maxHeartbeats 400000 in
theorem piece_no (a : Option Addr) (len cap : Nat) (at' n : Int) (w : World) (hl : len ≤ cap) (hc : cap ≤ maxLen) (h : ¬ (0 ≤ at' ∧ 0 ≤ n ∧ at' + n ≤ len)) :
  Calls Tryz.prog 72 #[.agg #[.slice a len cap], .int .i64 at', .int .i64 n] w fun e w' => e = .panicked short ∧ Below w.heap.size w w' := by
 unfold maxLen at hc;by_cases h0 : 0 ≤ at'
 ·by_cases h1 : 0 ≤ n
  ·by_cases h2 : at' ≤ len
   ·have h3 : ¬ n ≤ len - at' := by omega
    clear h;go_enter Tryz.func72, Tryz.ntmps72
    go_wp2_with (fail);refine (need_nob _ _ (by first | (simp; done) | (simp; omega))).mono ?_
    rintro e w' ⟨rfl, rfl⟩;go_wp2_with (fail);exact ⟨rfl, rfl, (Below.refl _ _).alloc (Nat.le_refl _) _⟩
   ·clear h;go_enter Tryz.func72, Tryz.ntmps72
    go_wp2_with (fail);refine (need_nob _ _ (by first | (simp; done) | (simp; omega))).mono ?_
    rintro e w' ⟨rfl, rfl⟩;go_wp2_with (fail);exact ⟨rfl, rfl, (Below.refl _ _).alloc (Nat.le_refl _) _⟩
  ·clear h;go_enter Tryz.func72, Tryz.ntmps72
   go_wp2_with (fail);refine (need_nob _ _ (by first | (simp; done) | (simp; omega))).mono ?_
   rintro e w' ⟨rfl, rfl⟩;go_wp2_with (fail);exact ⟨rfl, rfl, (Below.refl _ _).alloc (Nat.le_refl _) _⟩
 ·clear h;go_enter Tryz.func72, Tryz.ntmps72
  go_wp2_with (fail);refine (need_nob _ _ (by first | (simp; done) | (simp; omega))).mono ?_
  rintro e w' ⟨rfl, rfl⟩;go_wp2_with (fail);exact ⟨rfl, rfl, (Below.refl _ _).alloc (Nat.le_refl _) _⟩
def num (l : List Int) : Int := l.foldl (fun x b => 256 * x + b) 0
def be (bs : List Int) (at' n : Nat) : Int := num ((bs.drop at').take n)
theorem VB.below {w w' : World} {a : Option Addr} {bs : List Int} (h : VB w a bs) (hb : Below w.heap.size w w') : VB w' a bs :=
 ⟨h.len, h.byte, fun i hi => by
  obtain ⟨b, o, ha, hc⟩ := h.cell i hi;exact ⟨b, o, ha, (hb.cell (p := ⟨b, o + i, none⟩) (World.block_lt_of_cell? _ _ hc)).trans hc⟩⟩
theorem getD_byte {bs : List Int} (h : ∀ x ∈ bs, 0 ≤ x ∧ x ≤ 255) (i : Nat) : 0 ≤ bs.getD i 0 ∧ bs.getD i 0 ≤ 255 := by
 rw [List.getD_eq_getElem?_getD];cases hi : bs[i]? with
 | none => simp
 | some x => simpa using h x (List.mem_of_getElem? hi)
theorem VB.sub {w : World} {a : Option Addr} {bs : List Int} (h : VB w a bs) (p n : Nat) (hn : p + n ≤ bs.length) : VB w (sub a p n) ((bs.drop p).take n) := by
 have hlen : ((bs.drop p).take n).length = n := by simp; omega
 refine ⟨by have := h.len; omega, fun x hx => h.byte x (List.mem_of_mem_drop (List.mem_of_mem_take hx)), fun i hi => ?_⟩
 rw [hlen] at hi;obtain ⟨b, o, rfl, hc⟩ := h.cell (p + i) (by omega)
 by_cases hp : p = 0
 ·subst hp;refine ⟨b, o, by simp [Vw.sub, Addr.add], ?_⟩
  rw [Nat.zero_add] at hc;rw [hc];simp [hi]
 ·refine ⟨b, o + p, by simp [Vw.sub, show n ≠ 0 by omega, Addr.add, hp], ?_⟩
  rw [Nat.add_assoc, hc];simp [hi]
theorem be1 (bs : List Int) (p : Nat) (h : p + 1 ≤ bs.length) : be bs p 1 = bs.getD p 0 := by
 have e : (bs.drop p).take 1 = [bs.getD p 0] := by
  rw [List.take_one, List.head?_drop, List.getD_eq_getElem?_getD, List.getElem?_eq_getElem (by omega)]; rfl
 unfold be; rw [e]; simp [num]
theorem drop_cons (bs : List Int) (p : Nat) (h : p < bs.length) : bs.drop p = bs.getD p 0 :: bs.drop (p + 1) := by
 rw [List.drop_eq_getElem_cons h]; simp [h]
theorem be2 (bs : List Int) (p : Nat) (h : p + 2 ≤ bs.length) : be bs p 2 = 256 * bs.getD p 0 + bs.getD (p + 1) 0 := by
 unfold be;rw [drop_cons bs p (by omega), drop_cons bs (p + 1) (by omega)]
 simp [num]
theorem be4 (bs : List Int) (p : Nat) (h : p + 4 ≤ bs.length) : be bs p 4 = 16777216 * bs.getD p 0 + 65536 * bs.getD (p + 1) 0 + 256 * bs.getD (p + 2) 0 + bs.getD (p + 3) 0 := by
 unfold be;rw [drop_cons bs p (by omega), drop_cons bs (p + 1) (by omega), drop_cons bs (p + 2) (by omega), drop_cons bs (p + 3) (by omega)]
 simp [num];omega
theorem be2_bd (bs : List Int) (hb : ∀ x ∈ bs, 0 ≤ x ∧ x ≤ 255) (p : Nat) (h : p + 2 ≤ bs.length) : 0 ≤ be bs p 2 ∧ be bs p 2 ≤ 65535 := by
 rw [be2 bs p h]; have := getD_byte hb p; have := getD_byte hb (p + 1); omega
theorem be4_bd (bs : List Int) (hb : ∀ x ∈ bs, 0 ≤ x ∧ x ≤ 255) (p : Nat) (h : p + 4 ≤ bs.length) : 0 ≤ be bs p 4 ∧ be bs p 4 ≤ 4294967295 := by
 rw [be4 bs p h]; have := getD_byte hb p; have := getD_byte hb (p + 1); have := getD_byte hb (p + 2); have := getD_byte hb (p + 3); omega
set_option maxHeartbeats 400000 in
theorem of_any (a : Option Addr) (len cap : Nat) (w : World) :
  Calls Tryz.prog 19 #[.slice a len cap] w fun e w' => e = .returned (.agg #[.slice a len cap]) ∧ Below w.heap.size w w' := by
 go_enter Tryz.func19, Tryz.ntmps19
 go_wp2;exact bodyPost_ret (v := .agg #[.slice a len cap]) (by simp [results, Tryz.results19, go_sem]) rfl ⟨rfl, (Below.refl _ _).alloc (Nat.le_refl _) _⟩
theorem i64_or_nat (a b : Nat) (ha : a < 4294967296) (hb : b < 4294967296) : bits .or .i64 (a : Int) (b : Int) = ((a ||| b : Nat) : Int) := by
 have hx : a ||| b < 2 ^ 32 := Nat.or_lt_two_pow (by omega) (by omega)
 have h1 : (BitVec.ofInt 64 (a : Int)).toNat = a := by
  rw [BitVec.ofInt_natCast, BitVec.toNat_ofNat]; exact Nat.mod_eq_of_lt (by omega)
 have h2 : (BitVec.ofInt 64 (b : Int)).toNat = b := by
  rw [BitVec.ofInt_natCast, BitVec.toNat_ofNat]; exact Nat.mod_eq_of_lt (by omega)
 show IntKind.i64.wrap ((BitVec.ofInt 64 (a : Int) ||| BitVec.ofInt 64 (b : Int)).toNat : Int) = _
 rw [BitVec.toNat_or, h1, h2, IntKind.wrap_i64];omega
theorem or_join (x y m : Int) (k : Nat) (hm : m = ((2 ^ k : Nat) : Int)) (hk : k ≤ 24) (h0 : 0 ≤ x) (h1 : x * m < 4294967296) (h2 : 0 ≤ y) (h3 : y < m) : bits .or .i64 (x * m) y = m * x + y := by
 obtain ⟨a, rfl⟩ := Int.eq_ofNat_of_zero_le h0;obtain ⟨b, rfl⟩ := Int.eq_ofNat_of_zero_le h2;have hm2 : (2 ^ k : Nat) ≤ 2 ^ 24 := Nat.pow_le_pow_right (by omega) hk
 subst hm;have e : ((a : Int) * ((2 ^ k : Nat) : Int)) = ((a * 2 ^ k : Nat) : Int) := by simp
 rw [e] at h1 ⊢;rw [i64_or_nat _ _ (by omega) (by omega), nat_join k _ _ (by simp) (by omega)]
 simp [Int.mul_comm]
theorem sub_some (b o p n : Nat) (hn : n ≠ 0) : sub (some ⟨b, o, none⟩) p n = some ⟨b, o + p, none⟩ := by
 rw [sub, if_neg hn];by_cases hp : p = 0
 ·subst hp; simp [Addr.add]
 ·simp [Addr.add, hp]
theorem piece_k (b o len cap p k : Nat) (n : Int) (w : World) (hn : n = k) (hk : 0 < k) (hl : len ≤ cap) (hc : cap ≤ maxLen) (h2 : p + k ≤ len) :
  Calls Tryz.prog 72 #[.agg #[.slice (some ⟨b, o, none⟩) len cap], .int .i64 p, .int .i64 n] w fun e w' => e = .returned (.slice (some ⟨b, o + p, none⟩) k k) ∧ Below w.heap.size w w' := by
 subst hn;have h := piece_ok (some ⟨b, o, none⟩) len cap (p : Int) (k : Int) w hl hc (by omega) (by omega) (by omega)
 rw [Int.toNat_natCast, Int.toNat_natCast, sub_some b o p k (by omega)] at h
 exact h
set_option maxHeartbeats 400000 in
theorem u8_ok (a : Option Addr) (len cap : Nat) (bs : List Int) (at' : Int) (w : World) (hl : len ≤ cap) (hc : cap ≤ maxLen) (hv : VB w a bs) (hbl : bs.length = len) (h0 : 0 ≤ at') (h2 : at' + 1 ≤ len) :
  Calls Tryz.prog 147 #[.agg #[.slice a len cap], .int .i64 at'] w fun e w' => e = .returned (.int .i64 (be bs at'.toNat 1)) ∧ Below w.heap.size w w' := by
 obtain ⟨p, rfl⟩ := Int.eq_ofNat_of_zero_le h0;rw [Int.toNat_natCast, be1 bs p (by omega)]
 obtain ⟨b, o, rfl, hcell0⟩ := hv.cell p (by omega)
 have hblt := World.block_lt_of_cell? _ _ hcell0;have hbd0 := getD_byte hv.byte p;generalize bs.getD p 0 = x0 at hcell0 hbd0;obtain ⟨lo0, hi0⟩ := hbd0
 replace hcell0 : w.cell? ⟨b, o + p, none⟩ = some (.int .u8 x0) := hcell0
 go_enter Tryz.func147, Tryz.ntmps147
 go_wp2_with (fail);refine (piece_k b o len cap p 1 _ _ rfl (by omega) hl hc (by omega)).mono ?_
 rintro e w1 ⟨rfl, hw1⟩;have HB1 : Below w.heap.size w w1 := Bas.on ((Below.refl _ _).alloc (Nat.le_refl _) _) hw1
 replace hcell0 : w1.cell? ⟨b, o + p, none⟩ = some (.int .u8 x0) := (HB1.cell (p := ⟨b, o + p, none⟩) hblt).trans hcell0
 clear hw1;go_wp2_with (fail);go_ret;exact ⟨rfl, HB1⟩
set_option maxHeartbeats 400000 in
theorem u16_ok (a : Option Addr) (len cap : Nat) (bs : List Int) (at' : Int) (w : World) (hl : len ≤ cap) (hc : cap ≤ maxLen) (hv : VB w a bs) (hbl : bs.length = len) (h0 : 0 ≤ at') (h2 : at' + 2 ≤ len) :
  Calls Tryz.prog 49 #[.agg #[.slice a len cap], .int .i64 at'] w fun e w' => e = .returned (.int .i64 (be bs at'.toNat 2)) ∧ Below w.heap.size w w' := by
 obtain ⟨p, rfl⟩ := Int.eq_ofNat_of_zero_le h0;rw [Int.toNat_natCast, be2 bs p (by omega)]
 obtain ⟨b, o, rfl, hcell0⟩ := hv.cell p (by omega)
 have hblt := World.block_lt_of_cell? _ _ hcell0;have hcell1 : w.cell? ⟨b, o + p + 1, none⟩ = some (.int .u8 (bs.getD (p + 1) 0)) := by
  obtain ⟨b', o', ha, hc'⟩ := hv.cell (p + 1) (by omega)
  simp only [Option.some.injEq, Addr.mk.injEq, and_true] at ha;obtain ⟨rfl, rfl⟩ := ha;rw [Nat.add_assoc]; exact hc'
 have hbd0 := getD_byte hv.byte p;have hbd1 := getD_byte hv.byte (p + 1);generalize bs.getD p 0 = x0 at hcell0 hbd0;obtain ⟨lo0, hi0⟩ := hbd0;generalize bs.getD (p + 1) 0 = x1 at hcell1 hbd1;obtain ⟨lo1, hi1⟩ := hbd1
 replace hcell0 : w.cell? ⟨b, o + p, none⟩ = some (.int .u8 x0) := hcell0
 have hor : bits .or .i64 (x0 * 256) x1 = 256 * x0 + x1 := or_join x0 x1 256 8 rfl (by omega) lo0 (by omega) lo1 (by omega)
 go_enter Tryz.func49, Tryz.ntmps49
 go_wp2_with (fail);refine (piece_k b o len cap p 2 _ _ rfl (by omega) hl hc (by omega)).mono ?_
 rintro e w1 ⟨rfl, hw1⟩;have HB1 : Below w.heap.size w w1 := Bas.on ((Below.refl _ _).alloc (Nat.le_refl _) _) hw1
 replace hcell0 : w1.cell? ⟨b, o + p, none⟩ = some (.int .u8 x0) := (HB1.cell (p := ⟨b, o + p, none⟩) hblt).trans hcell0
 replace hcell1 : w1.cell? ⟨b, o + p + 1, none⟩ = some (.int .u8 x1) := (HB1.cell (p := ⟨b, o + p + 1, none⟩) hblt).trans hcell1
 clear hw1;go_wp2_with (fail)
 go_quiet (fail)
 go_wp2_with (fail);go_ret;exact ⟨rfl, Bas.below_drewN HB1 _⟩
set_option maxHeartbeats 400000 in
theorem u32_ok (a : Option Addr) (len cap : Nat) (bs : List Int) (at' : Int) (w : World) (hl : len ≤ cap) (hc : cap ≤ maxLen) (hv : VB w a bs) (hbl : bs.length = len) (h0 : 0 ≤ at') (h2 : at' + 4 ≤ len) :
  Calls Tryz.prog 50 #[.agg #[.slice a len cap], .int .i64 at'] w fun e w' => e = .returned (.int .i64 (be bs at'.toNat 4)) ∧ Below w.heap.size w w' := by
 obtain ⟨p, rfl⟩ := Int.eq_ofNat_of_zero_le h0;rw [Int.toNat_natCast, be4 bs p (by omega)]
 obtain ⟨b, o, rfl, hcell0⟩ := hv.cell p (by omega)
 have hblt := World.block_lt_of_cell? _ _ hcell0;have hcell1 : w.cell? ⟨b, o + p + 1, none⟩ = some (.int .u8 (bs.getD (p + 1) 0)) := by
  obtain ⟨b', o', ha, hc'⟩ := hv.cell (p + 1) (by omega)
  simp only [Option.some.injEq, Addr.mk.injEq, and_true] at ha;obtain ⟨rfl, rfl⟩ := ha;rw [Nat.add_assoc]; exact hc'
 have hcell2 : w.cell? ⟨b, o + p + 2, none⟩ = some (.int .u8 (bs.getD (p + 2) 0)) := by
  obtain ⟨b', o', ha, hc'⟩ := hv.cell (p + 2) (by omega)
  simp only [Option.some.injEq, Addr.mk.injEq, and_true] at ha;obtain ⟨rfl, rfl⟩ := ha;rw [Nat.add_assoc]; exact hc'
 have hcell3 : w.cell? ⟨b, o + p + 3, none⟩ = some (.int .u8 (bs.getD (p + 3) 0)) := by
  obtain ⟨b', o', ha, hc'⟩ := hv.cell (p + 3) (by omega)
  simp only [Option.some.injEq, Addr.mk.injEq, and_true] at ha;obtain ⟨rfl, rfl⟩ := ha;rw [Nat.add_assoc]; exact hc'
 have hbd0 := getD_byte hv.byte p;have hbd1 := getD_byte hv.byte (p + 1);have hbd2 := getD_byte hv.byte (p + 2);have hbd3 := getD_byte hv.byte (p + 3);generalize bs.getD p 0 = x0 at hcell0 hbd0;obtain ⟨lo0, hi0⟩ := hbd0;generalize bs.getD (p + 1) 0 = x1 at hcell1 hbd1;obtain ⟨lo1, hi1⟩ := hbd1;generalize bs.getD (p + 2) 0 = x2 at hcell2 hbd2;obtain ⟨lo2, hi2⟩ := hbd2;generalize bs.getD (p + 3) 0 = x3 at hcell3 hbd3;obtain ⟨lo3, hi3⟩ := hbd3
 replace hcell0 : w.cell? ⟨b, o + p, none⟩ = some (.int .u8 x0) := hcell0
 have hor1 : bits .or .i64 (x0 * 16777216) (x1 * 65536) = x0 * 16777216 + x1 * 65536 := by have := or_join x0 (x1 * 65536) 16777216 24 rfl (by omega) lo0 (by omega) (by omega) (by omega); omega
 have hor2 : bits .or .i64 (x0 * 16777216 + x1 * 65536) (x2 * 256) = x0 * 16777216 + x1 * 65536 + x2 * 256 := by have := or_join (x0 * 256 + x1) (x2 * 256) 65536 16 rfl (by omega) (by omega) (by omega) (by omega) (by omega); rw [show x0 * 16777216 + x1 * 65536 = (x0 * 256 + x1) * 65536 from by omega]; omega
 have hor3 : bits .or .i64 (x0 * 16777216 + x1 * 65536 + x2 * 256) x3 = 16777216 * x0 + 65536 * x1 + 256 * x2 + x3 := by have := or_join (x0 * 65536 + x1 * 256 + x2) x3 256 8 rfl (by omega) (by omega) (by omega) (by omega) (by omega); rw [show x0 * 16777216 + x1 * 65536 + x2 * 256 = (x0 * 65536 + x1 * 256 + x2) * 256 from by omega]; omega
 go_enter Tryz.func50, Tryz.ntmps50
 go_wp2_with (fail);refine (piece_k b o len cap p 4 _ _ rfl (by omega) hl hc (by omega)).mono ?_
 rintro e w1 ⟨rfl, hw1⟩;have HB1 : Below w.heap.size w w1 := Bas.on ((Below.refl _ _).alloc (Nat.le_refl _) _) hw1
 replace hcell0 : w1.cell? ⟨b, o + p, none⟩ = some (.int .u8 x0) := (HB1.cell (p := ⟨b, o + p, none⟩) hblt).trans hcell0
 replace hcell1 : w1.cell? ⟨b, o + p + 1, none⟩ = some (.int .u8 x1) := (HB1.cell (p := ⟨b, o + p + 1, none⟩) hblt).trans hcell1
 replace hcell2 : w1.cell? ⟨b, o + p + 2, none⟩ = some (.int .u8 x2) := (HB1.cell (p := ⟨b, o + p + 2, none⟩) hblt).trans hcell2
 replace hcell3 : w1.cell? ⟨b, o + p + 3, none⟩ = some (.int .u8 x3) := (HB1.cell (p := ⟨b, o + p + 3, none⟩) hblt).trans hcell3
 clear hw1;go_wp2_with (fail)
 go_quiet (fail)
 go_wp2_with (fail);go_ret;exact ⟨rfl, Bas.below_drewN HB1 _⟩
set_option maxHeartbeats 400000 in
theorem u16_no (a : Option Addr) (len cap : Nat) (at' : Int) (w : World) (hl : len ≤ cap) (hc : cap ≤ maxLen) (h : ¬ (0 ≤ at' ∧ at' + 2 ≤ len)) :
  Calls Tryz.prog 49 #[.agg #[.slice a len cap], .int .i64 at'] w fun e w' => e = .panicked short ∧ Below w.heap.size w w' := by
 go_enter Tryz.func49, Tryz.ntmps49
 go_wp2_with (fail);refine (piece_no _ _ _ _ _ _ hl hc (by omega)).mono ?_
 rintro e w1 ⟨rfl, hw1⟩;go_wp2_with (fail);exact ⟨rfl, rfl, Bas.on ((Below.refl _ _).alloc (Nat.le_refl _) _) hw1⟩
set_option maxHeartbeats 400000 in
theorem u32_no (a : Option Addr) (len cap : Nat) (at' : Int) (w : World) (hl : len ≤ cap) (hc : cap ≤ maxLen) (h : ¬ (0 ≤ at' ∧ at' + 4 ≤ len)) :
  Calls Tryz.prog 50 #[.agg #[.slice a len cap], .int .i64 at'] w fun e w' => e = .panicked short ∧ Below w.heap.size w w' := by
 go_enter Tryz.func50, Tryz.ntmps50
 go_wp2_with (fail);refine (piece_no _ _ _ _ _ _ hl hc (by omega)).mono ?_
 rintro e w1 ⟨rfl, hw1⟩;go_wp2_with (fail);exact ⟨rfl, rfl, Bas.on ((Below.refl _ _).alloc (Nat.le_refl _) _) hw1⟩
set_option maxHeartbeats 400000 in
theorem cut_ok (a : Option Addr) (len cap : Nat) (at' n : Int) (w : World) (hl : len ≤ cap) (hc : cap ≤ maxLen) (h0 : 0 ≤ at') (h1 : 0 ≤ n) (h2 : at' + n ≤ len) :
  Calls Tryz.prog 53 #[.agg #[.slice a len cap], .int .i64 at', .int .i64 n] w fun e w' => e = .returned (.agg #[.slice (sub a at'.toNat n.toNat) n.toNat n.toNat]) ∧ Below w.heap.size w w' := by
 go_enter Tryz.func53, Tryz.ntmps53
 go_wp2_with (fail);refine (piece_ok _ _ _ _ _ _ hl hc h0 h1 h2).mono ?_;rintro e w1 ⟨rfl, hw1⟩;have hz : w.heap.size + 2 ≤ w1.heap.size := by have := hw1.size; simp at this; omega
 obtain ⟨hc1, hf1⟩ := Bas.bcell hw1;have HB := Bas.on (((Below.refl w.heap.size w).alloc (Nat.le_refl _) _).alloc (by simp) _) hw1
 clear hw1;go_wp2_with (fail);exact bodyPost_ret (v := .agg #[.slice (sub a at'.toNat n.toNat) n.toNat n.toNat]) (by simp [results, Tryz.results53, go_sem, hc1]) rfl ⟨rfl, HB.setCell (by simp) _⟩
set_option maxHeartbeats 400000 in
theorem cut_no (a : Option Addr) (len cap : Nat) (at' n : Int) (w : World) (hl : len ≤ cap) (hc : cap ≤ maxLen) (h : ¬ (0 ≤ at' ∧ 0 ≤ n ∧ at' + n ≤ len)) :
  Calls Tryz.prog 53 #[.agg #[.slice a len cap], .int .i64 at', .int .i64 n] w fun e w' => e = .panicked short ∧ Below w.heap.size w w' := by
 go_enter Tryz.func53, Tryz.ntmps53
 go_wp2_with (fail);refine (piece_no _ _ _ _ _ _ hl hc h).mono ?_;rintro e w1 ⟨rfl, hw1⟩;go_wp2_with (fail);exact ⟨rfl, rfl, Bas.on (((Below.refl w.heap.size w).alloc (Nat.le_refl _) _).alloc (by simp) _) hw1⟩
set_option maxHeartbeats 400000 in
theorem rest_ok (a : Option Addr) (len cap : Nat) (at' : Int) (w : World) (hl : len ≤ cap) (hc : cap ≤ maxLen) (h0 : 0 ≤ at') (h2 : at' ≤ len) :
  Calls Tryz.prog 75 #[.agg #[.slice a len cap], .int .i64 at'] w fun e w' => e = .returned (.agg #[.slice (sub a at'.toNat (len - at'.toNat)) (len - at'.toNat) (len - at'.toNat)]) ∧ Below w.heap.size w w' := by
 have hc' := hc;unfold maxLen at hc';obtain ⟨p, rfl⟩ := Int.eq_ofNat_of_zero_le h0;have hmax : max ((len : Int) - p) 0 = len - p := by omega
 have hP := piece_ok a len cap (p : Int) (len - p) ((w.alloc (.cells #[.slice a len cap] 52)).alloc (.cells #[.slice none 0 0] 52)) hl hc (by omega) (by omega) (by omega)
 rw [show ((p : Int)).toNat = p from rfl, show ((len : Int) - p).toNat = len - p by omega] at hP
 rw [show ((p : Int)).toNat = p from rfl]
 have HP := Bas.hid hP;clear hP;go_enter Tryz.func75, Tryz.ntmps75
 go_wp2_with (fail);refine HP.out.mono ?_;rintro e w1 ⟨rfl, hw1⟩;have hz : w.heap.size + 2 ≤ w1.heap.size := by have := hw1.size; simp at this; omega
 obtain ⟨hc1, hf1⟩ := Bas.bcell hw1;have HB := Bas.on (((Below.refl w.heap.size w).alloc (Nat.le_refl _) _).alloc (by simp) _) hw1
 clear hw1 HP;go_wp2_with (fail);exact bodyPost_ret (v := .agg #[.slice (sub a p (len - p)) (len - p) (len - p)]) (by simp [results, Tryz.results75, go_sem, hc1]) rfl ⟨rfl, HB.setCell (by simp) _⟩
set_option maxHeartbeats 400000 in
theorem rest_no (a : Option Addr) (len cap : Nat) (at' : Int) (w : World) (hl : len ≤ cap) (hc : cap ≤ maxLen) (h : ¬ (0 ≤ at' ∧ at' ≤ len)) :
  Calls Tryz.prog 75 #[.agg #[.slice a len cap], .int .i64 at'] w fun e w' => e = .panicked short ∧ Below w.heap.size w w' := by
 have hc' := hc;unfold maxLen at hc';by_cases h0 : 0 ≤ at'
 ·have h1 : (len : Int) < at' := by omega
  go_enter Tryz.func75, Tryz.ntmps75
  go_wp2_with (fail)
  all_goals
   refine (piece_no _ _ _ _ _ _ hl hc (by omega)).mono ?_
   rintro e w1 ⟨rfl, hw1⟩;go_wp2_with (fail);exact ⟨rfl, rfl, Bas.on (((Below.refl w.heap.size w).alloc (Nat.le_refl _) _).alloc (by simp) _) hw1⟩
 ·go_enter Tryz.func75, Tryz.ntmps75
  go_wp2_with (fail)
  all_goals
   refine (piece_no _ _ _ _ _ _ hl hc (by omega)).mono ?_
   rintro e w1 ⟨rfl, hw1⟩;go_wp2_with (fail);exact ⟨rfl, rfl, Bas.on (((Below.refl w.heap.size w).alloc (Nat.le_refl _) _).alloc (by simp) _) hw1⟩
theorem cut_nat (a : Option Addr) (len cap : Nat) (p n : Nat) (w : World) (hl : len ≤ cap) (hc : cap ≤ maxLen) (h2 : p + n ≤ len) :
  Calls Tryz.prog 53 #[.agg #[.slice a len cap], .int .i64 p, .int .i64 n] w fun e w' => e = .returned (.agg #[.slice (sub a p n) n n]) ∧ Below w.heap.size w w' :=
 cut_ok a len cap p n w hl hc (by omega) (by omega) (by omega)
def rowsB (len : Nat) (at' n size : Int) : Prop := 0 ≤ n ∧ 0 ≤ size ∧ (size = 0 ∨ n ≤ (len : Int) / size) ∧ 0 ≤ at' ∧ at' + n * size ≤ len
theorem cut_nm (a : Option Addr) (len cap : Nat) (at' n m : Int) (w : World) (hm : n = m) (hl : len ≤ cap) (hc : cap ≤ maxLen) (h0 : 0 ≤ at') (h1 : 0 ≤ m) (h2 : at' + m ≤ len) :
  Calls Tryz.prog 53 #[.agg #[.slice a len cap], .int .i64 at', .int .i64 n] w fun e w' => e = .returned (.agg #[.slice (sub a at'.toNat m.toNat) m.toNat m.toNat]) ∧ Below w.heap.size w w' := by
 subst hm;exact cut_ok a len cap at' n w hl hc h0 h1 h2
set_option maxHeartbeats 400000 in
theorem rows_ok (a : Option Addr) (len cap : Nat) (at' n size : Int) (w : World) (hl : len ≤ cap) (hc : cap ≤ maxLen) (h : rowsB len at' n size) :
  Calls Tryz.prog 74 #[.agg #[.slice a len cap], .int .i64 at', .int .i64 n, .int .i64 size] w fun e w' => e = .returned (.agg #[.slice (sub a at'.toNat (n * size).toNat) (n * size).toNat (n * size).toNat]) ∧ Below w.heap.size w w' := by
 obtain ⟨h1, h2, h3, h4, h5⟩ := h;have hc' := hc;unfold maxLen at hc';have hns : 0 ≤ n * size := Int.mul_nonneg h1 h2;have hw : wrap64 (n * size) = n * size := IntWalk.wrap64_in _ ⟨by omega, by omega⟩
 by_cases hz : size = 0
 ·subst hz;rw [Int.mul_zero] at *;go_enter Tryz.func74, Tryz.ntmps74
  go_wp2_with (fail);refine (need_yes _).mono ?_;rintro e w' ⟨rfl, rfl⟩;go_wp2_with (fail);refine (cut_nm _ _ _ _ _ 0 _ (by first | rfl | simp) hl hc h4 (by omega) (by omega)).mono ?_
  rintro e w1 ⟨rfl, hw1⟩;have hz1 : w.heap.size + 2 ≤ w1.heap.size := by have := hw1.size; simp at this; omega
  obtain ⟨hc1, hf1⟩ := Bas.bcell hw1;have HB := Bas.on (((Below.refl w.heap.size w).alloc (Nat.le_refl _) _).alloc (by simp) _) hw1
  clear hw1;go_wp2_with (fail);exact bodyPost_ret (v := .agg #[.slice (sub a at'.toNat 0) 0 0]) (by simp [results, Tryz.results74, go_sem, hc1]) rfl ⟨rfl, HB.setCell (by simp) _⟩
 ·have hz2 : 1 ≤ size := by omega
  have hz3 : (size == 0) = false := by simpa using hz
  have h3' : n ≤ (len : Int) / size := by omega
  have hd0 : 0 ≤ (len : Int) / size := Int.ediv_nonneg (by omega) h2
  have hd1 : (len : Int) / size ≤ len := Int.ediv_le_self _ (by omega)
  clear h3;go_enter Tryz.func74, Tryz.ntmps74
  go_wp2_with (fail);refine (need_yesb _ _ (by first | rfl | (simp; done) | (simp; omega))).mono ?_
  rintro e w' ⟨rfl, rfl⟩;go_wp2_with (fail);refine (cut_nm _ _ _ _ _ (n * size) _ (by first | rfl | exact hw) hl hc h4 hns h5).mono ?_
  rintro e w1 ⟨rfl, hw1⟩;have hz1 : w.heap.size + 2 ≤ w1.heap.size := by have := hw1.size; simp at this; omega
  obtain ⟨hc1, hf1⟩ := Bas.bcell hw1;have HB := Bas.on (((Below.refl w.heap.size w).alloc (Nat.le_refl _) _).alloc (by simp) _) hw1
  clear hw1;go_wp2_with (fail);exact bodyPost_ret (v := .agg #[.slice (sub a at'.toNat (n * size).toNat) (n * size).toNat (n * size).toNat]) (by simp [results, Tryz.results74, go_sem, hc1]) rfl ⟨rfl, HB.setCell (by simp) _⟩
set_option maxHeartbeats 800000 in
theorem rows_no (a : Option Addr) (len cap : Nat) (at' n size : Int) (w : World) (hl : len ≤ cap) (hc : cap ≤ maxLen) (h : ¬ rowsB len at' n size) :
  Calls Tryz.prog 74 #[.agg #[.slice a len cap], .int .i64 at', .int .i64 n, .int .i64 size] w fun e w' => e = .panicked short ∧ Below w.heap.size w w' := by
 have hc' := hc;unfold maxLen at hc';by_cases h1 : 0 ≤ n
 ·by_cases h2 : 0 ≤ size
  ·by_cases hz : size = 0
   ·subst hz;have h' : ¬ (0 ≤ at' ∧ at' ≤ len) := fun h' => h ⟨h1, by omega, .inl rfl, h'.1, by rw [Int.mul_zero]; omega⟩
    have hw : wrap64 (n * 0) = 0 := by rw [Int.mul_zero]; unfold wrap64; omega
    clear h;go_enter Tryz.func74, Tryz.ntmps74
    go_wp2_with (fail);refine (need_yesb _ _ (by first | rfl | (simp; done) | (simp; omega))).mono ?_
    rintro e w' ⟨rfl, rfl⟩;go_wp2_with (fail);refine (cut_no _ _ _ _ _ _ hl hc (by first | omega | (rw [hw]; omega) | (simp; omega))).mono ?_
    rintro e w1 ⟨rfl, hw1⟩;go_wp2_with (fail);exact ⟨rfl, rfl, Bas.on (((Below.refl w.heap.size w).alloc (Nat.le_refl _) _).alloc (by simp) _) hw1⟩
   ·have hz2 : 1 ≤ size := by omega
    have hz3 : (size == 0) = false := by simpa using hz
    have hd0 : 0 ≤ (len : Int) / size := Int.ediv_nonneg (by omega) h2
    have hd1 : (len : Int) / size ≤ len := Int.ediv_le_self _ (by omega)
    by_cases h3 : n ≤ (len : Int) / size
    ·have hm1 : n * size ≤ len := Int.le_trans (Int.mul_le_mul_of_nonneg_right h3 h2) (Int.ediv_mul_le _ hz);have hns : 0 ≤ n * size := Int.mul_nonneg h1 h2;have hw : wrap64 (n * size) = n * size := IntWalk.wrap64_in _ ⟨by omega, by omega⟩
     have h' : ¬ (0 ≤ at' ∧ at' + n * size ≤ len) := fun h' => h ⟨h1, h2, .inr h3, h'.1, h'.2⟩
     clear h;go_enter Tryz.func74, Tryz.ntmps74
     go_wp2_with (fail);refine (need_yesb _ _ (by first | rfl | (simp; done) | (simp; omega))).mono ?_
     rintro e w' ⟨rfl, rfl⟩;go_wp2_with (fail);refine (cut_no _ _ _ _ _ _ hl hc (by first | omega | (rw [hw]; omega) | (simp; omega))).mono ?_
     rintro e w1 ⟨rfl, hw1⟩;go_wp2_with (fail);exact ⟨rfl, rfl, Bas.on (((Below.refl w.heap.size w).alloc (Nat.le_refl _) _).alloc (by simp) _) hw1⟩
    ·clear h;go_enter Tryz.func74, Tryz.ntmps74
     go_wp2_with (fail);refine (need_nob _ _ (by first | rfl | (simp; done) | (simp; omega))).mono ?_
     rintro e w' ⟨rfl, rfl⟩;go_wp2_with (fail);exact ⟨rfl, rfl, (((Below.refl w.heap.size w).alloc (Nat.le_refl _) _).alloc (by simp) _)⟩
  ·clear h;go_enter Tryz.func74, Tryz.ntmps74
   go_wp2_with (fail);refine (need_nob _ _ (by first | rfl | (simp; done) | (simp; omega))).mono ?_
   rintro e w' ⟨rfl, rfl⟩;go_wp2_with (fail);exact ⟨rfl, rfl, (((Below.refl w.heap.size w).alloc (Nat.le_refl _) _).alloc (by simp) _)⟩
 ·clear h;go_enter Tryz.func74, Tryz.ntmps74
  go_wp2_with (fail);refine (need_nob _ _ (by first | rfl | (simp; done) | (simp; omega))).mono ?_
  rintro e w' ⟨rfl, rfl⟩;go_wp2_with (fail);exact ⟨rfl, rfl, (((Below.refl w.heap.size w).alloc (Nat.le_refl _) _).alloc (by simp) _)⟩
def NewBytes (w : World) (bs : List Int) (e : Ending) (w' : World) : Prop :=
 ∃ v, e = .returned v ∧ w'.ownsRow w.heap.size 5 1 v bs.length (bs.map (Value.int .u8)) ∧ v ≠ .slice none 0 0 ∧ Below w.heap.size w w'
theorem info8 : (Tryz.prog.info? 5).map (fun i => (i.zero, i.size, i.bytes)) = some (some (.int .u8 0), 1, 1) := by kernel_rfl
set_option maxHeartbeats 400000 in
theorem bytes_any (a : Option Addr) (len cap : Nat) (bs : List Int) (w : World) (hl : len ≤ cap) (hc : cap ≤ maxLen) (hv : VB w a bs) (hbl : bs.length = len) (hn : a = none → cap = 0) :
  Calls Tryz.prog 37 #[.agg #[.slice a len cap]] w (NewBytes w bs) := by
 obtain ⟨i8, hi8, hz1, hz2, hz3⟩ := info_parts info8;have hbl2 := hv.len;cases a with
 | none =>
  obtain rfl : cap = 0 := hn rfl;obtain rfl : len = 0 := by omega
  obtain rfl : bs = [] := List.length_eq_zero_iff.1 hbl;go_enter Tryz.func37, Tryz.ntmps37
  go_wp2;go_ret;refine ⟨_, rfl, ?_, by simp, ((Below.refl w.heap.size w).alloc (Nat.le_refl _) _).alloc (by simp) _⟩
  exact ⟨rfl, .inr ⟨w.heap.size + 1, 0, #[], rfl, by omega, Bas.heap_new2 _ _ _, by simp, by simp, by simp, by simp⟩⟩
 | some ad =>
  have hnews : ∀ (j : Nat) (u : Value), (bs.map (Value.int .u8))[j]? = some u → w.cell? (ad.add j) = some u := by
   intro j u hu;simp only [List.getElem?_map, Option.map_eq_some_iff] at hu;obtain ⟨x, hx, rfl⟩ := hu;have hj : j < bs.length := (List.getElem?_eq_some_iff.1 hx).1;obtain ⟨b, o, hab, hcell⟩ := hv.cell j hj;simp only [Option.some.injEq] at hab;subst hab;rw [List.getD_eq_getElem?_getD, hx] at hcell;rw [Addr.add_lit];exact hcell
  have hblk : ∀ (j : Nat) (u : Value), (bs.map (Value.int .u8))[j]? = some u → ad.block < w.heap.size := fun j u hu => by
   have := World.block_lt_of_cell? _ _ (hnews j u hu);unfold Addr.add at this;split at this <;> exact this
  have HN := Bas.hid hnews;have HK := Bas.hid hblk;clear hnews hblk;go_enter Tryz.func37, Tryz.ntmps37
  go_wp2_with (at_builtin; refine wpList_append_own _ rfl _ _ 42 rfl w.heap.size 5 i8 (.int .u8 0) 1 1 Tryz.underlying42 hi8 hz1 hz2 hz3 rfl (by decide) (.slice (some ⟨w.heap.size + 1, 0, none⟩) 0 0) 0 [] rfl ?c1 ad len cap (bs.map (Value.int .u8)) rfl ?c2 ?c3 ?c4 ?c5 ?c6 ?c7 ?_)
  case c1 => exact ⟨rfl, .inr ⟨w.heap.size + 1, 0, #[], rfl, by omega, Bas.heap_new2 _ _ _, by simp, by simp, by simp, by simp⟩⟩
  case c2 => simp [hbl]
  case c3 =>
   intro j u hu;have h1 := HN.out j u hu;have h2 := HK.out j u hu;have hb : (ad.add j).block < w.heap.size := World.block_lt_of_cell? _ _ h1;rw [World.cell?_alloc_lt _ _ _ (by simp; omega), World.cell?_alloc_lt _ _ _ hb]
   exact h1
  case c4 =>
   intro u hu;obtain ⟨x, _, rfl⟩ := List.mem_map.1 hu;rfl
  case c5 => omega
  case c6 => omega
  case c7 => simp; omega
  intro v' w' hown hgrow hne;go_wp2;go_ret;refine ⟨v', rfl, by rw [hbl]; exact hown, by simpa using hne, ?_⟩
  exact (((Below.refl w.heap.size w).alloc (Nat.le_refl _) _).alloc (by simp) _).grown hgrow (by simp; omega) (by intro k hk; simp [Value.ownBlock] at hk; omega)
set_option maxHeartbeats 400000 in
theorem catch_short (B : Nat) (b : Bool) (w : World) (hc : w.cell? ⟨B, 0, none⟩ = some (.bool b)) (hz : w.frozen? ⟨B, 0, none⟩ = false) :
  CallsD Tryz.prog 33 #[.pointer (some ⟨B, 0, none⟩)] (.panicking short) w fun e u' w' =>
   e = .returned (.tuple #[]) ∧ u' = .panicking [{ v := .iface 97 (.agg #[]), recovered := true }] ∧ w' = (w.setCell ⟨B, 0, none⟩ (.bool false)).alloc (.cells #[] 97) := by
 have hB : B < w.heap.size := World.block_lt_of_cell? _ _ hc;have hc' : (w.alloc (.cells #[] 97)).cell? ⟨B, 0, none⟩ = some (.bool b) := by rw [World.cell?_alloc_lt _ _ _ hB]; exact hc
 have hz' : (w.alloc (.cells #[] 97)).frozen? ⟨B, 0, none⟩ = false := by rw [frozen?_alloc_cells]; exact hz
 have hta : ∀ w, (Instr.typeAssert (.iface 97 (.agg #[])) 20 97 true).run Tryz.prog w = .ok (.tuple #[.agg #[], .bool true]) w := fun _ => by kernel_rfl
 refine callsD_of_wpS Tryz.func33 rfl fun c₀ cs hu => ?_
 apply wpS_seq;apply wpS_region;simp [wpOpsS, go_sem, recoverD, hu, Tryz.ntmps33, Exit.thenS, short];refine wpS_of_wp ?_;simp only [Array.replicate_succ, Array.replicate_zero, List.push_toArray, List.append_toArray, List.nil_append, List.cons_append, List.setIfInBounds_toArray, List.set_cons_succ, List.set_cons_zero];go_wp2;simp [bodyPostS, results, Tryz.results33]
set_option maxHeartbeats 400000 in
theorem catch_idle (B : Nat) (w : World) :
  CallsD Tryz.prog 33 #[.pointer (some ⟨B, 0, none⟩)] .returning w fun e u' w' => e = .returned (.tuple #[]) ∧ u' = .returning ∧ w' = w := by
 refine callsD_of_wpS Tryz.func33 rfl fun c₀ cs hu => ?_
 apply wpS_seq;apply wpS_region;simp [wpOpsS, go_sem, recoverD, hu, Tryz.ntmps33, Exit.thenS];refine wpS_of_wp ?_;simp only [Array.replicate_succ, Array.replicate_zero, List.push_toArray, List.append_toArray, List.nil_append, List.cons_append, List.setIfInBounds_toArray, List.set_cons_succ, List.set_cons_zero];go_wp2;cases c₀
 simp_all [bodyPostS, results, Tryz.results33]
def TryPost (B : Nat) (R : Bool → World → Prop) (e : Ending) (w2 : World) : Prop :=
 w2.heap[B]? = some (.cells #[.bool false] 4) ∧ ((e = .returned (.tuple #[]) ∧ R true w2) ∨ (e = .panicked short ∧ R false w2))
def TryDone (B : Nat) (R : Bool → World → Prop) (e : Ending) (w' : World) : Prop :=
 ∃ ok w2, e = .returned (.bool ok) ∧ R ok w2 ∧ B < w2.heap.size ∧ w2.grownBy w' (some B)
set_option maxHeartbeats 400000 in
theorem try_any (K : Nat) (caps : Array Value) (w : World) (R : Bool → World → Prop) (hcf : ∀ w, (callFunc K caps).run Tryz.prog w = .ok (.enter K caps) w)
  (h : Calls Tryz.prog K caps (w.alloc (.cells #[.bool false] 4)) (TryPost w.heap.size R)) :
  Calls Tryz.prog 16 #[.func (.func K) #[] caps] w (TryDone w.heap.size R) := by
 have hmf : ∀ (fn : Fn) (first cap : Array Value) (w : World), (Instr.makeFunc fn first cap).run Tryz.prog w = .ok (.func fn first cap) w := fun _ _ _ _ => rfl
 have H := Bas.hid h;clear h
 go_enter_defers Tryz.func16, Tryz.ntmps16
 go_wp2_with (fail);refine H.out.mono ?_;clear H hcf;rintro e w2 ⟨hB, ⟨rfl, hR⟩ | ⟨rfl, hR⟩⟩
 ·have hlt : w.heap.size < w2.heap.size := (Array.getElem?_eq_some_iff.1 hB).1;have hc : w2.cell? ⟨w.heap.size, 0, none⟩ = some (.bool false) := by simp [World.cell?, hB]
  have hz : w2.frozen? ⟨w.heap.size, 0, none⟩ = false := by simp [World.frozen?, hB]
  have HBB := Bas.hid hB;clear hB;go_wp2_with (fail);refine leaves_cons (f := 33) (args := #[.pointer (some ⟨w.heap.size, 0, none⟩)]) (by simp) (by simp [go_sem]) ?_
  refine (catch_idle w.heap.size _).mono ?_;rintro e u' w'' ⟨rfl, rfl, rfl⟩;have hg : w2.grownBy (w2.setCell ⟨w.heap.size, 0, none⟩ (.bool true)) (some w.heap.size) :=
   ⟨rfl, rfl, rfl, by simp, fun k _ hk => Below.heap_setCell _ _ _ _ (fun e => hk (by rw [e]))⟩
  refine ⟨.bool true, ?_, true, w2, rfl, hR, hlt, hg⟩;simp [results, Tryz.results16, go_sem, hc]
 ·have hlt : w.heap.size < w2.heap.size := (Array.getElem?_eq_some_iff.1 hB).1;have hc : w2.cell? ⟨w.heap.size, 0, none⟩ = some (.bool false) := by simp [World.cell?, hB]
  have hz : w2.frozen? ⟨w.heap.size, 0, none⟩ = false := by simp [World.frozen?, hB]
  clear hB;go_wp2_with (fail);refine leaves_cons (f := 33) (args := #[.pointer (some ⟨w.heap.size, 0, none⟩)]) (by simp) (by simp [go_sem]) ?_
  refine (catch_short w.heap.size false _ hc hz).mono ?_;rintro e u' w'' ⟨rfl, rfl, rfl⟩;have hg : w2.grownBy ((w2.setCell ⟨w.heap.size, 0, none⟩ (.bool false)).alloc (.cells #[] 97)) (some w.heap.size) :=
   ⟨rfl, rfl, rfl, by simp, fun k hk' hk => (Below.heap_alloc (w2.setCell ⟨w.heap.size, 0, none⟩ (.bool false)) _ k (by simpa using hk')).trans (Below.heap_setCell _ _ _ _ (fun e => hk (by rw [e])))⟩
  have hp : TryDone w.heap.size R (.returned (.bool false)) ((w2.setCell ⟨w.heap.size, 0, none⟩ (.bool false)).alloc (.cells #[] 97)) := ⟨false, w2, rfl, hR, hlt, hg⟩;have hr : ((w2.setCell ⟨w.heap.size, 0, none⟩ (.bool false)).alloc (.cells #[] 97)).cell? ⟨w.heap.size, 0, none⟩ = some (.bool false) := by
   rw [World.cell?_alloc_lt (w2.setCell ⟨w.heap.size, 0, none⟩ (.bool false)) _ _ (by simp only [World.setCell, Array.size_modify]; exact hlt)]; simp [go_sem, hc]
  simp [Leaves, settle, results, Tryz.results16, go_sem, hp, hr]
theorem VB_of_row {w : World} {a : Option Addr} {len cap : Nat} {zs : List Int} (h : Bas.IsRow .u8 w a len cap zs) (hlen : len ≤ 140737488355328) :
  VB w a (zs.take len) ∧ (zs.take len).length = len ∧ len ≤ cap ∧ cap ≤ maxLen ∧ (a = none → cap = 0) := by
 rcases h with ⟨rfl, rfl, rfl, rfl⟩ | ⟨x, rfl, hl, hm, hz, hcell, hwz⟩
 ·exact ⟨⟨by simp, by simp, by simp⟩, by simp, by simp, by simp, fun _ => rfl⟩
 ·have hlt : (zs.take len).length = len := by simp; omega
  refine ⟨⟨by omega, fun y hy => Bas.wf_u8 (hwz y (List.mem_of_mem_take hy)), fun i hi => ?_⟩, hlt, hl, hm, by simp⟩
  have hi' : i < len := by omega
  have hc := hcell i (by omega)
  have hs := World.cell?_spot hc;obtain ⟨b, o, s⟩ := x;by_cases hi0 : i = 0
  ·subst hi0;have : s = none := by simpa [Addr.add] using hs
   subst this;refine ⟨b, o, rfl, ?_⟩;rw [Addr.add_lit] at hc;rw [hc]; simp [hi']
  ·have hc0 := hcell 0 (by omega)
   have hs0 := World.cell?_spot hc0;have : s = none := by simpa [Addr.add] using hs0
   subst this;refine ⟨b, o, rfl, ?_⟩;rw [Addr.add_lit] at hc;rw [hc]; simp [hi']
def OwnB (w : World) (g n : Nat) : Prop := ∃ cur, w.heap[g]? = some (.cells cur 5 (0, 0)) ∧ ∀ i, i < n → ∃ y, cur[i]? = some (.int .u8 y)
theorem owned {w : World} {base : Nat} {v : Value} {n : Nat} {bs : List Int} (h : w.ownsRow base 5 1 v n (bs.map (Value.int .u8))) (hne : v ≠ .slice none 0 0) (hn : n = bs.length) (hb : ∀ x ∈ bs, 0 ≤ x ∧ x ≤ 255) (hl : bs.length ≤ 140737488355328) :
  ∃ g cap, v = .slice (some ⟨g, 0, none⟩) n cap ∧ base ≤ g ∧ g < w.heap.size ∧ n ≤ cap ∧ cap ≤ maxLen ∧ VB w (some ⟨g, 0, none⟩) bs ∧ OwnB w g n := by
 obtain ⟨hlen, ⟨rfl, _⟩ | ⟨g, cap, cur, rfl, hg, hh, hc, hm, hs, ht⟩⟩ := h
 ·exact absurd rfl hne
 ·have hcur : ∀ i, i < n → cur[i]? = some (.int .u8 (bs.getD i 0)) := by
   intro i hi;have h1 : (cur.toList.take (n * 1))[i]? = (bs.map (Value.int .u8))[i]? := by rw [ht]
   rw [List.getElem?_take_of_lt (by omega)] at h1
   rw [← Array.getElem?_toList, h1, List.getElem?_map, List.getElem?_eq_getElem (by omega)]
   simp [show i < bs.length by omega]
  refine ⟨g, cap, rfl, hg, (Array.getElem?_eq_some_iff.1 hh).1, hc, hm, ⟨hl, hb, fun i hi => ⟨g, 0, rfl, ?_⟩⟩, cur, hh, fun i hi => ⟨_, hcur i hi⟩⟩
  simp [World.cell?, hh, hcur i (by omega)]
end Vw
namespace Row
theorem leads_slice {w : World} {v : Value} {n : Nat} {xs : List Value} (h : Leads w v n xs) : ∃ ad cap, v = .slice ad n cap := by
 rcases h with ⟨rfl, rfl, _⟩ | ⟨ad, cap, rfl, _⟩
 ·exact ⟨_, _, rfl⟩
 ·exact ⟨_, _, rfl⟩
theorem leads_below {w w' : World} {v : Value} {n : Nat} {xs : List Value} (h : Leads w v n xs) (hb : Below w.heap.size w w') : Leads w' v n xs := by
 rcases h with h | ⟨ad, cap, rfl, hc⟩
 ·exact .inl h
 ·exact .inr ⟨ad, cap, rfl, fun j u hu => (hb.cell (World.block_lt_of_cell? _ _ (hc j u hu))).trans (hc j u hu)⟩
theorem leads_elem {α : Type} {f : α → List Value} {m : Nat} (hf : ∀ x, (f x).length = m) {w : World} {v : Value} {n : Nat} {l : List α} (h : Leads w v n (l.flatMap f)) {i : Nat} {x : α} (hx : l[i]? = some x) (hm : 0 < m) :
  ∃ b o cp, v = .slice (some ⟨b, o, none⟩) n cp ∧ ∀ j u, (f x)[j]? = some u → w.cell? ⟨b, o + i * m + j, none⟩ = some u := by
 have hne : ∃ u, (l.flatMap f)[0]? = some u := by
  cases l with
  | nil => simp at hx
  | cons y l =>
   have hy := hf y;cases hfy : f y with
   | nil => rw [hfy] at hy; simp at hy; omega
   | cons u r => exact ⟨u, by simp [hfy]⟩
 rcases h with ⟨_, _, h0⟩ | ⟨ad, cap, rfl, hc⟩
 ·obtain ⟨u, hu⟩ := hne;rw [h0] at hu; simp at hu
 ·obtain ⟨u0, hu0⟩ := hne;have h0 := hc 0 u0 hu0;obtain ⟨b, o, s⟩ := ad;have hs : s = none := by have := World.cell?_spot h0; simpa [Addr.add] using this
  subst hs;refine ⟨b, o, cap, rfl, fun j u hu => ?_⟩
  have := hc (i * m + j) u (flat_get hf l i j x u hx hu);rw [Addr.add_lit] at this;rw [Nat.add_assoc];exact this
theorem take_flat {α β : Type} (f : α → List β) (l : List α) (k : Nat) (x : α) (h : l[k]? = some x) : (l.take (k + 1)).flatMap f = (l.take k).flatMap f ++ f x := by
 rw [List.take_add_one, h, List.flatMap_append];simp
theorem flat_len_le {α β : Type} (f : α → List β) (M : Nat) : ∀ (l : List α), (∀ x ∈ l, (f x).length ≤ M) → (l.flatMap f).length ≤ M * l.length
 | [], _ => by simp
 | y :: l, h => by
  have h1 := h y (by simp)
  have h2 := flat_len_le f M l (fun x hx => h x (by simp [hx]))
  simp only [List.flatMap_cons, List.length_append, List.length_cons, Nat.mul_add];omega
theorem take_len_le {α β : Type} (f : α → List β) (M : Nat) (l : List α) (k : Nat) (h : ∀ x ∈ l, (f x).length ≤ M) (hk : k ≤ l.length) : ((l.take k).flatMap f).length ≤ M * k := by
 have := flat_len_le f M (l.take k) (fun x hx => h x (List.mem_of_mem_take hx))
 rwa [List.length_take, Nat.min_eq_left hk] at this
end Row
namespace Ch
open Vw
structure RuleD where
 type : Int
 value : Int
 enable : Int
 disable : Int
structure SubD where
 cover : Int
 flags : Int
 at' : Nat
 len : Nat
structure ChainD where
 first : Int
 rules : List RuleD
 subs : List SubD
def ruleAt (bs : List Int) (i : Nat) : RuleD := ⟨be bs (16 + 12 * i) 2, be bs (16 + 12 * i + 2) 2, be bs (16 + 12 * i + 4) 4, be bs (16 + 12 * i + 8) 4⟩
def rulesAt (bs : List Int) (n : Nat) : List RuleD := (List.range n).map (ruleAt bs)
def subsAt (bs : List Int) : Nat → Nat → Option (List SubD)
 | 0, _ => some []
 | k + 1, p => if p + 4 ≤ bs.length ∧ 12 ≤ (be bs p 4).toNat ∧ p + (be bs p 4).toNat ≤ bs.length then (subsAt bs k (p + (be bs p 4).toNat)).map fun l => ⟨be bs (p + 4) 4, be bs (p + 8) 4, p, (be bs p 4).toNat⟩ :: l else none
def parseOne (bs : List Int) : Option ChainD :=
 if 16 ≤ bs.length ∧ 16 + 12 * (be bs 8 4).toNat ≤ bs.length then (subsAt bs (be bs 12 4).toNat (16 + 12 * (be bs 8 4).toNat)).map fun l => ⟨be bs 0 4, rulesAt bs (be bs 8 4).toNat, l⟩ else none
def ruleC (r : RuleD) : List Value := [.int .i64 r.type, .int .i64 r.value, .int .u32 r.enable, .int .u32 r.disable]
def rulesC (l : List RuleD) : List Value := l.flatMap ruleC
def subC (a : Option Addr) (s : SubD) : List Value := [.int .u32 s.cover, .int .u32 s.flags, .slice (sub (sub a s.at' s.len) 12 (s.len - 12)) (s.len - 12) (s.len - 12)]
def subsC (a : Option Addr) (l : List SubD) : List Value := l.flatMap (subC a)
theorem rulesAt_succ (bs : List Int) (n : Nat) : rulesAt bs (n + 1) = rulesAt bs n ++ [ruleAt bs n] := by
 unfold rulesAt; rw [List.range_succ, List.map_append]; rfl
theorem rulesAt_len (bs : List Int) (n : Nat) : (rulesAt bs n).length = n := by simp [rulesAt]
theorem rulesC_snoc (l : List RuleD) (r : RuleD) : rulesC (l ++ [r]) = rulesC l ++ ruleC r := by simp [rulesC]
theorem subsC_snoc (a : Option Addr) (l : List SubD) (s : SubD) : subsC a (l ++ [s]) = subsC a l ++ subC a s := by simp [subsC]
theorem be_sub (bs : List Int) (q m i k : Nat) (h : i + k ≤ m) : be ((bs.drop q).take m) i k = be bs (q + i) k := by
 unfold be;rw [List.drop_take, List.take_take, List.drop_drop, Nat.min_eq_left (by omega)]
theorem vb_sub_sub {w : World} {a : Option Addr} {bs : List Int} (hv : VB w a bs) (q m i k : Nat) (h1 : q + m ≤ bs.length) (h2 : i + k ≤ m) : VB w (sub (sub a q m) i k) ((bs.drop (q + i)).take k) := by
 have h3 := (hv.sub q m h1).sub i k (by rw [List.length_take, List.length_drop]; omega)
 rwa [List.drop_take, List.take_take, List.drop_drop, Nat.min_eq_left (by omega)] at h3
def OnePost (w : World) (a : Option Addr) (bs : List Int) (e : Ending) (w' : World) : Prop :=
 Below w.heap.size w w' ∧ match parseOne bs with
  | none => e = .panicked short
  | some c => ∃ vr vs, e = .returned (.agg #[.int .u32 c.first, vr, vs]) ∧ w'.ownsRow w.heap.size 147 4 vr c.rules.length (rulesC c.rules) ∧ w'.ownsRow w.heap.size 104 3 vs c.subs.length (subsC a c.subs)
theorem cell_of_heap {w : World} {b i : Nat} {cs : Array Value} {t : TypeId} {v : Value} (h : w.heap[b]? = some (.cells cs t (0, 0))) (hi : cs[i]? = some v) : w.cell? ⟨b, i, none⟩ = some v := by
 simp [World.cell?, h, hi]
theorem free_of_heap {w : World} {b i : Nat} {cs : Array Value} {t : TypeId} (h : w.heap[b]? = some (.cells cs t (0, 0))) : w.frozen? ⟨b, i, none⟩ = false := by
 simp [World.frozen?, h]
theorem heap_set {w : World} {b i : Nat} {cs : Array Value} {t : TypeId} (h : w.heap[b]? = some (.cells cs t (0, 0))) (v : Value) : (w.setCell ⟨b, i, none⟩ v).heap[b]? = some (.cells (cs.setIfInBounds i v) t (0, 0)) := by
 simp [World.setCell, Array.getElem?_modify, h]
theorem heap_lt {w : World} {b : Nat} {o : Obj} (h : w.heap[b]? = some o) : b < w.heap.size := (Array.getElem?_eq_some_iff.1 h).1
theorem leads_heap {w : World} {g n c : Nat} {cs : List Value} {t : TypeId} (h : w.heap[g]? = some (.cells cs.toArray t (0, 0))) : Row.Leads w (.slice (some ⟨g, 0, none⟩) n c) n cs :=
 .inr ⟨_, c, rfl, fun j u hu => by rw [Addr.add_lit, Nat.zero_add]; exact cell_of_heap h (by simpa using hu)⟩
theorem own_slice {w : World} {base size : Nat} {e : TypeId} {v : Value} {n : Nat} {xs : List Value} (h : w.ownsRow base e size v n xs) : ∃ ad cp, v = .slice ad n cp := by
 rcases Row.owned_parts h with ⟨rfl, rfl, _⟩ | ⟨_, _, h, _⟩
 ·exact ⟨_, _, rfl⟩
 ·exact ⟨_, _, h⟩
theorem own_ty {w : World} {base : Nat} {v : Value} {n g size : Nat} {xs : List Value} {e t : TypeId} {cs : Array Value} (h : w.ownsRow base e size v n xs) (ho : w.heap[g]? = some (.cells cs t (0, 0))) (hne : e ≠ t) : v.ownBlock ≠ some g := by
 intro e';obtain ⟨_, ⟨rfl, _⟩ | ⟨g', cp, cur, rfl, _, hh, _⟩⟩ := h
 ·cases e'
 ·cases e';rw [hh] at ho;simp at ho;exact hne ho.2
theorem own_rows_ne {w : World} {b1 b2 s1 s2 n1 n2 g : Nat} {v1 v2 : Value} {x1 x2 : List Value} {e1 e2 : TypeId} (h1 : w.ownsRow b1 e1 s1 v1 n1 x1) (h2 : w.ownsRow b2 e2 s2 v2 n2 x2) (hne : e1 ≠ e2) (hg : v1.ownBlock = some g) : v2.ownBlock ≠ some g := by
 obtain ⟨_, ⟨rfl, _⟩ | ⟨g', cp, cur, rfl, _, hh, _⟩⟩ := h1
 ·cases hg
 ·cases hg;exact own_ty h2 hh (fun e => hne e.symm)
end Ch
structure Mod (S : Nat → Prop) (w w' : World) : Prop where
 os : w'.os = w.os
 tape : w'.tape = w.tape
 output : w'.output = w.output
 size : w.heap.size ≤ w'.heap.size
 block : ∀ k, k < w.heap.size → ¬ S k → w'.heap[k]? = w.heap[k]?
namespace Mod
theorem refl (S : Nat → Prop) (w : World) : Mod S w w := ⟨rfl, rfl, rfl, Nat.le_refl _, fun _ _ _ => rfl⟩
theorem trans {S T : Nat → Prop} {a b c : World} (h : Mod S a b) (k : Mod T b c) (hT : ∀ i, T i → i < a.heap.size → S i) : Mod S a c :=
 ⟨k.os.trans h.os, k.tape.trans h.tape, k.output.trans h.output, Nat.le_trans h.size k.size, fun i hi hs => (k.block i (Nat.lt_of_lt_of_le hi h.size) (fun ht => hs (hT i ht hi))).trans (h.block i hi hs)⟩
theorem mono {S T : Nat → Prop} {a b : World} (h : Mod S a b) (hT : ∀ i, S i → i < a.heap.size → T i) : Mod T a b := ⟨h.os, h.tape, h.output, h.size, fun i hi hs => h.block i hi (fun h' => hs (hT i h' hi))⟩
theorem of_below {S : Nat → Prop} {a b : World} (h : Below a.heap.size a b) : Mod S a b := ⟨h.os, h.tape, h.output, h.size, fun i hi _ => h.block i hi⟩
theorem of_grown {S : Nat → Prop} {a b : World} {r : Option Nat} (h : a.grownBy b r) (hr : ∀ g, r = some g → S g) : Mod S a b := ⟨h.os, h.tape, h.output, h.size, fun i hi hs => h.block i hi (fun e => hs (hr i e.symm))⟩
theorem set {S : Nat → Prop} {a w : World} (h : Mod S a w) {b o : Nat} (v : Value) (hb : S b ∨ a.heap.size ≤ b) : Mod S a (w.setCell ⟨b, o, none⟩ v) :=
 ⟨h.os, h.tape, h.output, by simpa [World.setCell] using h.size, fun i hi hs => (Below.heap_setCell _ _ _ _ (fun e => by
  have e2 : i = b := e;rcases hb with hb | hb
  ·exact hs (e2 ▸ hb)
  ·omega)).trans (h.block i hi hs)⟩
theorem drew {S : Nat → Prop} {a w : World} (h : Mod S a w) : Mod S a w.drew := ⟨h.os, h.tape, h.output, h.size, h.block⟩
theorem on {S : Nat → Prop} {a b c : World} (h : Mod S a b) (k : Below b.heap.size b c) : Mod S a c := h.trans (T := fun _ => False) (of_below k) (fun _ h _ => h.elim)
theorem below {S : Nat → Prop} {B : Nat} {a w w' : World} (h : Mod S w w') (ha : Below B a w) (hS : ∀ i, S i → B ≤ i) (hB : B ≤ w.heap.size) : Below B a w' :=
 ⟨h.os.trans ha.os, h.tape.trans ha.tape, h.output.trans ha.output, Nat.le_trans ha.size h.size, fun i hi => (h.block i (Nat.lt_of_lt_of_le hi hB) (fun hs => absurd (hS i hs) (Nat.not_le.2 hi))).trans (ha.block i hi)⟩
theorem cell {S : Nat → Prop} {w w' : World} (h : Mod S w w') {b o : Nat} {v : Value} (hc : w.cell? ⟨b, o, none⟩ = some v) (hb : ¬ S b) : w'.cell? ⟨b, o, none⟩ = some v :=
 (World.cell?_of_block (w := w) (h.block b (World.block_lt_of_cell? _ _ hc) hb)).trans hc
theorem heap {S : Nat → Prop} {w w' : World} (h : Mod S w w') {b : Nat} {o : Obj} (hc : w.heap[b]? = some o) (hb : ¬ S b) : w'.heap[b]? = some o := (h.block b (Ch.heap_lt hc) hb).trans hc
theorem leads {S : Nat → Prop} {w w' : World} (h : Mod S w w') {v : Value} {n : Nat} {xs : List Value} (hl : Row.Leads w v n xs) (hb : ∀ ad len cap, v = .slice (some ad) len cap → xs ≠ [] → ¬ S ad.block) : Row.Leads w' v n xs := by
 rcases hl with ⟨h1, h2, h3⟩ | ⟨ad, cap, h1, h2⟩
 ·exact .inl ⟨h1, h2, h3⟩
 ·refine .inr ⟨ad, cap, h1, fun j u hu => ?_⟩
  have hne : xs ≠ [] := fun e => by subst e; simp at hu
  have hc := h2 j u hu;have hb' : (ad.add j).block = ad.block := by unfold Addr.add; split <;> rfl
  have h3 : w'.heap[(ad.add j).block]? = w.heap[(ad.add j).block]? := h.block _ (World.block_lt_of_cell? _ _ hc) (by rw [hb']; exact hb _ _ _ h1 hne)
  exact (World.cell?_of_block h3).trans hc
theorem owned {S : Nat → Prop} {w w' : World} (h : Mod S w w') {base size n : Nat} {e : TypeId} {v : Value} {xs : List Value} (ho : w.ownsRow base e size v n xs) (hb : ∀ g, v.ownBlock = some g → ¬ S g) : w'.ownsRow base e size v n xs :=
 Row.owned_keep ho fun g hg => h.block g (Row.own_block ho hg).2 (hb g hg)
end Mod
namespace Ln
open Ch
abbrev Gl := Int × Int
def glC (g : Gl) : List Value := [.int .i64 g.1, .int .i64 g.2]
theorem glC_len (g : Gl) : (glC g).length = 2 := rfl
theorem glC_flat (l : List Gl) : (l.flatMap glC).length = l.length * 2 := by
 induction l with
 | nil => rfl
 | cons s l ih => rw [List.flatMap_cons, List.length_append, ih, List.length_cons]; simp [glC]; omega
theorem glC_one (l : List Gl) : ∀ u ∈ l.flatMap glC, u.oneCell' = true := fun v hv => by
 obtain ⟨s, _, hs⟩ := List.mem_flatMap.1 hv;simp [glC] at hs;rcases hs with rfl | rfl <;> rfl
theorem infoG : (Tryz.prog.info? 47).map (fun i => (i.zero, i.size, i.bytes)) = some (some (.agg #[.int .i64 0, .int .i64 0]), 2, 16) := by kernel_rfl
structure LineAt (w : World) (base g : Nat) (sv : Value) (xs : List Gl) : Prop where
 head : w.heap[g]? = some (.cells #[sv] 76 (0, 0))
 own : w.ownsRow base 47 2 sv xs.length (xs.flatMap glC)
 low : base ≤ g
def blk (g : Nat) (sv : Value) (k : Nat) : Prop := k = g ∨ sv.ownBlock = some k
theorem LineAt.lt {w : World} {base g : Nat} {sv : Value} {xs : List Gl} (h : LineAt w base g sv xs) : g < w.heap.size := heap_lt h.head
theorem LineAt.blk_low {w : World} {base g : Nat} {sv : Value} {xs : List Gl} (h : LineAt w base g sv xs) : ∀ k, blk g sv k → base ≤ k ∧ k < w.heap.size := fun k hk => by
 rcases hk with rfl | hk
 ·exact ⟨h.low, h.lt⟩
 ·exact Row.own_block h.own hk
theorem LineAt.mod {S : Nat → Prop} {w w' : World} {base g : Nat} {sv : Value} {xs : List Gl} (h : LineAt w base g sv xs) (hm : Mod S w w') (hS : ∀ k, blk g sv k → ¬ S k) : LineAt w' base g sv xs :=
 ⟨hm.heap h.head (hS g (.inl rfl)), hm.owned h.own fun k hk => hS k (.inr hk), h.low⟩
theorem LineAt.below {w w' : World} {base g : Nat} {sv : Value} {xs : List Gl} (h : LineAt w base g sv xs) (hb : Below w.heap.size w w') : LineAt w' base g sv xs :=
 h.mod (S := fun _ => False) (Mod.of_below hb) (fun _ _ h => h)
theorem LineAt.ne {w : World} {base g : Nat} {sv : Value} {xs : List Gl} (h : LineAt w base g sv xs) : sv.ownBlock ≠ some g := own_ty h.own h.head (by decide)
def LnTo (w : World) (base g : Nat) (sv : Value) (ys : List Gl) (w' : World) : Prop := ∃ sv', LineAt w' base g sv' ys ∧ Mod (blk g sv) w w' ∧ ∀ k, sv'.ownBlock = some k → sv.ownBlock = some k ∨ w.heap.size ≤ k
theorem LnTo.refl {w : World} {base g : Nat} {sv : Value} {xs : List Gl} (h : LineAt w base g sv xs) : LnTo w base g sv xs w := ⟨sv, h, Mod.refl _ _, fun _ h => .inl h⟩
def glAt (xs : List Gl) (i : Int) : Option Gl := if 0 ≤ i then xs[i.toNat]? else none
def setId (xs : List Gl) (i id : Int) : List Gl := match glAt xs i with
 | some g => xs.set i.toNat (id, g.2)
 | none => xs
def setCl (xs : List Gl) (i c : Int) : List Gl := match glAt xs i with
 | some g => xs.set i.toNat (g.1, c)
 | none => xs
def joinL (xs : List Gl) (i : Int) (ks : List Int) : List Gl := match glAt xs i with
 | none => xs
 | some _ => ks.foldl (fun xs k => match glAt xs k, glAt xs i with
  | some g, some h => setCl xs i (min h.2 g.2)
  | _, _ => xs) xs
def insL (xs : List Gl) (i : Int) (ids : List Int) : List Gl :=
 if i < 0 ∨ (xs.length : Int) < i then xs
 else
  let c := match glAt xs i with
   | some g => g.2
   | none => match glAt xs (i - 1) with
    | some g => g.2
    | none => 0
  xs.take i.toNat ++ ids.map (fun id => (id, c)) ++ xs.drop i.toNat
def orderB (n : Nat) (l : List Int) : Bool := decide (∀ k ∈ l, 0 ≤ k ∧ k < n) && decide l.Nodup
def cleanL (xs : List Gl) : List Gl := xs.filter fun g => decide (g.1 ≠ 65535)
end Ln
namespace Sk
def Asked (R : Nat → Nat → World → Prop) (lo hi mid : Nat) (e : Ending) (w' : World) : Prop :=
 ∃ b, e = .returned (.bool b) ∧ ((b = true ∧ R lo mid w') ∨ (b = false ∧ R (mid + 1) hi w'))
def Found (R : Nat → Nat → World → Prop) (n : Nat) (e : Ending) (w' : World) : Prop := ∃ k : Nat, k ≤ n ∧ e = .returned (.int .i64 k) ∧ R k k w'
set_option maxHeartbeats 1000000 in
theorem first_any (K : Nat) (caps : Array Value) (R : Nat → Nat → World → Prop) (n : Nat) (w : World) (hn : n ≤ 4294967296) (hcf : ∀ args w, (callFunc K args).run Tryz.prog w = .ok (.enter K args) w)
  (hstep : ∀ (lo hi : Nat) (w : World), lo < hi → hi ≤ n → R lo hi w → Calls Tryz.prog K (#[.int .i64 ((lo + (hi - lo) / 2 : Nat) : Int)] ++ caps) w (Asked R lo hi (lo + (hi - lo) / 2))) (h0 : R 0 n w) :
  Calls Tryz.prog 116 #[.int .i64 n, .func (.func K) #[] caps] w (Found R n) := by
 have HS := Bas.hid hstep;clear hstep;go_enter Tryz.func116, Tryz.ntmps116
 go_wp2_with (fail);go_loopw [5, 6] (fun a b wr => ∃ lo hi : Nat, lo ≤ hi ∧ hi ≤ n ∧ a = .int .i64 lo ∧ b = .int .i64 hi ∧ R lo hi wr) (fun a b _ => (intOf b - intOf a).toNat)
 case atStart => exact ⟨0, n, by omega, by omega, rfl, rfl, h0⟩
 case round =>
  obtain ⟨lo, hi, hlh, hhn, rfl, rfl, hR⟩ := hrel;have HR := Bas.hid hR;clear hR h0;by_cases hlt : lo < hi
  ·have C := HS.out lo hi wr hlt hhn HR.out;have e1 : ((lo : Int) + ((hi : Int) - (lo : Int)) / 2) = ((lo + (hi - lo) / 2 : Nat) : Int) := by omega
   have hm1 : lo ≤ lo + (hi - lo) / 2 := by omega
   have hm2 : lo + (hi - lo) / 2 < hi := by omega
   rw [← e1] at C;have HC := Bas.hid C;have HE := Bas.hid e1;clear C e1;go_wp2_with (fail);refine HC.out.mono ?_;rintro e w2 ⟨b, rfl, ⟨rfl, hR2⟩ | ⟨rfl, hR2⟩⟩
   ·have HR2 := Bas.hid hR2;clear hR2;go_wp2_with (fail);go_roundw
    case rel => exact ⟨lo, lo + (hi - lo) / 2, hm1, by omega, rfl, by rw [HE.out], HR2.out⟩
    case measure => simp [intOf]; omega
   ·have HR2 := Bas.hid hR2;clear hR2;go_wp2_with (fail);go_roundw
    case rel => exact ⟨lo + (hi - lo) / 2 + 1, hi, by omega, hhn, by rw [HE.out]; go_num, rfl, HR2.out⟩
    case measure => simp [intOf]; omega
  ·have : lo = hi := by omega
   subst this;go_wp2_with (fail);go_ret;exact ⟨lo, hhn, rfl, HR.out⟩
end Sk
namespace Sk
open Vw
def noneB (bs : List Int) : Nat → Bool
 | 0 => true
 | k + 1 => noneB bs k && be bs (2 * k) 2 == 65535
theorem noneB_stop (bs : List Int) (i k : Nat) (hi : i < k) (h : be bs (2 * i) 2 ≠ 65535) : noneB bs k = false := by
 induction k with
 | zero => omega
 | succ k ih =>
  unfold noneB;by_cases hk : i < k
  ·rw [ih hk]; rfl
  ·have : i = k := by omega
   subst this;simp [h]
theorem noneB_all (bs : List Int) (k : Nat) (h : ∀ i, i < k → be bs (2 * i) 2 = 65535) : noneB bs k = true := by
 induction k with
 | zero => rfl
 | succ k ih => unfold noneB; rw [ih (fun i hi => h i (by omega)), h k (by omega)]; rfl
set_option maxHeartbeats 1000000 in
theorem none_any (a : Option Addr) (len cap : Nat) (bs : List Int) (keys : Nat) (w : World) (hl : len ≤ cap) (hc : cap ≤ maxLen) (hv : VB w a bs) (hbl : bs.length = len) (hk : 2 * keys ≤ len) :
  Calls Tryz.prog 148 #[.agg #[.slice a len cap], .int .i64 keys] w fun e w' => e = .returned (.bool (noneB bs keys)) ∧ Below w.heap.size w w' := by
 have hvl := hv.len;have HV := Bas.hid hv;clear hv;go_enter Tryz.func148, Tryz.ntmps148
 go_wp2_with (fail);go_loopw [7] (fun c wr => ∃ i : Nat, i ≤ keys ∧ c = .int .i64 i ∧ Below w.heap.size w wr ∧ w.heap.size < wr.heap.size ∧ wr.cell? ⟨w.heap.size, 0, none⟩ = some (.slice a len cap) ∧ ∀ j, j < i → be bs (2 * j) 2 = 65535) (fun c _ => keys - (intOf c).toNat)
 case atStart => exact ⟨0, by omega, rfl, (Below.refl _ _).alloc (Nat.le_refl _) _, by simp, by simp, by omega⟩
 case round =>
  obtain ⟨i, hi, rfl, hb, hz, hcell, hall⟩ := hrel;have HA := Bas.hid hall;clear hall;by_cases hik : i < keys
  ·have e2 : (2 : Int) * (i : Int) = ((2 * i : Nat) : Int) := by omega
   have C := u16_ok a len cap bs ((2 * i : Nat) : Int) wr hl hc (HV.out.below hb) hbl (by omega) (by omega)
   rw [Int.toNat_natCast, ← e2] at C;have HC := Bas.hid C;clear C e2;go_wp2_with (fail);refine HC.out.mono ?_;rintro e w2 ⟨rfl, hb2⟩;have HB2 : Below w.heap.size w w2 := hb.trans (hb2.mono hb.size);have hc2 : w2.cell? ⟨w.heap.size, 0, none⟩ = some (.slice a len cap) := (hb2.cell (p := ⟨w.heap.size, 0, none⟩) hz).trans hcell;have hz2 : w.heap.size < w2.heap.size := Nat.lt_of_lt_of_le hz hb2.size;clear hb2 HC;by_cases hx : be bs (2 * i) 2 = 65535
   ·rw [hx];have HX := Bas.hid hx;clear hx;go_wp2_with (fail);go_roundw
    case rel => exact ⟨i + 1, by omega, by go_num, HB2, hz2, hc2, fun j hj => by
     by_cases h : j = i
     ·rw [h]; exact HX.out
     ·exact HA.out j (by omega)⟩
    case measure => simp [intOf]; omega
   ·have hN := noneB_stop bs i keys hik hx;have q : (be bs (2 * i) 2 == 65535) = false := by simpa using hx
    have HN := Bas.hid hN;clear hx hN;generalize be bs (2 * i) 2 = y at q ⊢;go_wp2_with (fail);go_ret;exact ⟨by rw [HN.out]; rfl, HB2⟩
  ·have : i = keys := by omega
   subst this;have hN := noneB_all bs i HA.out;have HN := Bas.hid hN;clear hN;go_wp2_with (fail);go_ret;exact ⟨by rw [HN.out]; rfl, hb⟩
def rowV (A : Option Addr) (s : Nat) (i : Nat) : Value := .slice (sub A (s * i) s) s s
def rowsV (A : Option Addr) (s n : Nat) : List Value := (List.range n).map (rowV A s)
theorem rowsV_succ (A : Option Addr) (s n : Nat) : rowsV A s (n + 1) = rowsV A s n ++ [rowV A s n] := by
 unfold rowsV; rw [List.range_succ, List.map_append]; rfl
theorem rowsV_len (A : Option Addr) (s n : Nat) : (rowsV A s n).length = n := by simp [rowsV]
def rowCount (bs : List Int) (p s n keys : Nat) : Nat := if 0 < n ∧ noneB ((bs.drop (p + 10 + s * (n - 1))).take s) keys = true then n - 1 else n
def TakePost (w : World) (A : Option Addr) (s m : Nat) (e : Ending) (w' : World) : Prop :=
 ∃ v, e = .returned v ∧ w'.ownsRow w.heap.size 52 1 v m (rowsV A s m) ∧ Below w.heap.size w w'
theorem infoV : (Tryz.prog.info? 52).map (fun i => (i.zero, i.size, i.bytes)) = some (some (.agg #[.slice none 0 0]), 1, 24) := by kernel_rfl
theorem owned_init {w : World} {base g cap s : Nat} {A : Option Addr} {i : Nat} (h : w.ownsRow base 52 1 (.slice (some ⟨g, 0, none⟩) i cap) i (rowsV A s i)) (_hi : 0 < i) :
  w.ownsRow base 52 1 (.slice (some ⟨g, 0, none⟩) (i - 1) cap) (i - 1) (rowsV A s (i - 1)) := by
 obtain ⟨hlen, ⟨h0, _⟩ | ⟨g', cap', cur, he, hg, hh, hc, hm, hs, ht⟩⟩ := h
 ·cases h0
 ·cases he;refine ⟨by rw [rowsV_len]; omega, .inr ⟨g, cap, cur, rfl, hg, hh, by omega, hm, hs, ?_⟩⟩
  have h2 : (cur.toList.take (i * 1)).take (i - 1) = (rowsV A s i).take (i - 1) := by rw [ht]
  rw [List.take_take, Nat.min_eq_left (by omega)] at h2
  rw [Nat.mul_one, h2];unfold rowsV;rw [← List.map_take, List.take_range, Nat.min_eq_left (by omega)]
set_option maxRecDepth 20000 in
set_option maxHeartbeats 4000000 in
theorem take_yes (a : Option Addr) (len cap : Nat) (bs : List Int) (p s n keys : Nat) (need : Int) (w : World) (hl : len ≤ cap) (hc : cap ≤ maxLen) (hv : VB w a bs) (hbl : bs.length = len)
  (h10 : p + 10 ≤ len) (hs : be bs p 2 = s) (hn : be bs (p + 2) 2 = n) (hneed : need ≤ s) (hk : 2 * keys ≤ s) (hrow : rowsB len ((p : Int) + 10) n s) :
  Calls Tryz.prog 136 #[.agg #[.slice a len cap], .int .i64 p, .int .i64 need, .int .i64 keys] w (TakePost w (sub a (p + 10) (n * s)) s (rowCount bs p s n keys)) := by
 have hbs := be2_bd bs hv.byte p (by omega)
 have hbn := be2_bd bs hv.byte (p + 2) (by omega)
 rw [hs] at hbs;rw [hn] at hbn;have hvl := hv.len;have hlm : len ≤ 9223372036854775807 := by unfold maxLen at hc; omega
 have hv0 : VB (w.alloc (.cells #[.slice a len cap] 52)) a bs := hv.below ((Below.refl _ _).alloc (Nat.le_refl _) _);generalize hW : w.alloc (.cells #[.slice a len cap] 52) = W at hv0;have hWs : W.heap.size = w.heap.size + 1 := by rw [← hW]; simp
 have cv : W.cell? ⟨w.heap.size, 0, none⟩ = some (.slice a len cap) := by rw [← hW]; simp
 have HBW : Below w.heap.size w W := by rw [← hW]; exact (Below.refl w.heap.size w).alloc (Nat.le_refl _) _
 have HW := Bas.hid hW;clear hW;obtain ⟨I, F, hI, HF⟩ := Bas.fam W.heap.size W;have hB0 : W.heap.size ≤ W.heap.size := Nat.le_refl _;have cvF := fun i => Bas.cell_fam HF (by omega) cv i
 have hst := HF.1 _ ((Below.refl _ _).drew);have HST := Bas.hid hst;have e2 : ((p : Int) + 2) = ((p + 2 : Nat) : Int) := by omega
 have U1 := fun i => u16_ok a len cap bs ((p : Nat) : Int) (F i) hl hc (hv0.below (HF.2 i)) hbl (by omega) (by omega)
 have U2 := fun i => u16_ok a len cap bs ((p + 2 : Nat) : Int) (F i) hl hc (hv0.below (HF.2 i)) hbl (by omega) (by omega)
 simp only [Int.toNat_natCast] at U1 U2;simp only [hs] at U1;simp only [hn] at U2;rw [← e2] at U2;have HU1 := Bas.hid U1;have HU2 := Bas.hid U2;clear hst U1 U2 e2;go_enter Tryz.func136, Tryz.ntmps136
 go_wp2_with (fail);rw [HW.out];refine Bas.region_fam (by kernel_rfl) (by kernel_rfl) HST.out ?_
 repeat (go_big_quiet_step ((go_at_call 49; first | with_reducible exact Bas.call_fam HF hB0 (HU1.out _) | with_reducible exact Bas.call_fam HF hB0 (HU2.out _))))
 refine wpQuiet_nil ?_;intro i0;have hb1 := HF.2 i0;have c1 := cvF i0;generalize F i0 = W1 at *;have HB1 : Below w.heap.size w W1 := HBW.trans (hb1.mono HBW.size);have hz1 : w.heap.size < W1.heap.size := by have := hb1.size; omega
 clear cvF HU1 HU2 HST HF hv0 cv;go_wp2_with (fail);refine (cut_ok a len cap (p : Int) 10 _ hl hc (by omega) (by omega) (by omega)).mono ?_
 rintro e w2 ⟨rfl, hb2⟩;have c2 := (hb2.cell (p := ⟨w.heap.size, 0, none⟩) hz1).trans c1;have HB2 : Below w.heap.size w w2 := HB1.trans (hb2.mono HB1.size);have hz2 : w.heap.size < w2.heap.size := Nat.lt_of_lt_of_le hz1 hb2.size;clear c1 hb1 hb2;go_wp2_with (fail);refine (need_yesb _ _ (by first | rfl | (simp; done) | (simp; omega))).mono ?_
 rintro e w' ⟨rfl, rfl⟩;go_wp2_with (fail);refine (rows_ok a len cap _ _ _ _ hl hc hrow).mono ?_;rintro e w3 ⟨rfl, hb3⟩;have c3 := (hb3.cell (p := ⟨w.heap.size, 0, none⟩) hz2).trans c2;have HB3 : Below w.heap.size w w3 := HB2.trans (hb3.mono HB2.size);have hz3 : w.heap.size < w3.heap.size := Nat.lt_of_lt_of_le hz2 hb3.size;clear c2 hb3;have ep : ((p : Int) + 10).toNat = p + 10 := by omega
 have en : ((n : Int) * (s : Int)).toNat = n * s := by rw [← Int.natCast_mul, Int.toNat_natCast]
 rw [ep, en];have hns : n * s ≤ len := by
  have := hrow.2.2.2.2;rw [← Int.natCast_mul] at this;omega
 generalize hA : sub a (p + 10) (n * s) = A;have HA := Bas.hid hA;have HROW := Bas.hid hrow;clear hA hrow ep en;go_wp2_with (fail);generalize hW3 : w3.alloc (.cells #[.slice A (n * s) (n * s)] 52) = W3;have hz4 : w3.heap.size < W3.heap.size := by rw [← hW3]; simp
 have c4 : W3.cell? ⟨w3.heap.size, 0, none⟩ = some (.slice A (n * s) (n * s)) := by rw [← hW3]; simp
 have HB4 : Below w.heap.size w W3 := by rw [← hW3]; exact HB3.alloc HB3.size _
 clear hW3 c3 HB3;go_loopw [12, 35] (fun v c wr => ∃ i : Nat, i ≤ n ∧ c = .int .i64 i ∧ wr.ownsRow W3.heap.size 52 1 v i (rowsV A s i) ∧ Below W3.heap.size W3 wr) (fun _ c _ => n - (intOf c).toNat)
 case atStart => exact ⟨0, by omega, rfl, Row.owned_nil _ _ _ _, Below.refl _ _⟩
 case round =>
  obtain ⟨i, hi, rfl, hown, hb⟩ := hrel;have hbs2 := hb.size;have c5 := (hb.cell (p := ⟨w3.heap.size, 0, none⟩) (by show w3.heap.size < _; omega)).trans c4
  by_cases hin : i < n
  ·have hsi : s * i + s ≤ n * s := by
    have := Nat.mul_le_mul_left s (show i + 1 ≤ n from hin)
    rw [Nat.mul_add, Nat.mul_one, Nat.mul_comm s n] at this;exact this
   have em : (s : Int) * (i : Int) = ((s * i : Nat) : Int) := by rw [Int.natCast_mul]
   have C := cut_nat A (n * s) (n * s) (s * i) s wr (Nat.le_refl _) (by unfold maxLen; omega) hsi
   rw [← em] at C;have hm0 : 0 ≤ (s : Int) * (i : Int) := by omega
   have hm1 : (s : Int) * (i : Int) ≤ 140737488355328 := by omega
   have HC := Bas.hid C;have HS := Bas.hid (rowsV_succ A s i);have HO := Bas.hid hown;clear C em hsi hown;go_wp2_with (fail);refine HC.out.mono ?_;rintro e w5 ⟨rfl, hb5⟩;have d5 := Row.owned_below HO.out hb5;have HB5 : Below W3.heap.size W3 w5 := hb.trans (hb5.mono hb.size);have hs5 := HB5.size;clear hb5 HC;go_wp2_with (at_builtin; refine Row.append_any rfl _ _ 246 52 rfl (.agg #[.slice none 0 0]) 1 24 Tryz.underlying246 infoV rfl (by decide) W3.heap.size _ i _ rfl (d5.alloc _) (.slice (some ⟨w5.heap.size, 0, none⟩) 1 1) 1 [rowV A s i] rfl (Row.leads_one _ _ _) rfl (by simp; rfl) (by unfold maxLen; omega) (by omega) (by simp; omega) ?_)
   intro v' w' hown' hgrow _;have hown2 : w'.ownsRow W3.heap.size 52 1 v' (i + 1) (rowsV A s (i + 1)) := by rw [HS.out]; exact hown'
   have hb2 : Below W3.heap.size W3 w' := (HB5.alloc hs5 _).grown hgrow (by simp; omega) (fun g hg => by
    rcases Row.owned_parts d5 with ⟨rfl, _⟩ | ⟨g', cp, rfl, hg', _⟩
    ·cases hg
    ·cases hg; exact hg')
   clear hown' hgrow d5;go_wp2_with (fail);go_roundw
   case rel => exact ⟨i + 1, by omega, by go_num, hown2, hb2⟩
   case measure => simp [intOf]; omega
  ·have : i = n := by omega
   subst this;have HBr : Below w.heap.size w wr := HB4.trans (hb.mono HB4.size);have hbase : w.heap.size ≤ W3.heap.size := HB4.size;have HCNT : Hid (rowCount bs p s i keys = if 0 < i ∧ noneB ((bs.drop (p + 10 + s * (i - 1))).take s) keys = true then i - 1 else i) := rfl
   by_cases hi0 : 0 < i
   ·have hvr : VB wr (sub A (s * (i - 1)) s) ((bs.drop (p + 10 + s * (i - 1))).take s) := by
     have h1 := (hv.below HBr).sub (p + 10) (i * s) (by rw [hbl]; have := HROW.out.2.2.2.2; rw [← Int.natCast_mul] at this; omega)
     rw [HA.out] at h1;have hs1 : s * (i - 1) + s = i * s := by
      obtain ⟨m, rfl⟩ : ∃ m, i = m + 1 := ⟨i - 1, by omega⟩
      rw [Nat.add_sub_cancel, Nat.add_mul, Nat.one_mul, Nat.mul_comm]
     have h2 := h1.sub (s * (i - 1)) s (by
      rw [List.length_take, List.length_drop, hbl];have := HROW.out.2.2.2.2; rw [← Int.natCast_mul] at this; omega)
     rw [List.drop_take, List.take_take, List.drop_drop, Nat.min_eq_left (by omega)] at h2
     exact h2
    have hrl : ((bs.drop (p + 10 + s * (i - 1))).take s).length = s := by
     have hs1 : s * (i - 1) + s = i * s := by
      obtain ⟨m, rfl⟩ : ∃ m, i = m + 1 := ⟨i - 1, by omega⟩
      rw [Nat.add_sub_cancel, Nat.add_mul, Nat.one_mul, Nat.mul_comm]
     rw [List.length_take, List.length_drop, hbl];have := HROW.out.2.2.2.2; rw [← Int.natCast_mul] at this; omega
    have hsm : s ≤ maxLen := by unfold maxLen; omega
    have NC := none_any (sub A (s * (i - 1)) s) s s _ keys wr (Nat.le_refl _) hsm hvr hrl hk;generalize hnb : noneB ((bs.drop (p + 10 + s * (i - 1))).take s) keys = nb at NC HCNT;have HNC := Bas.hid NC;have HO := Bas.hid hown;rcases Row.owned_parts hown with ⟨_, h0, _⟩ | ⟨g, cg, rfl, hg, hgl, hgc, hgm, hcl, hfr⟩
    ·omega
    have cl : wr.cell? ⟨g, i - 1, none⟩ = some (rowV A s (i - 1)) := hcl (i - 1) _ (by
     unfold rowsV; rw [List.getElem?_map, List.getElem?_range (by omega)]; rfl)
    unfold rowV at cl;have ei : (i : Int) - 1 = ((i - 1 : Nat) : Int) := by omega
    have HEI := Bas.hid ei;clear NC hnb hvr hrl hsm hcl hfr hown ei;go_wp2_with (fail);refine HNC.out.mono ?_;rintro e w6 ⟨rfl, hb6⟩;have HB6 : Below w.heap.size w w6 := HBr.trans (hb6.mono HBr.size);have d6 := Row.owned_base (Row.owned_below HO.out hb6) hbase;have D6 := Bas.hid d6;clear HNC HO hb6 cl d6;cases nb with
    | true =>
     go_wp2_with (fail);go_ret;refine ⟨_, rfl, ?_, HB6⟩;rw [HCNT.out, if_pos ⟨hi0, trivial⟩, HA.out];have hT := owned_init D6.out (by omega)
     simpa using hT
    | false =>
     go_wp2_with (fail);go_ret;refine ⟨_, rfl, ?_, HB6⟩;rw [HCNT.out, if_neg (by simp), HA.out]
     exact D6.out
   ·have hi00 : i = 0 := by omega
    subst hi00;go_wp2_with (fail);go_ret;exact ⟨_, rfl, by rw [HCNT.out, HA.out]; simpa using Row.owned_base hown hbase, HBr⟩
set_option maxRecDepth 20000 in
set_option maxHeartbeats 4000000 in
theorem take_short (a : Option Addr) (len cap : Nat) (bs : List Int) (p s n keys : Nat) (need : Int) (w : World) (hl : len ≤ cap) (hc : cap ≤ maxLen) (hv : VB w a bs) (hbl : bs.length = len)
  (h4 : p + 4 ≤ len) (hs : be bs p 2 = s) (hn : be bs (p + 2) 2 = n) (hno : ¬ (p + 10 ≤ len ∧ need ≤ s ∧ rowsB len ((p : Int) + 10) n s)) :
  Calls Tryz.prog 136 #[.agg #[.slice a len cap], .int .i64 p, .int .i64 need, .int .i64 keys] w (fun e w' => e = .panicked short ∧ Below w.heap.size w w') := by
 have hbs := be2_bd bs hv.byte p (by omega)
 have hbn := be2_bd bs hv.byte (p + 2) (by omega)
 rw [hs] at hbs;rw [hn] at hbn;have hvl := hv.len;have hlm : len ≤ 9223372036854775807 := by unfold maxLen at hc; omega
 have hv0 : VB (w.alloc (.cells #[.slice a len cap] 52)) a bs := hv.below ((Below.refl _ _).alloc (Nat.le_refl _) _);generalize hW : w.alloc (.cells #[.slice a len cap] 52) = W at hv0;have hWs : W.heap.size = w.heap.size + 1 := by rw [← hW]; simp
 have cv : W.cell? ⟨w.heap.size, 0, none⟩ = some (.slice a len cap) := by rw [← hW]; simp
 have HBW : Below w.heap.size w W := by rw [← hW]; exact (Below.refl w.heap.size w).alloc (Nat.le_refl _) _
 have HW := Bas.hid hW;clear hW;obtain ⟨I, F, hI, HF⟩ := Bas.fam W.heap.size W;have hB0 : W.heap.size ≤ W.heap.size := Nat.le_refl _;have cvF := fun i => Bas.cell_fam HF (by omega) cv i
 have hst := HF.1 _ ((Below.refl _ _).drew);have HST := Bas.hid hst;have e2 : ((p : Int) + 2) = ((p + 2 : Nat) : Int) := by omega
 have U1 := fun i => u16_ok a len cap bs ((p : Nat) : Int) (F i) hl hc (hv0.below (HF.2 i)) hbl (by omega) (by omega)
 have U2 := fun i => u16_ok a len cap bs ((p + 2 : Nat) : Int) (F i) hl hc (hv0.below (HF.2 i)) hbl (by omega) (by omega)
 simp only [Int.toNat_natCast] at U1 U2;simp only [hs] at U1;simp only [hn] at U2;rw [← e2] at U2;have HU1 := Bas.hid U1;have HU2 := Bas.hid U2;clear hst U1 U2 e2;go_enter Tryz.func136, Tryz.ntmps136
 go_wp2_with (fail);rw [HW.out];refine Bas.region_fam (by kernel_rfl) (by kernel_rfl) HST.out ?_
 repeat (go_big_quiet_step ((go_at_call 49; first | with_reducible exact Bas.call_fam HF hB0 (HU1.out _) | with_reducible exact Bas.call_fam HF hB0 (HU2.out _))))
 refine wpQuiet_nil ?_;intro i0;have hb1 := HF.2 i0;have c1 := cvF i0;generalize F i0 = W1 at *;have HB1 : Below w.heap.size w W1 := HBW.trans (hb1.mono HBW.size);have hz1 : w.heap.size < W1.heap.size := by have := hb1.size; omega
 clear cvF HU1 HU2 HST HF hv0 cv;go_wp2_with (fail);have HNO := Bas.hid hno;clear hno;by_cases h10 : p + 10 ≤ len
 ·refine (cut_ok a len cap (p : Int) 10 _ hl hc (by omega) (by omega) (by omega)).mono ?_
  rintro e w2 ⟨rfl, hb2⟩;have c2 := (hb2.cell (p := ⟨w.heap.size, 0, none⟩) hz1).trans c1;have HB2 : Below w.heap.size w w2 := HB1.trans (hb2.mono HB1.size);clear c1 hb1 hb2;by_cases hneed : need ≤ s
  ·go_wp2_with (fail);refine (need_yesb _ _ (by first | rfl | (simp; done) | (simp; omega))).mono ?_
   rintro e w' ⟨rfl, rfl⟩;go_wp2_with (fail);refine (rows_no a len cap _ _ _ _ hl hc (fun h => HNO.out ⟨h10, hneed, h⟩)).mono ?_
   rintro e w3 ⟨rfl, hb3⟩;go_wp2_with (fail);exact ⟨rfl, rfl, HB2.trans (hb3.mono HB2.size)⟩
  ·go_wp2_with (fail);refine (need_nob _ _ (by first | (simp; done) | (simp; omega))).mono ?_
   rintro e w' ⟨rfl, rfl⟩;go_wp2_with (fail);exact ⟨rfl, rfl, HB2⟩
 ·refine (cut_no a len cap (p : Int) 10 _ hl hc (by omega)).mono ?_
  rintro e w2 ⟨rfl, hb2⟩;go_wp2_with (fail);exact ⟨rfl, rfl, HB1.trans (hb2.mono HB1.size)⟩
set_option maxRecDepth 20000 in
set_option maxHeartbeats 4000000 in
theorem take_out (a : Option Addr) (len cap : Nat) (bs : List Int) (at' : Int) (keys need : Int) (w : World) (hl : len ≤ cap) (hc : cap ≤ maxLen) (hv : VB w a bs) (hbl : bs.length = len)
  (hno : ¬ (0 ≤ at' ∧ at' + 4 ≤ len)) :
  Calls Tryz.prog 136 #[.agg #[.slice a len cap], .int .i64 at', .int .i64 need, .int .i64 keys] w (fun e w' => e = .panicked short ∧ Below w.heap.size w w') := by
 have hlm : len ≤ 9223372036854775807 := by unfold maxLen at hc; omega
 have hv0 : VB (w.alloc (.cells #[.slice a len cap] 52)) a bs := hv.below ((Below.refl _ _).alloc (Nat.le_refl _) _);generalize hW : w.alloc (.cells #[.slice a len cap] 52) = W at hv0;have cv : W.cell? ⟨w.heap.size, 0, none⟩ = some (.slice a len cap) := by rw [← hW]; simp
 have hWs : W.heap.size = w.heap.size + 1 := by rw [← hW]; simp
 have HBW : Below w.heap.size w W := by rw [← hW]; exact (Below.refl w.heap.size w).alloc (Nat.le_refl _) _
 have HW := Bas.hid hW;clear hW;obtain ⟨I, F, hI, HF⟩ := Bas.fam W.heap.size W;have hB0 : W.heap.size ≤ W.heap.size := Nat.le_refl _;have cvF := fun i => Bas.cell_fam HF (by omega) cv i
 have hst := HF.1 _ ((Below.refl _ _).drew);have HST := Bas.hid hst;clear hst;go_enter Tryz.func136, Tryz.ntmps136
 go_wp2_with (fail);rw [HW.out];by_cases f1 : 0 ≤ at' ∧ at' + 2 ≤ len
 ·have e2 : at' + 2 ≤ 9223372036854775807 := by omega
  have HU := Bas.hid (fun i => u16_ok a len cap bs at' (F i) hl hc (hv0.below (HF.2 i)) hbl f1.1 f1.2)
  refine Ord.region_halt (fun ch w' => ch = short ∧ Below W.heap.size W w') [true, true, true, true, true, true, false, false, false] 6 _ rfl (by kernel_rfl) (by kernel_rfl) HST.out ?_ ?_
  ·rintro ch a' w' hd ⟨rfl, hz⟩;exact ⟨hd, rfl, HBW.trans (hz.mono HBW.size)⟩
  ·simp only [Ord.pick];repeat (go_big_quiet_step ((go_at_call 49; with_reducible exact Bas.call_fam HF hB0 (HU.out _))))
   refine wpQuiet_nil ?_;refine ⟨rfl, ?_⟩;unfold Ord.haltsIn;rintro w' ⟨i, rfl⟩
   go_simp
   simp only [Ord.haltUpon, true_and];refine (u16_no _ _ _ _ _ hl hc (by omega)).mono ?_
   rintro e w'' ⟨he, hb⟩;exact ⟨short, he, rfl, by rw [← hWs]; exact (HF.2 i).trans (hb.mono (HF.2 i).size)⟩
 ·refine Ord.region_halt (fun ch w' => ch = short ∧ Below W.heap.size W w') [true, true, false, true, true, true, false, false, false] 2 _ rfl (by kernel_rfl) (by kernel_rfl) HST.out ?_ ?_
  ·rintro ch a' w' hd ⟨rfl, hz⟩;exact ⟨hd, rfl, HBW.trans (hz.mono HBW.size)⟩
  ·simp only [Ord.pick];repeat (go_big_quiet_step (fail))
   refine wpQuiet_nil ?_;refine ⟨rfl, ?_⟩;unfold Ord.haltsIn;rintro w' ⟨i, rfl⟩
   go_simp
   simp only [Ord.haltUpon, true_and];refine (u16_no _ _ _ _ _ hl hc f1).mono ?_;rintro e w'' ⟨he, hb⟩;exact ⟨short, he, rfl, by rw [← hWs]; exact (HF.2 i).trans (hb.mono (HF.2 i).size)⟩
def takeB (len : Nat) (bs : List Int) (at' need : Int) : Prop :=
 0 ≤ at' ∧ at' + 10 ≤ len ∧ need ≤ be bs at'.toNat 2 ∧ rowsB len (at' + 10) (be bs (at'.toNat + 2) 2) (be bs at'.toNat 2)
theorem take_no (a : Option Addr) (len cap : Nat) (bs : List Int) (at' need : Int) (k : Nat) (w : World) (hl : len ≤ cap) (hc : cap ≤ maxLen) (hv : VB w a bs) (hbl : bs.length = len) (hno : ¬ takeB len bs at' need) :
  Calls Tryz.prog 136 #[.agg #[.slice a len cap], .int .i64 at', .int .i64 need, .int .i64 k] w (fun e w' => e = .panicked short ∧ Below w.heap.size w w') := by
 by_cases h : 0 ≤ at' ∧ at' + 4 ≤ len
 ·obtain ⟨p, rfl⟩ := Int.eq_ofNat_of_zero_le h.1;have hbs := be2_bd bs hv.byte p (by omega)
  have hbn := be2_bd bs hv.byte (p + 2) (by omega)
  have hs : be bs p 2 = ((be bs p 2).toNat : Int) := by omega
  have hn : be bs (p + 2) 2 = ((be bs (p + 2) 2).toNat : Int) := by omega
  refine take_short a len cap bs p _ _ k need w hl hc hv hbl (by omega) hs hn ?_
  rintro ⟨h1, h2, h3⟩;rw [← hs, ← hn] at h3;rw [← hs] at h2;exact hno ⟨h.1, by omega, by simpa using h2, by simpa using h3⟩
 ·exact take_out a len cap bs at' _ need w hl hc hv hbl h
end Sk
namespace Pl
section
variable {P : Program} {ops : Array Oper} {md : Region.Mode} {Q : Exit → Act → World → Prop} {S : World → Prop} {late : List Nat}
def waitsT (md : Region.Mode) (ops : Array Oper) : Nat → Nat → Nat → Bool
 | 0, _, _ => false
 | n + 1, j, i => match ops[j]? with
  | none => false
  | some oj => oj.after.any fun e => Region.binds md e && (e.on == i || waitsT md ops n e.on i)
def valueOp (o : Oper) : Bool := match o.op with
 | .call c => match c.callee with
  | .builtin .len | .builtin .cap | .builtin .min | .builtin .max => true
  | _ => false
 | .pick _ _ _ => true
 | .move _ | .assign _ | .load _ _ | .binOp _ _ _ _ _ | .unOp _ _ _ | .convert _ _ _ | .fieldAddr _ _ _ | .field _ _ _ | .indexAddr _ _ _ | .index _ _ _ | .slice _ _ _ _ _ | .extract _ _ | .build _ _ | .makeFunc _ _ _ | .makeInterface _ _ | .nilCheck _ => true
 | _ => false
def callOp (o : Oper) : Bool := match o.op with
 | .call c => match c.callee with
  | .builtin _ => false
  | _ => true
 | _ => false
def pureOp (o : Oper) : Bool := match o.op with
 | .move _ | .assign _ => true
 | _ => false
theorem sem_value {s : Sem Value} {w w' : World} {n : Next} (h : (do pure (Next.value (← s)) : Sem Next).run P w = .ok n w') : ∃ v, n = .value v := by
 revert h
 show ((bind s fun v => pure (Next.value v) : Sem Next).run P w = .ok n w') → _
 intro h;have h2 : (bind s fun v => pure (Next.value v) : Sem Next).run P w = match s.run P w with
  | .ok v w1 => .ok (.value v) w1
  | .halt x w1 => .halt x w1 := by
   rw [Sem.run_bind]; cases s.run P w <;> rfl
 rw [h2] at h;cases hs : s.run P w with
 | ok v w1 => rw [hs] at h; cases h; exact ⟨_, rfl⟩
 | halt x w1 => rw [hs] at h; cases h
theorem pick_value {s : Sem Bool} {x y : Value} {w w' : World} {n : Next} (h : (do pure (Next.value (if ← s then x else y)) : Sem Next).run P w = .ok n w') : ∃ v, n = .value v := by
 revert h
 show ((bind s fun v => pure (Next.value (if v then x else y)) : Sem Next).run P w = .ok n w') → _
 intro h;rw [Sem.run_bind] at h;cases hs : s.run P w with
 | ok v w1 => rw [hs] at h; cases h; exact ⟨_, rfl⟩
 | halt x w1 => rw [hs] at h; cases h
theorem builtin_value {ρ : Operand → Value} {c : Call} {ty : TypeId} {w w' : World} {n : Next} (hc : (match c.callee with
  | .builtin .len | .builtin .cap | .builtin .min | .builtin .max => true
  | _ => false) = true) (h : (do let d ← resolve ρ c ty; invoke d.target d.args : Sem Next).run P w = .ok n w') : ∃ v, n = .value v := by
 revert h
 show ((bind (resolve ρ c ty) fun d => invoke d.target d.args : Sem Next).run P w = .ok n w') → _
 intro h;rw [Sem.run_bind] at h;unfold resolve at h;split at hc <;> rename_i hcc <;> simp only [hcc] at h
 all_goals first
  | exact sem_value h
  | cases hc
theorem nil_value {P : Program} {ρ : Operand → Value} {o : Oper} {x : Operand} {w w' : World} {n : Next} (ho : o.op = .nilCheck x) (h : (execOp ρ o).run P w = .ok n w') : ∃ v, n = .value v := by
 unfold execOp at h;simp only [ho] at h;split at h
 ·simp [go_sem] at h
 ·simp [go_sem] at h
 ·simp [go_sem] at h
 ·split at h
  ·simp [go_sem] at h
  ·simp only [Sem.run_bind] at h;generalize Sem.run P _ w = r at h;cases r with
   | ok a w1 =>
    simp only [Result.andThen] at h;generalize Sem.run P (nilAhead _ _ _ _) w1 = r2 at h;cases r2 with
    | ok b w2 =>
     simp only at h;split at h
     ·simp [go_sem] at h
     ·cases h; exact ⟨_, rfl⟩
    | halt _ _ => simp at h
   | halt _ _ => simp [Result.andThen] at h
  ·cases h; exact ⟨_, rfl⟩
 ·cases h; exact ⟨_, rfl⟩
theorem value_run {ρ : Operand → Value} {o : Oper} {w w' : World} {n : Next} (hv : valueOp o = true) (h : (execOp ρ o).run P w = .ok n w') : ∃ v, n = .value v := by
 have h0 := h;unfold valueOp at hv;unfold execOp at h;split at hv <;> rename_i ho <;> simp only [ho] at h
 all_goals first
  | exact nil_value ho h0
  | exact builtin_value hv h
  | exact sem_value h
  | exact pick_value h
  | (cases h; exact ⟨_, rfl⟩)
  | cases hv
def Closed (md : Region.Mode) (ops : Array Oper) (listed : Array Bool) : Prop :=
 listed.size = ops.size ∧ ∀ j oj, ops[j]? = some oj → listed.getD j false = true → ∀ e ∈ oj.after, Region.binds md e = true → listed.getD e.on false = true
theorem Closed.set {i : Nat} {listed : Array Bool} (inv : Closed md ops listed) (hi : i ∈ Region.ready md ops listed) : Closed md ops (listed.setIfInBounds i true) := by
 obtain ⟨_, oi, hoi, hall⟩ := mem_ready.1 hi;refine ⟨by simp [inv.1], fun j oj hj hl e he hb => ?_⟩
 by_cases hij : i = j
 ·subst hij;have : oj = oi := Option.some.inj (hj.symm.trans hoi);subst this;exact getD_set_true (hall e he hb)
 ·rw [getD_set_ne false hij] at hl;exact getD_set_true (inv.2 j oj hj hl e he hb)
theorem waitsT_listed {i : Nat} {listed : Array Bool} (inv : Closed md ops listed) : ∀ n j, listed.getD j false = true → waitsT md ops n j i = true → listed.getD i false = true := by
 intro n;induction n with
 | zero => intro j _ h; cases h
 | succ n ih =>
  intro j hl h;unfold waitsT at h;split at h
  ·cases h
  ·rename_i oj hj
   obtain ⟨e, he, hb⟩ := Array.any_eq_true'.1 h;simp only [Bool.and_eq_true, Bool.or_eq_true, beq_iff_eq] at hb;have h1 := inv.2 j oj hj hl e he hb.1;rcases hb.2 with h2 | h2
   ·rw [← h2]; exact h1
   ·exact ih _ h1 h2
theorem waitsT_ready {i j : Nat} {listed : Array Bool} (inv : Closed md ops listed) {n : Nat} (hj : j ∈ Region.ready md ops listed) (h : waitsT md ops n j i = true) : listed.getD i false = true := by
 cases n with
 | zero => cases h
 | succ n =>
  obtain ⟨_, oj, hoj, hall⟩ := mem_ready.1 hj;unfold waitsT at h;rw [hoj] at h;obtain ⟨e, he, hb⟩ := Array.any_eq_true'.1 h;simp only [Bool.and_eq_true, Bool.or_eq_true, beq_iff_eq] at hb;have h1 := hall e he hb.1;rcases hb.2 with h2 | h2
  ·rw [← h2]; exact h1
  ·exact waitsT_listed inv n _ h1 h2
theorem not_both {listed : Array Bool} {i : Nat} (h : listed.getD i true = false) (h' : listed.getD i false = true) : False := by
 rw [getD_both h] at h'; cases h'
def sameAt (P : Program) (w : World) (v : Value) : Result Next → Prop
 | .ok (.value u) w' => w' = w ∧ u = v
 | .ok .skip w' => w' = w ∧ undef = v
 | .ok (.enter f args) w' => Calls P f args w' (fun e w'' => e = .returned v ∧ w'' = w)
 | .ok (.row row args) w' => Rows P row args w' (fun u w'' => u = v ∧ w'' = w)
 | _ => False
def YieldsC (P : Program) (ops : Array Oper) (S : World → Prop) (o : Oper) (v : Value) (a : Act) : Prop :=
 (Region.wanted o (yielded ops a.tmps) = true ∧ ∀ w, S w → sameAt P w v ((execOp a.eval o).run P w)) ∨
 (Region.wanted o (yielded ops a.tmps) = false ∧ v = undef)
theorem YieldsC.wpOp {i : Nat} {o : Oper} {v : Value} {a : Act} (hi : ops[i]? = some o) (hy : YieldsC P ops S o v a)
  {K : Act → World → Prop} {w : World} (hS : S w) (h : K (a.put o.dst v) w) : wpOp P ops Q i K a w := by
 unfold Go.wpOp;simp only [hi];rcases hy with ⟨hw, hv⟩ | ⟨hw, rfl⟩
 ·simp only [hw, if_true];refine .inl ?_;have h1 := hv w hS;unfold Oper.wp;generalize (execOp a.eval o).run P w = r at *;cases r with
  | ok n w' =>
   cases n <;> simp only [sameAt] at h1 <;> simp only [Oper.upon]
   case value u => obtain ⟨rfl, rfl⟩ := h1; exact h
   case skip => obtain ⟨rfl, rfl⟩ := h1; exact h
   case enter f args => exact h1.mono fun e w'' ⟨he, hw''⟩ => by subst he; subst hw''; exact h
   case row row args => exact Rows.mono h1 fun u w'' ⟨he, hw''⟩ => by subst he; subst hw''; exact h
  | halt x w' => exact h1.elim
 ·simp only [hw, Bool.false_eq_true, if_false]; exact h
theorem YieldsC.of_same {o : Oper} {v : Value} {a a' : Act} (hy : YieldsC P ops S o v a) (he : execOp a'.eval o = execOp a.eval o)
  (hw : Region.wanted o (yielded ops a'.tmps) = Region.wanted o (yielded ops a.tmps)) : YieldsC P ops S o v a' := by
 unfold YieldsC at *;rw [he, hw];exact hy
theorem upon_put {oi oj : Oper} {v : Value} {a : Act} {X : Act → Prop} (h2 : ∀ d, oi.dst = some d → oj.dst ≠ some d) (hQ : ∀ c w, Q (.panic c) (a.put oi.dst v) w → Q (.panic c) a w)
  (hX : ∀ u, X (a.put oj.dst u)) (hXd : ∀ d u, X (Act.put { a with defers := d :: a.defers } oj.dst u)) {K : Act → World → Prop} (r : Result Next) (h : oj.upon P (a.put oi.dst v) K Q r) :
  oj.upon P a (fun a' w' => X a' ∧ K (a'.put oi.dst v) w') Q r := by
 cases r with
 | ok n w' =>
  cases n <;> simp only [Oper.upon] at h ⊢
  case value u => exact ⟨hX u, by rw [← Act.put_comm a v u h2]; exact h⟩
  case skip => exact ⟨hX _, by rw [← Act.put_comm a v undef h2]; exact h⟩
  case defer d =>
   refine ⟨hXd d _, ?_⟩;rw [← Act.put_comm _ v undef h2, ← Act.put_defers];exact h
  case enter f args =>
   refine Calls.mono h fun e w'' he => ?_
   cases e with
   | returned u => exact ⟨hX u, by rw [← Act.put_comm a v u h2]; exact he⟩
   | panicked c => exact hQ _ _ he
   | outgrown => exact he
  case row row args => exact Rows.mono h fun u w'' he => ⟨hX u, by rw [← Act.put_comm a v u h2]; exact he⟩
 | halt x w' =>
  cases x <;> simp only [Oper.upon] at h ⊢
  case panic u => exact hQ _ _ h
theorem wpOp_putC {j : Nat} {oi oj : Oper} {v : Value} (hj : ops[j]? = some oj) (hap : oi.apart ops oj = true)
  (hsi : ∀ cs b, oi.op ≠ .select cs b) (hsj : ∀ cs b, oj.op ≠ .select cs b)
  (hQ : ∀ c a w, Q (.panic c) (a.put oi.dst v) w → Q (.panic c) a w) {K : Act → World → Prop} {a : Act} {w : World}
  (hy : YieldsC P ops S oi v a) (h : wpOp P ops Q j K (a.put oi.dst v) w) :
  wpOp P ops Q j (fun a' w' => YieldsC P ops S oi v a' ∧ K (a'.put oi.dst v) w') a w := by
 obtain ⟨h1, h2, h3⟩ := Oper.apart_spec hap;have keep : ∀ (a : Act), YieldsC P ops S oi v a → ∀ u, YieldsC P ops S oi v (a.put oj.dst u) := fun a hy u =>
  hy.of_same (execOp_put oi hsi a oj.dst u h3) (wanted_put oi a oj.dst u h3)
 unfold wpOp at *;simp only [hj] at *;rw [wanted_put oj a oi.dst v h1] at h;by_cases hw : Region.wanted oj (yielded ops a.tmps) = true
 ·rw [if_pos hw] at h ⊢;rcases h with h | ⟨hasks, hlets⟩
  ·refine .inl ?_;unfold Oper.wp at *;rw [execOp_put oj hsj a oi.dst v h1] at h;exact upon_put h2 (fun c w => hQ c a w) (keep a hy) (fun d => keep _ (hy.of_same rfl rfl)) _ h
  ·exact .inr ⟨by unfold Oper.asks at *; rw [execOp_put oj hsj a oi.dst v h1] at hasks; exact hasks, hlets⟩
 ·rw [if_neg hw] at h ⊢;exact ⟨keep a hy _, by rw [← Act.put_comm a v undef h2]; exact h⟩
def wpAnyF (P : Program) (md : Region.Mode) (ops : Array Oper) (Q : Exit → Act → World → Prop) (S : World → Prop) (late : List Nat) : Nat → Array Bool → Act → World → Prop
 | 0, listed, a, w => Region.ready md ops listed = [] ∧ Q .normal a w
 | fuel + 1, listed, a, w =>
  (Region.ready md ops listed = [] → Q .normal a w) ∧
  ∀ i ∈ Region.ready md ops listed, wpOp P ops Q i (fun a' w' => (i ∉ late → S w → S w') ∧ wpAnyF P md ops Q S late fuel (listed.setIfInBounds i true) a' w') a w
theorem wpAny_of_F : ∀ (fuel : Nat) (listed : Array Bool) (a : Act) (w : World), wpAnyF P md ops Q S late fuel listed a w → wpAny P md ops Q fuel listed a w
 | 0, _, _, _, h => h
 | fuel + 1, _, _, _, h => ⟨h.1, fun i hi => wpOp_mono (fun a' w' h' => wpAny_of_F fuel _ a' w' h'.2) (h.2 i hi)⟩
def Early (md : Region.Mode) (ops : Array Oper) (S : World → Prop) (late : List Nat) (i : Nat) (S' : World → Prop) (w : World) : Prop :=
 (∀ w, S' w) ∨ (S' = S ∧ S w ∧ ∀ j ∈ late, waitsT md ops ops.size j i = true)
theorem wpAnyF_first {S' : World → Prop} {i : Nat} {oi : Oper} {v : Value} (hi : ops[i]? = some oi) (hsel : ∀ (j : Nat) (o : Oper) cs b, ops[j]? = some o → o.op ≠ .select cs b)
  (hQ : ∀ c a d v w, Q (.panic c) (Act.put a d v) w → Q (.panic c) a w) :
  ∀ (fuel : Nat) (listed : Array Bool) (a : Act) (w : World), Closed md ops listed →
   (∀ j oj, ops[j]? = some oj → j ≠ i → listed.getD j true = false → (∀ e ∈ oj.after, Region.binds md e = true → e.on ≠ i) → oi.apart ops oj = true) →
   i ∈ Region.ready md ops listed → YieldsC P ops S' oi v a → Early md ops S late i S' w →
   wpAnyF P md ops Q S late fuel (listed.setIfInBounds i true) (a.put oi.dst v) w → wpAnyF P md ops Q S late (fuel + 1) listed a w := by
 have hSw : ∀ {w}, Early md ops S late i S' w → S' w := fun h => by
  rcases h with h | ⟨rfl, h, _⟩
  ·exact h _
  ·exact h
 intro fuel;induction fuel with
 | zero =>
  intro listed a w _ _ hr hy hS H;refine ⟨fun h => (by rw [h] at hr; cases hr), fun j hj => ?_⟩
  by_cases hji : j = i
  ·subst hji; exact hy.wpOp hi (hSw hS) ⟨fun _ h => h, H⟩
  ·have := ready_mono hj hji;rw [H.1] at this;cases this
 | succ fuel ih =>
  intro listed a w inv hfree hr hy hS H;refine ⟨fun h => (by rw [h] at hr; cases hr), fun j hj => ?_⟩
  by_cases hji : j = i
  ·subst hji; exact hy.wpOp hi (hSw hS) ⟨fun _ h => h, H⟩
  ·have h1 := H.2 j (ready_mono hj hji);obtain ⟨hjun, oj, hoj, hall⟩ := mem_ready.1 hj;have hiun := (mem_ready.1 hr).1;have hnot : ∀ e ∈ oj.after, Region.binds md e = true → e.on ≠ i := fun e he hb heq => by
    have h1 := hall e he hb;rw [heq] at h1;exact not_both hiun h1
   have h2 := wpOp_putC hoj (hfree j oj hoj hji hjun hnot) (fun cs b => hsel i oi cs b hi) (fun cs b => hsel j oj cs b hoj) (fun c a w => hQ c a _ _ w) hy h1
   have hfree' : ∀ k ok, ops[k]? = some ok → k ≠ i → (listed.setIfInBounds j true).getD k true = false →
     (∀ e ∈ ok.after, Region.binds md e = true → e.on ≠ i) → oi.apart ops ok = true := fun k ok hk hki hun hno => by
    refine hfree k ok hk hki ?_ hno;by_cases hjk : j = k
    ·subst hjk; exact hjun
    ·rw [getD_set_ne true hjk] at hun; exact hun
   refine wpOp_mono (fun a' w' h3 => ⟨h3.2.1, ?_⟩) h2
   have hS2 : Early md ops S late i S' w' := by
    rcases hS with h | ⟨rfl, h, hm⟩
    ·exact .inl h
    ·exact .inr ⟨rfl, h3.2.1 (fun hl => not_both hiun (waitsT_ready inv hj (hm j hl))) h, hm⟩
   refine ih (listed.setIfInBounds j true) a' w' (inv.set hj) hfree' (ready_mono hr (Ne.symm hji)) h3.1 hS2 ?_;rw [Array.setIfInBounds_comm _ _ hji];exact h3.2.2
def planB (md : Region.Mode) (ops : Array Oper) (late : List Nat) : List (Bool × Nat) → Array Bool → Bool
 | [], listed => (Region.ready md ops listed).isEmpty
 | (true, i) :: r, listed => (Region.ready md ops listed).contains i && Region.free md ops listed i &&
  (match ops[i]? with
   | none => false
   | some o => (valueOp o || callOp o) && (pureOp o || late.all fun j => waitsT md ops ops.size j i)) && planB md ops late r (listed.setIfInBounds i true)
 | (false, i) :: r, listed => decide (Region.ready md ops listed = [i]) && planB md ops late r (listed.setIfInBounds i true)
def walkM (P : Program) (ops : Array Oper) (Q : Exit → Act → World → Prop) (S : World → Prop) (late : List Nat) : List (Bool × Nat) → Act → World → Prop
 | [], a, w => Q .normal a w
 | (true, i) :: r, a, w => ∃ oi v, ops[i]? = some oi ∧ YieldsC P ops S oi v a ∧ walkM P ops Q S late r (a.put oi.dst v) w
 | (false, i) :: r, a, w => wpOp P ops Q i (fun a' w' => (i ∉ late → S w → S w') ∧ walkM P ops Q S late r a' w') a w
theorem yields_pure {o : Oper} {v : Value} {a : Act} (hp : pureOp o = true) (hne : ∃ w, S w) (h : YieldsC P ops S o v a) : YieldsC P ops (fun _ => True) o v a := by
 rcases h with ⟨h1, h2⟩ | h
 ·refine .inl ⟨h1, fun w _ => ?_⟩
  obtain ⟨w0, h0⟩ := hne;have h3 := h2 w0 h0;unfold pureOp at hp;unfold execOp at h3 ⊢;split at hp <;> rename_i ho <;> simp only [ho] at h3 ⊢
  ·obtain ⟨_, h4⟩ := h3; exact ⟨rfl, h4⟩
  ·obtain ⟨_, h4⟩ := h3; exact ⟨rfl, h4⟩
  ·cases hp
 ·exact .inr h
theorem wpAnyF_of_plan (hsel : Region.noSelect ops = true) (hQ : ∀ c a d v w, Q (.panic c) (Act.put a d v) w → Q (.panic c) a w) (hne : ∃ w, S w) :
  ∀ (plan : List (Bool × Nat)) (listed : Array Bool) (a : Act) (w : World), Closed md ops listed → planB md ops late plan listed = true →
   ((∀ j ∈ late, listed.getD j true = false) → S w) → walkM P ops Q S late plan a w → wpAnyF P md ops Q S late plan.length listed a w
 | [], listed, a, w, _, hB, _, h => ⟨by simpa [planB] using hB, h⟩
 | (true, i) :: r, listed, a, w, inv, hB, hS, h => by
  obtain ⟨oi, v, ho, hy, hr⟩ := h;simp only [planB, ho, Bool.and_eq_true, Bool.or_eq_true] at hB;obtain ⟨⟨⟨h1, h2⟩, h3, h4⟩, h5⟩ := hB;have hri : i ∈ Region.ready md ops listed := by simpa using h1
  have hiun := (mem_ready.1 hri).1;have key := wpAnyF_of_plan hsel hQ hne r (listed.setIfInBounds i true) (a.put oi.dst v) w (inv.set hri) h5 (fun hl => hS (fun j hj => by
   by_cases hji : i = j
   ·subst hji; exact hiun
   ·have := hl j hj; rwa [getD_set_ne true hji] at this)) hr
  rcases h4 with h4 | h4
  ·exact wpAnyF_first ho (Region.noSelect_spec hsel) hQ _ _ _ _ inv (Region.free_spec ho h2) hri (yields_pure h4 hne hy) (.inl fun _ => trivial) key
  ·have h6 : ∀ j ∈ late, waitsT md ops ops.size j i = true := by simpa [List.all_eq_true] using h4
   have hSw : S w := hS fun j hj => by
    cases hl : listed.getD j true with
    | false => rfl
    | true =>
     exfalso;have hjs : j < listed.size := by
      rw [inv.1];rcases Nat.lt_or_ge j ops.size with h | h
      ·exact h
      ·exfalso;have := h6 j hj;cases hz : ops.size with
       | zero => rw [hz] at this; cases this
       | succ m =>
        rw [hz] at this;unfold waitsT at this;rw [Array.getElem?_eq_none h] at this;cases this
     have hl' : listed.getD j false = true := by simp [hjs] at hl ⊢; exact hl
     exact not_both hiun (waitsT_listed inv _ j hl' (h6 j hj))
   exact wpAnyF_first ho (Region.noSelect_spec hsel) hQ _ _ _ _ inv (Region.free_spec ho h2) hri hy (.inr ⟨rfl, hSw, h6⟩) key
 | (false, i) :: r, listed, a, w, inv, hB, hS, h => by
  simp only [planB, Bool.and_eq_true, decide_eq_true_eq] at hB;obtain ⟨h1, h5⟩ := hB;refine ⟨fun h => (by rw [h] at h1; cases h1), fun j hj => ?_⟩
  have hj' := hj;rw [h1] at hj';have hji : j = i := by simpa using hj'
  subst hji;refine wpOp_mono (fun a' w' h' => ⟨h'.1, ?_⟩) h
  refine wpAnyF_of_plan hsel hQ hne r _ a' w' (inv.set hj) h5 (fun hl => ?_) h'.2
  have hjl : j ∉ late := fun hjl => by
   have := hl j hjl;have hs : j < listed.size := by
    rw [inv.1];obtain ⟨_, oj, hoj, _⟩ := mem_ready.1 hj;exact (Array.getElem?_eq_some_iff.1 hoj).1
   simp [hs] at this
  exact h'.1 hjl (hS fun k hk => by
   have hkj : j ≠ k := fun e => hjl (e ▸ hk)
   have := hl k hk
   rwa [getD_set_ne true hkj] at this)
theorem put_defers (a : Act) (d : Option Tmp) (v : Value) : (a.put d v).defers = a.defers := by cases d <;> rfl
def fits (ops : Array Oper) : List (Bool × Nat) → List Oper → Prop
 | [], [] => True
 | x :: c, o :: l => ops[x.2]? = some o ∧ fits ops c l
 | _, _ => False
def valuesB : List (Bool × Nat) → List Oper → Bool
 | x :: c, o :: l => (!x.1 || valueOp o) && valuesB c l
 | _, _ => true
theorem walk_one {i : Nat} (o : Oper) {a : Act} {w : World} {rest : List (Bool × Nat)} (ho : ops[i]? = some o)
  (h : ∀ Q' : Exit → Act → World → Prop, (∀ a' w', (i ∉ late → S w → S w') → walkM P ops Q S late rest a' w' → Q' .normal a' w') → (∀ c a' w', Q (.panic c) a' w' → Q' (.panic c) a' w') → wpList P ops Q' [o] a w) :
  walkM P ops Q S late ((false, i) :: rest) a w := by
 have h1 := h (fun e a' w' => match e with
  | .normal => (i ∉ late → S w → S w') ∧ walkM P ops Q S late rest a' w'
  | e => Q e a' w') (fun _ _ h1 h2 => ⟨h1, h2⟩) (fun _ _ _ h => h)
 unfold walkM wpOp;simp only [ho];unfold wpList at h1;by_cases hw : Region.wanted o (yielded ops a.tmps) = true
 ·rw [if_pos hw] at h1 ⊢;refine h1.imp (fun h2 => ?_) (fun ⟨h2, b, w', h3⟩ => ⟨h2, b, w', h3⟩)
  unfold Oper.wp at *;generalize (execOp a.eval o).run P w = r at *;cases r with
  | ok n w' =>
   cases n <;> simp only [Oper.upon] at h2 ⊢ <;> first
    | exact h2
    | exact Calls.mono h2 (fun e w'' he => by cases e <;> exact he)
    | exact Rows.mono h2 (fun _ _ he => he)
  | halt x w' => cases x <;> simp only [Oper.upon] at h2 ⊢ <;> exact h2
 ·rw [if_neg hw] at h1 ⊢;exact h1
theorem walk_tail (c : List (Bool × Nat)) (l : List Oper) {a : Act} {w : World} (hl : fits ops c l) (hv : (c.all fun x => !x.1 && late.contains x.2) = true) (h : wpList P ops Q l a w) : walkM P ops Q S late c a w := by
 induction c generalizing l a w with
 | nil =>
  cases l with
  | nil => exact h
  | cons o l => exact hl.elim
 | cons x c ih =>
  cases l with
  | nil => exact hl.elim
  | cons o l =>
   obtain ⟨ho, hl⟩ := hl;simp only [List.all_cons, Bool.and_eq_true, Bool.not_eq_true'] at hv;obtain ⟨⟨hb, hn⟩, hv⟩ := hv;obtain ⟨b, n⟩ := x;obtain rfl : b = false := hb;have h1 : wpOp P ops Q n (wpList P ops Q l) a w := by unfold wpOp; simp only [ho]; exact h
   exact wpOp_mono (fun a' w' h' => ⟨fun hn' => absurd (by simpa using hn) hn', ih l hl hv h'⟩) h1
def sel (l : List Oper) : List (Bool × Nat) → List Oper
 | [] => []
 | x :: c => match l.drop x.2 with
  | [] => sel l c
  | o :: _ => o :: sel l c
def okB (l : List Oper) (c : List (Bool × Nat)) : Bool := c.all fun x => match l.drop x.2 with
 | [] => false
 | o :: _ => !x.1 || valueOp o
theorem fits_sel {l : List Oper} {c : List (Bool × Nat)} (h : okB l c = true) : fits l.toArray c (sel l c) ∧ valuesB c (sel l c) = true := by
 induction c with
 | nil => exact ⟨trivial, rfl⟩
 | cons x c ih =>
  simp only [okB, List.all_cons, Bool.and_eq_true] at h;have ih' := ih h.2;have h1 := h.1;unfold sel;cases hd : l.drop x.2 with
  | nil => rw [hd] at h1; cases h1
  | cons o r =>
   rw [hd] at h1;refine ⟨⟨?_, ih'.1⟩, ?_⟩
   ·have : (l.drop x.2)[0]? = some o := by rw [hd]; rfl
    rw [List.getElem?_drop] at this;simpa using this
   ·simp only [valuesB, Bool.and_eq_true]; exact ⟨h1, ih'.2⟩
theorem tail_sel {l : List Oper} {a : Act} {w : World} (c : List (Bool × Nat)) (hB : okB l c = true) (hv : (c.all fun x => !x.1 && late.contains x.2) = true) (h : wpList P l.toArray Q (sel l c) a w) : walkM P l.toArray Q S late c a w :=
 walk_tail c _ (fits_sel hB).1 hv h
theorem one_sel {i : Nat} {l : List Oper} {a : Act} {w : World} {rest : List (Bool × Nat)} (hB : okB l [(false, i)] = true)
  (h : ∀ Q' : Exit → Act → World → Prop, (∀ a' w', (i ∉ late → S w → S w') → walkM P l.toArray Q S late rest a' w' → Q' .normal a' w') → (∀ c a' w', Q (.panic c) a' w' → Q' (.panic c) a' w') → wpList P l.toArray Q' (sel l [(false, i)]) a w) :
  walkM P l.toArray Q S late ((false, i) :: rest) a w := by
 have hf := (fits_sel hB).1;cases hs : sel l [(false, i)] with
 | nil => rw [hs] at hf; exact hf.elim
 | cons o r =>
  rw [hs] at hf h;cases r with
  | nil => exact walk_one o hf.1 h
  | cons _ _ => exact hf.2.elim
end
end Pl
namespace Sk
open Vw
def rowB (bs : List Int) (p s i : Nat) : List Int := (bs.drop (p + 10 + s * i)).take s
theorem row_vb {w : World} {a : Option Addr} {bs : List Int} {p s n : Nat} (hv : VB w a bs) (h : p + 10 + n * s ≤ bs.length) (i : Nat) (hi : i < n) :
  VB w (sub (sub a (p + 10) (n * s)) (s * i) s) (rowB bs p s i) ∧ (rowB bs p s i).length = s := by
 have hsi : s * i + s ≤ n * s := by
  have := Nat.mul_le_mul_left s (show i + 1 ≤ n from hi)
  rw [Nat.mul_add, Nat.mul_one, Nat.mul_comm s n] at this;exact this
 have h1 := hv.sub (p + 10) (n * s) h;have h2 := h1.sub (s * i) s (by rw [List.length_take, List.length_drop]; omega)
 rw [List.drop_take, List.take_take, List.drop_drop, Nat.min_eq_left (by omega)] at h2
 exact ⟨h2, by unfold rowB; rw [List.length_take, List.length_drop]; omega⟩
end Sk
namespace Ref01
open Vw
theorem num_snoc (l : List Int) (b : Int) : num (l ++ [b]) = 256 * num l + b := by simp [num]
theorem num_bd_aux : ∀ (n : Nat) (l : List Int), l.length = n → (∀ x ∈ l, 0 ≤ x ∧ x ≤ 255) → 0 ≤ num l ∧ num l < 256 ^ n
 | 0, l, hl, _ => by
  have : l = [] := List.length_eq_zero_iff.1 hl;subst this;simp [num]
 | n + 1, l, hl, hb => by
  rcases List.eq_nil_or_concat l with rfl | ⟨l', b, rfl⟩
  ·simp at hl
  ·have h1 := num_bd_aux n l' (by simpa using hl) (fun x hx => hb x (by simp [hx]))
   have h2 := hb b (by simp)
   rw [List.concat_eq_append, num_snoc, Int.pow_succ];omega
theorem num_bd (l : List Int) (hb : ∀ x ∈ l, 0 ≤ x ∧ x ≤ 255) : 0 ≤ num l ∧ num l < 256 ^ l.length := num_bd_aux _ l rfl hb
theorem be_bd (bs : List Int) (hb : ∀ x ∈ bs, 0 ≤ x ∧ x ≤ 255) (p k : Nat) (hk : k ≤ 4) : 0 ≤ be bs p k ∧ be bs p k < 4294967296 := by
 have h := num_bd ((bs.drop p).take k) (fun x hx => hb x (List.mem_of_mem_drop (List.mem_of_mem_take hx)))
 have hl : ((bs.drop p).take k).length ≤ k := List.length_take_le _ _;have h2 : (256 : Nat) ^ ((bs.drop p).take k).length ≤ 256 ^ 4 := Nat.pow_le_pow_right (by omega) (by omega)
 have h3 : (256 : Int) ^ ((bs.drop p).take k).length = ((256 ^ ((bs.drop p).take k).length : Nat) : Int) := by simp
 exact ⟨h.1, by unfold be; omega⟩
end Ref01
namespace Lk
open Vw Sk Ch
structure PartD where
 first : Int
 last : Int
 vals : List Int
def listL (bs : List Int) (at' n size : Nat) : Option (List Int) :=
 if at' + size * n ≤ bs.length then some ((List.range n).map fun i => be bs (at' + size * i) size) else none
def trimL (bs : List Int) (at' size : Nat) : Option (List PartD) :=
 if at' + 4 ≤ bs.length ∧ be bs at' 2 + be bs (at' + 2) 2 ≤ 65536 then
  (listL bs (at' + 4) (be bs (at' + 2) 2).toNat size).map fun vs => if be bs (at' + 2) 2 = 0 then [] else [⟨be bs at' 2, be bs at' 2 + be bs (at' + 2) 2 - 1, vs⟩]
 else none
def segOne (bs : List Int) (each : Bool) (size : Nat) (rb : List Int) : Option PartD :=
 if be rb 2 2 ≤ be rb 0 2 then
  if each = true then (listL bs (be rb 4 2).toNat (be rb 0 2 - be rb 2 2 + 1).toNat size).map fun vs => ⟨be rb 2 2, be rb 0 2, vs⟩
  else some ⟨be rb 2 2, be rb 0 2, [be rb 4 size]⟩
 else none
def partsUp (f : Nat → Option PartD) : Nat → Nat → Option (List PartD)
 | 0, _ => some []
 | k + 1, i => (f i).bind fun p => (partsUp f k (i + 1)).map (p :: ·)
def seekOk (bs : List Int) (need : Int) : Prop := 12 ≤ bs.length ∧ need ≤ be bs 2 2 ∧ 12 + be bs 2 2 * be bs 4 2 ≤ bs.length
instance (bs : List Int) (need : Int) : Decidable (seekOk bs need) := inferInstanceAs (Decidable (_ ∧ _ ∧ _))
def needOf (each : Bool) (size : Nat) : Int := if each = true then 6 else 4 + size
def segsL (bs : List Int) (each : Bool) (size : Nat) : Option (List PartD) :=
 if seekOk bs (needOf each size) then partsUp (fun i => segOne bs each size (rowB bs 2 (be bs 2 2).toNat i)) (rowCount bs 2 (be bs 2 2).toNat (be bs 4 2).toNat 2) 0 else none
def singOne (size : Nat) (rb : List Int) : PartD := ⟨be rb 0 2, be rb 0 2, [be rb 2 size]⟩
def singL (bs : List Int) (size : Nat) : Option (List PartD) :=
 if seekOk bs (2 + size) then some ((List.range (rowCount bs 2 (be bs 2 2).toNat (be bs 4 2).toNat 1)).map fun i => singOne size (rowB bs 2 (be bs 2 2).toNat i)) else none
def formL (bs : List Int) (glyphs size : Nat) : Option (List PartD) :=
 if be bs 0 2 = 0 then (listL bs 2 glyphs size).map fun vs => [⟨0, (glyphs : Int) - 1, vs⟩]
 else if be bs 0 2 = 2 then segsL bs false size
 else if be bs 0 2 = 4 then segsL bs true size
 else if be bs 0 2 = 6 then singL bs size
 else if be bs 0 2 = 8 then trimL bs 2 size
 else if be bs 0 2 = 10 then (if 4 ≤ bs.length ∧ (be bs 2 2 = 1 ∨ be bs 2 2 = 2 ∨ be bs 2 2 = 4) then trimL bs 4 (be bs 2 2).toNat else none)
 else none
def rises : List PartD → Bool
 | [] => true
 | [_] => true
 | p :: q :: l => decide (p.last < q.first) && rises (q :: l)
def parseLk (bs : List Int) (glyphs size : Nat) : Option (List PartD) :=
 if 2 ≤ bs.length then (formL bs glyphs size).bind fun ps => if rises ps = true then some ps else none else none
def pnum (p : PartD) (id : Int) : Int := p.vals.getD (min (id - p.first) ((p.vals.length : Int) - 1)).toNat 0
def getL (ps : List PartD) (id : Int) : Option Int := match ps.find? (fun p => decide (id ≤ p.last)) with
 | none => none
 | some p => if id < p.first then none else some (pnum p id)
structure PartOk (p : PartD) : Prop where
 le : p.first ≤ p.last
 first0 : 0 ≤ p.first
 last1 : p.last ≤ 131072
 some : 0 < p.vals.length
 len : p.vals.length ≤ 131072
 vals : ∀ x ∈ p.vals, 0 ≤ x ∧ x ≤ 4294967295
theorem be_rng {bs : List Int} (hb : ∀ x ∈ bs, 0 ≤ x ∧ x ≤ 255) (p k : Nat) : 0 ≤ be bs p k ∧ be bs p k < 256 ^ k := by
 have h := Ref01.num_bd ((bs.drop p).take k) (fun x hx => hb x (List.mem_of_mem_drop (List.mem_of_mem_take hx)))
 have hl : ((bs.drop p).take k).length ≤ k := List.length_take_le _ _;have h2 : (256 : Nat) ^ ((bs.drop p).take k).length ≤ 256 ^ k := Nat.pow_le_pow_right (by omega) hl
 have h3 : (256 : Int) ^ ((bs.drop p).take k).length = ((256 ^ ((bs.drop p).take k).length : Nat) : Int) := by simp
 have h4 : (256 : Int) ^ k = ((256 ^ k : Nat) : Int) := by simp
 exact ⟨h.1, by unfold be; omega⟩
theorem be_rng2 {bs : List Int} (hb : ∀ x ∈ bs, 0 ≤ x ∧ x ≤ 255) (p : Nat) : 0 ≤ be bs p 2 ∧ be bs p 2 ≤ 65535 := by
 have := be_rng hb p 2; omega
theorem be_rng4 {bs : List Int} (hb : ∀ x ∈ bs, 0 ≤ x ∧ x ≤ 255) (p k : Nat) (hk : k ≤ 4) : 0 ≤ be bs p k ∧ be bs p k ≤ 4294967295 := by
 have := Ref01.be_bd bs hb p k hk; omega
theorem listL_ok {bs : List Int} (hb : ∀ x ∈ bs, 0 ≤ x ∧ x ≤ 255) {at' n size : Nat} {vs : List Int} (h : listL bs at' n size = some vs) (hs : size ≤ 4) : vs.length = n ∧ ∀ x ∈ vs, 0 ≤ x ∧ x ≤ 4294967295 := by
 unfold listL at h;split at h
 ·cases h;refine ⟨by simp, fun x hx => ?_⟩
  obtain ⟨i, _, rfl⟩ := List.mem_map.1 hx;exact be_rng4 hb _ _ hs
 ·cases h
theorem trimL_ok {bs : List Int} (hb : ∀ x ∈ bs, 0 ≤ x ∧ x ≤ 255) {at' size : Nat} {ps : List PartD} (h : trimL bs at' size = some ps) (hs : size ≤ 4) : ∀ p ∈ ps, PartOk p := by
 unfold trimL at h;split at h
 ·rename_i hc
  cases hl : listL bs (at' + 4) (be bs (at' + 2) 2).toNat size with
  | none => rw [hl] at h; cases h
  | some vs =>
   rw [hl] at h;cases h;obtain ⟨h1, h2⟩ := listL_ok hb hl hs;have b0 := be_rng2 hb at';have b1 := be_rng2 hb (at' + 2);intro p hp;split at hp
   ·cases hp
   ·simp at hp;subst hp;exact ⟨by simp only; omega, b0.1, by simp only; omega, by simp only; omega, by simp only; omega, h2⟩
 ·cases h
theorem byte_take {bs : List Int} (hb : ∀ x ∈ bs, 0 ≤ x ∧ x ≤ 255) (p k : Nat) : ∀ x ∈ (bs.drop p).take k, 0 ≤ x ∧ x ≤ 255 := fun x hx => hb x (List.mem_of_mem_drop (List.mem_of_mem_take hx))
theorem segOne_ok {bs rb : List Int} (hb : ∀ x ∈ bs, 0 ≤ x ∧ x ≤ 255) (hr : ∀ x ∈ rb, 0 ≤ x ∧ x ≤ 255) {each : Bool} {size : Nat} {p : PartD} (h : segOne bs each size rb = some p) (hs : size ≤ 4) : PartOk p := by
 unfold segOne at h;split at h
 ·rename_i hc
  have b0 := be_rng2 hr 0;have b1 := be_rng2 hr 2;split at h
  ·cases hl : listL bs (be rb 4 2).toNat (be rb 0 2 - be rb 2 2 + 1).toNat size with
   | none => rw [hl] at h; cases h
   | some vs =>
    rw [hl] at h;cases h;obtain ⟨h1, h2⟩ := listL_ok hb hl hs;exact ⟨hc, b1.1, by simp only; omega, by simp only; omega, by simp only; omega, h2⟩
  ·cases h;exact ⟨hc, b1.1, by simp only; omega, by simp, by simp, fun x hx => by simp at hx; subst hx; exact be_rng4 hr _ _ hs⟩
 ·cases h
theorem partsUp_ok {f : Nat → Option PartD} (hf : ∀ i p, f i = some p → PartOk p) : ∀ (k i : Nat) (ps : List PartD), partsUp f k i = some ps → ∀ p ∈ ps, PartOk p
 | 0, i, ps, h, p, hp => by cases h; cases hp
 | k + 1, i, ps, h, p, hp => by
  unfold partsUp at h;cases h1 : f i with
  | none => rw [h1] at h; cases h
  | some q =>
   rw [h1, Option.bind_some] at h;cases h2 : partsUp f k (i + 1) with
   | none => rw [h2] at h; cases h
   | some qs =>
    rw [h2] at h;cases h;rcases List.mem_cons.1 hp with rfl | hp
    ·exact hf i _ h1
    ·exact partsUp_ok hf k (i + 1) qs h2 p hp
theorem formL_ok {bs : List Int} (hb : ∀ x ∈ bs, 0 ≤ x ∧ x ≤ 255) {glyphs size : Nat} (hg : 1 ≤ glyphs) (hg2 : glyphs ≤ 65536) (hs : size ≤ 4) {ps : List PartD} (h : formL bs glyphs size = some ps) : ∀ p ∈ ps, PartOk p := by
 unfold formL at h;split at h
 ·cases hl : listL bs 2 glyphs size with
  | none => rw [hl] at h; cases h
  | some vs =>
   rw [hl] at h;cases h;obtain ⟨h1, h2⟩ := listL_ok hb hl hs;intro p hp;simp at hp;subst hp;exact ⟨by simp only; omega, Int.le_refl _, by simp only; omega, by simp only; omega, by simp only; omega, h2⟩
 split at h
 ·unfold segsL at h;split at h
  ·exact partsUp_ok (fun i p hp => segOne_ok hb (byte_take hb _ _) hp hs) _ _ _ h
  ·cases h
 split at h
 ·unfold segsL at h;split at h
  ·exact partsUp_ok (fun i p hp => segOne_ok hb (byte_take hb _ _) hp hs) _ _ _ h
  ·cases h
 split at h
 ·unfold singL at h;split at h
  ·cases h;intro p hp;obtain ⟨i, _, rfl⟩ := List.mem_map.1 hp;have hr := byte_take hb (2 + 10 + (be bs 2 2).toNat * i) (be bs 2 2).toNat;have b0 := be_rng2 hr 0;exact ⟨Int.le_refl _, b0.1, by unfold singOne; simp only; exact Int.le_trans b0.2 (by omega), by simp [singOne], by simp [singOne], fun x hx => by simp [singOne] at hx; subst hx; exact be_rng4 hr _ _ hs⟩
  ·cases h
 split at h
 ·exact trimL_ok hb h hs
 split at h
 ·split at h
  ·rename_i hc
   exact trimL_ok hb h (by omega)
  ·cases h
 ·cases h
theorem parseLk_ok {bs : List Int} (hb : ∀ x ∈ bs, 0 ≤ x ∧ x ≤ 255) {glyphs size : Nat} (hg : 1 ≤ glyphs) (hg2 : glyphs ≤ 65536) (hs : size ≤ 4) {ps : List PartD} (h : parseLk bs glyphs size = some ps) : (∀ p ∈ ps, PartOk p) ∧ rises ps = true := by
 unfold parseLk at h;split at h
 ·cases hf : formL bs glyphs size with
  | none => rw [hf] at h; cases h
  | some qs =>
   rw [hf, Option.bind_some] at h;split at h
   ·rename_i hr
    cases h;exact ⟨formL_ok hb hg hg2 hs hf, hr⟩
   ·cases h
 ·cases h
theorem rises_last : ∀ {ps : List PartD}, (∀ p ∈ ps, PartOk p) → rises ps = true → ps.Pairwise fun p q => p.last < q.first
 | [], _, _ => .nil
 | [p], _, _ => List.pairwise_singleton _ _
 | p :: q :: l, ho, h => by
  simp only [rises, Bool.and_eq_true, decide_eq_true_eq] at h;have ih := rises_last (ps := q :: l) (fun x hx => ho x (List.mem_cons_of_mem _ hx)) h.2
  refine List.pairwise_cons.2 ⟨fun x hx => ?_, ih⟩
  rcases List.mem_cons.1 hx with rfl | hx
  ·exact h.1
  ·have h1 := (List.pairwise_cons.1 ih).1 x hx;have h2 := (ho q (by simp)).le
   omega
theorem own_cap {w : World} {base size : Nat} {e : TypeId} {a : Option Addr} {n m c : Nat} {xs : List Value} (h : w.ownsRow base e size (.slice a m c) n xs) : m = n ∧ n ≤ c ∧ c ≤ maxLen := by
 rcases Row.owned_parts h with ⟨h1, h2, _⟩ | ⟨g, cap, h1, _, _, h2, h3, _⟩
 ·cases h1; subst h2; exact ⟨rfl, Nat.le_refl _, Nat.zero_le _⟩
 ·cases h1; exact ⟨rfl, h2, h3⟩
def prC (x : PartD × Value) : List Value := [.int .i64 x.1.first, .int .i64 x.1.last, x.2]
theorem prC_len (x : PartD × Value) : (prC x).length = 3 := rfl
structure PRow (w : World) (base : Nat) (v : Value) (ps : List PartD) (vs : List Value) : Prop where
 len : vs.length = ps.length
 own : w.ownsRow base 220 3 v ps.length ((ps.zip vs).flatMap prC)
 vals : ∀ (i : Nat) (p : PartD) (u : Value), ps[i]? = some p → vs[i]? = some u → w.ownsRow base 3 1 u p.vals.length (p.vals.map (Value.int .i64))
theorem pRow_nil (w : World) (base : Nat) : PRow w base (.slice none 0 0) [] [] := ⟨rfl, Row.owned_nil _ _ _ _, fun i f s h => by simp at h⟩
theorem pRow_below {w w' : World} {base : Nat} {v : Value} {ps : List PartD} {vs : List Value} (h : PRow w base v ps vs) (hb : Below w.heap.size w w') : PRow w' base v ps vs :=
 ⟨h.len, Row.owned_below h.own hb, fun i p u hp hu => Row.owned_below (h.vals i p u hp hu) hb⟩
theorem pRow_base {w : World} {base base' : Nat} {v : Value} {ps : List PartD} {vs : List Value} (h : PRow w base v ps vs) (hb : base' ≤ base) : PRow w base' v ps vs :=
 ⟨h.len, Row.owned_base h.own hb, fun i p u hp hu => Row.owned_base (h.vals i p u hp hu) hb⟩
theorem pRow_snoc {w w' : World} {base : Nat} {v v' : Value} {ps : List PartD} {vs : List Value} {p : PartD} {u : Value} (h : PRow w base v ps vs)
  (hown : w'.ownsRow base 220 3 v' (ps.length + 1) ((ps.zip vs).flatMap prC ++ [.int .i64 p.first, .int .i64 p.last, u]))
  (hk : ∀ (e : TypeId) (size n : Nat) (u : Value) (xs : List Value), e ≠ 220 → w.ownsRow base e size u n xs → w'.ownsRow base e size u n xs)
  (h1 : w'.ownsRow base 3 1 u p.vals.length (p.vals.map (Value.int .i64))) : PRow w' base v' (ps ++ [p]) (vs ++ [u]) := by
 refine ⟨by simp [h.len], ?_, fun i p' u' hp hu => ?_⟩
 ·rw [List.length_append, List.zip_append h.len.symm, List.flatMap_append];simpa [prC] using hown
 ·by_cases hi : i < ps.length
  ·rw [List.getElem?_append_left hi] at hp;rw [List.getElem?_append_left (by rw [h.len]; exact hi)] at hu
   exact hk _ _ _ _ _ (by decide) (h.vals i p' u' hp hu)
  ·have hi2 : i = ps.length := by
    have := (List.getElem?_eq_some_iff.1 hp).1;simp at this; omega
   subst hi2;rw [List.getElem?_append_right (by omega)] at hp
   rw [List.getElem?_append_right (by have := h.len; omega)] at hu
   simp [h.len] at hp hu;subst hp hu;exact h1
def LkAt (w : World) (v : Value) (ps : List PartD) : Prop :=
 ∃ g fmt vp vs, v = .pointer (some ⟨g, 0, none⟩) ∧ w.heap[g]? = some (.cells #[.int .i64 fmt, vp] 217 (0, 0)) ∧ vs.length = ps.length ∧ Row.Leads w vp ps.length ((ps.zip vs).flatMap prC) ∧
  ∀ (i : Nat) (p : PartD) (u : Value), ps[i]? = some p → vs[i]? = some u → Row.Leads w u p.vals.length (p.vals.map (Value.int .i64))
theorem LkAt.below {w w' : World} {v : Value} {ps : List PartD} (h : LkAt w v ps) (hb : Below w.heap.size w w') : LkAt w' v ps := by
 obtain ⟨g, fmt, vp, vs, h1, h2, h3, h4, h5⟩ := h;exact ⟨g, fmt, vp, vs, h1, (hb.block _ (heap_lt h2)).trans h2, h3, Row.leads_below h4 hb, fun i p u hp hu => Row.leads_below (h5 i p u hp hu) hb⟩
def Lives (a : Nat) (P : World → Prop) (w : World) : Prop := ∀ u : World, (∀ k, a ≤ k → k < w.heap.size → u.heap[k]? = w.heap[k]?) → P u
theorem Lives.now {a : Nat} {P : World → Prop} {w : World} (h : Lives a P w) : P w := h w (fun _ _ _ => rfl)
theorem Lives.below {a : Nat} {P : World → Prop} {w w' : World} (h : Lives a P w) (hb : Below w.heap.size w w') : Lives a P w' :=
 fun u hu => h u fun k h1 h2 => (hu k h1 (Nat.lt_of_lt_of_le h2 hb.size)).trans (hb.block k h2)
theorem Lives.mono {a a' : Nat} {P : World → Prop} {w : World} (h : Lives a P w) (ha : a' ≤ a) : Lives a' P w := fun u hu => h u fun k h1 h2 => hu k (Nat.le_trans ha h1) h2
theorem lives_heap {a g : Nat} {o : Obj} {w : World} (h : w.heap[g]? = some o) (ha : a ≤ g) : Lives a (fun u => u.heap[g]? = some o) w := fun _ hu => (hu g ha (heap_lt h)).trans h
theorem lives_own {a base size n : Nat} {e : TypeId} {v : Value} {xs : List Value} {w : World} (h : w.ownsRow base e size v n xs) (ha : a ≤ base) : Lives a (fun u => u.ownsRow base e size v n xs) w :=
 fun _ hu => Row.owned_keep h fun g hg => hu g (Nat.le_trans ha (Row.own_block h hg).1) (Row.own_block h hg).2
theorem lives_prow {a base : Nat} {v : Value} {ps : List PartD} {vs : List Value} {w : World} (h : PRow w base v ps vs) (ha : a ≤ base) : Lives a (fun u => PRow u base v ps vs) w :=
 fun u hu => ⟨h.len, lives_own h.own ha u hu, fun i p x hp hx => lives_own (h.vals i p x hp hx) ha u hu⟩
def Off (S : Nat → Prop) (a : Nat) (P : World → Prop) (w : World) : Prop := ∀ u : World, (∀ k, a ≤ k → k < w.heap.size → ¬ S k → u.heap[k]? = w.heap[k]?) → P u
theorem Off.lives {S : Nat → Prop} {a : Nat} {P : World → Prop} {w : World} (h : Off S a P w) : Lives a P w := fun u hu => h u fun k h1 h2 _ => hu k h1 h2
theorem Off.of_lives {S : Nat → Prop} {a x : Nat} {P : World → Prop} {w : World} (h : Lives x P w) (ha : a ≤ x) (hS : ∀ k, S k → k < x) : Off S a P w :=
 fun u hu => h u fun k h1 h2 => hu k (Nat.le_trans ha h1) h2 (fun hk => absurd (hS k hk) (Nat.not_lt.2 h1))
theorem Off.grow {S S' : Nat → Prop} {a : Nat} {P : World → Prop} {w w' : World} (h : Off S a P w) (hs : w.heap.size ≤ w'.heap.size) (hk : ∀ k, a ≤ k → k < w.heap.size → ¬ S k → w'.heap[k]? = w.heap[k]?) (hS : ∀ k, S' k → S k ∨ w.heap.size ≤ k) : Off S' a P w' :=
 fun u hu => h u fun k h1 h2 h3 => (hu k h1 (Nat.lt_of_lt_of_le h2 hs) (fun h' => (hS k h').elim h3 (fun h => absurd h2 (Nat.not_lt.2 h)))).trans (hk k h1 h2 h3)
end Lk
namespace St
open Vw Sk Ch Lk
structure EntD where
 next : Int
 flags : Int
 a : Int
 b : Int
structure MachD where
 classes : Nat
 parts : List PartD
 rows : List (List Int)
 ents : List EntD
def rowOf (bs : List Int) (n ro k : Nat) : List Int := (List.range n).map fun i => be bs (ro + 2 * n * k + 2 * i) 2
def entOf (bs : List Int) (eo words k : Nat) : EntD :=
 ⟨be bs (eo + (4 + 2 * words) * k) 2, be bs (eo + (4 + 2 * words) * k + 2) 2, if 0 < words then be bs (eo + (4 + 2 * words) * k + 4) 2 else 0, if 1 < words then be bs (eo + (4 + 2 * words) * k + 6) 2 else 0⟩
def rowsOf (bs : List Int) (n ro R : Nat) : List (List Int) := (List.range R).map (rowOf bs n ro)
def entsOf (bs : List Int) (eo words E : Nat) : List EntD := (List.range E).map (entOf bs eo words)
def mostOf (r : List Int) : Nat := r.foldl (fun m x => max m (x + 1).toNat) 0
def needE (rows : List (List Int)) : Nat := rows.foldl (fun m r => max m (mostOf r)) 0
def needS (ents : List EntD) : Nat := ents.foldl (fun m e => max m (e.next + 1).toNat) 2
def growM (bs : List Int) (n ro eo words : Nat) : Nat → Nat → Nat → Option (Nat × Nat)
 | 0, R, E => some (R, E)
 | f + 1, R, E =>
  if R < needS (entsOf bs eo words E) ∨ E < needE (rowsOf bs n ro R) then
   if ro + 2 * n * needS (entsOf bs eo words E) ≤ bs.length then
    if eo + (4 + 2 * words) * needE (rowsOf bs n ro (needS (entsOf bs eo words E))) ≤ bs.length then
     growM bs n ro eo words f (needS (entsOf bs eo words E)) (needE (rowsOf bs n ro (needS (entsOf bs eo words E))))
    else none
   else none
  else some (R, E)
def fuelM : Nat := 140000
def parseSt (bs : List Int) (glyphs words : Nat) : Option MachD :=
 if 16 ≤ bs.length ∧ 4 ≤ be bs 0 4 ∧ be bs 0 4 ≤ 65535 ∧ be bs 4 4 ≤ bs.length ∧ be bs 8 4 ≤ bs.length ∧ be bs 12 4 ≤ bs.length then
  (parseLk (bs.drop (be bs 4 4).toNat) glyphs 2).bind fun ps =>
   (growM bs (be bs 0 4).toNat (be bs 8 4).toNat (be bs 12 4).toNat words fuelM 0 0).map fun RE =>
    ⟨(be bs 0 4).toNat, ps, rowsOf bs (be bs 0 4).toNat (be bs 8 4).toNat RE.1, entsOf bs (be bs 12 4).toNat words RE.2⟩
 else none
def classM (M : MachD) (id : Int) : Int := if id = 65535 then 2 else match getL M.parts id with
 | some c => if c < M.classes then c else 1
 | none => 1
def stepM (M : MachD) (state cls : Int) : EntD := (M.ents.getD (((M.rows.getD state.toNat []).getD cls.toNat 0).toNat) ⟨0, 0, 0, 0⟩)
structure MachOk (M : MachD) : Prop where
 lo : 4 ≤ M.classes
 hi : M.classes ≤ 65535
 parts : ∀ p ∈ M.parts, PartOk p
 rises : rises M.parts = true
 rows : ∀ r ∈ M.rows, r.length = M.classes ∧ ∀ x ∈ r, 0 ≤ x ∧ x.toNat < M.ents.length
 nrows : M.rows.length ≤ 65536
 two : 2 ≤ M.rows.length
 nents : M.ents.length ≤ 65536
 ents : ∀ e ∈ M.ents, (0 ≤ e.next ∧ e.next.toNat < M.rows.length) ∧ (0 ≤ e.flags ∧ e.flags ≤ 65535) ∧ (0 ≤ e.a ∧ e.a ≤ 65535) ∧ (0 ≤ e.b ∧ e.b ≤ 65535)
theorem foldl_max_le {α : Type} (f : α → Nat) : ∀ (l : List α) (m : Nat), m ≤ l.foldl (fun m x => max m (f x)) m ∧ ∀ x ∈ l, f x ≤ l.foldl (fun m x => max m (f x)) m
 | [], m => ⟨Nat.le_refl _, fun x hx => by cases hx⟩
 | y :: l, m => by
  obtain ⟨h1, h2⟩ := foldl_max_le f l (max m (f y));rw [List.foldl_cons];refine ⟨Nat.le_trans (Nat.le_max_left _ _) h1, fun x hx => ?_⟩
  rcases List.mem_cons.1 hx with rfl | hx
  ·exact Nat.le_trans (Nat.le_max_right _ _) h1
  ·exact h2 x hx
theorem foldl_max_bd {α : Type} (f : α → Nat) (B : Nat) : ∀ (l : List α) (m : Nat), m ≤ B → (∀ x ∈ l, f x ≤ B) → l.foldl (fun m x => max m (f x)) m ≤ B
 | [], _, h, _ => h
 | y :: l, m, h, hl => by
  rw [List.foldl_cons];exact foldl_max_bd f B l _ (Nat.max_le.2 ⟨h, hl y (by simp)⟩) (fun x hx => hl x (by simp [hx]))
theorem rowOf_bd {bs : List Int} (hb : ∀ x ∈ bs, 0 ≤ x ∧ x ≤ 255) (n ro k : Nat) : (rowOf bs n ro k).length = n ∧ ∀ x ∈ rowOf bs n ro k, 0 ≤ x ∧ x ≤ 65535 := by
 refine ⟨by simp [rowOf], fun x hx => ?_⟩
 obtain ⟨i, _, rfl⟩ := List.mem_map.1 hx;exact be_rng2 hb _
theorem entOf_bd {bs : List Int} (hb : ∀ x ∈ bs, 0 ≤ x ∧ x ≤ 255) (eo words k : Nat) : (0 ≤ (entOf bs eo words k).next ∧ (entOf bs eo words k).next ≤ 65535) ∧ (0 ≤ (entOf bs eo words k).flags ∧ (entOf bs eo words k).flags ≤ 65535) ∧
  (0 ≤ (entOf bs eo words k).a ∧ (entOf bs eo words k).a ≤ 65535) ∧ (0 ≤ (entOf bs eo words k).b ∧ (entOf bs eo words k).b ≤ 65535) := by
 refine ⟨be_rng2 hb _, be_rng2 hb _, ?_, ?_⟩
 ·unfold entOf; simp only; split
  ·exact be_rng2 hb _
  ·omega
 ·unfold entOf; simp only; split
  ·exact be_rng2 hb _
  ·omega
theorem needE_bd {bs : List Int} (hb : ∀ x ∈ bs, 0 ≤ x ∧ x ≤ 255) (n ro R : Nat) : needE (rowsOf bs n ro R) ≤ 65536 := by
 refine foldl_max_bd mostOf 65536 _ 0 (by omega) fun r hr => ?_
 obtain ⟨k, _, rfl⟩ := List.mem_map.1 hr;refine foldl_max_bd (fun x : Int => (x + 1).toNat) 65536 _ 0 (by omega) fun x hx => ?_
 have := (rowOf_bd hb n ro k).2 x hx;omega
theorem needS_bd {bs : List Int} (hb : ∀ x ∈ bs, 0 ≤ x ∧ x ≤ 255) (eo words E : Nat) : 2 ≤ needS (entsOf bs eo words E) ∧ needS (entsOf bs eo words E) ≤ 65536 := by
 refine ⟨(foldl_max_le (fun e : EntD => (e.next + 1).toNat) _ 2).1, foldl_max_bd (fun e : EntD => (e.next + 1).toNat) 65536 _ 2 (by omega) fun e he => ?_⟩
 obtain ⟨k, _, rfl⟩ := List.mem_map.1 he;have := (entOf_bd hb eo words k).1;omega
theorem entsOf_len (bs : List Int) (eo words E : Nat) : (entsOf bs eo words E).length = E := by simp [entsOf]
theorem rowsOf_len (bs : List Int) (n ro R : Nat) : (rowsOf bs n ro R).length = R := by simp [rowsOf]
theorem entsOf_succ (bs : List Int) (eo words E : Nat) : entsOf bs eo words (E + 1) = entsOf bs eo words E ++ [entOf bs eo words E] := by
 unfold entsOf; rw [List.range_succ, List.map_append]; rfl
theorem rowsOf_succ (bs : List Int) (n ro R : Nat) : rowsOf bs n ro (R + 1) = rowsOf bs n ro R ++ [rowOf bs n ro R] := by
 unfold rowsOf; rw [List.range_succ, List.map_append]; rfl
theorem needE_succ (bs : List Int) (n ro R : Nat) : needE (rowsOf bs n ro (R + 1)) = max (needE (rowsOf bs n ro R)) (mostOf (rowOf bs n ro R)) := by
 rw [rowsOf_succ, needE, List.foldl_append]; rfl
theorem needS_succ (bs : List Int) (eo words E : Nat) : needS (entsOf bs eo words (E + 1)) = max (needS (entsOf bs eo words E)) ((entOf bs eo words E).next + 1).toNat := by
 rw [entsOf_succ, needS, List.foldl_append]; rfl
theorem needS_mono (bs : List Int) (eo words : Nat) {E E' : Nat} (h : E ≤ E') : needS (entsOf bs eo words E) ≤ needS (entsOf bs eo words E') := by
 induction h with
 | refl => exact Nat.le_refl _
 | step _ ih => rw [needS_succ]; exact Nat.le_trans ih (Nat.le_max_left _ _)
theorem needE_mono (bs : List Int) (n ro : Nat) {R R' : Nat} (h : R ≤ R') : needE (rowsOf bs n ro R) ≤ needE (rowsOf bs n ro R') := by
 induction h with
 | refl => exact Nat.le_refl _
 | step _ ih => rw [needE_succ]; exact Nat.le_trans ih (Nat.le_max_left _ _)
theorem growM_ends {bs : List Int} (hb : ∀ x ∈ bs, 0 ≤ x ∧ x ≤ 255) (n ro eo words : Nat) : ∀ (f R E R' E' : Nat), 131072 < f + R + E → R ≤ needS (entsOf bs eo words E) → E ≤ needE (rowsOf bs n ro R) → growM bs n ro eo words f R E = some (R', E') →
  needS (entsOf bs eo words E') ≤ R' ∧ needE (rowsOf bs n ro R') ≤ E' ∧ R' ≤ 65536 ∧ E' ≤ 65536
 | 0, R, E, R', E', hf, h1, h2, h => by
  have a := needS_bd hb eo words E;have b := needE_bd hb n ro R;omega
 | f + 1, R, E, R', E', hf, h1, h2, h => by
  unfold growM at h;split at h
  ·rename_i hc
   split at h
   ·split at h
    ·have a := needE_mono bs n ro h1;refine growM_ends hb n ro eo words f _ _ R' E' ?_ ?_ (Nat.le_refl _) h
     ·omega
     ·exact needS_mono bs eo words (Nat.le_trans h2 a)
    ·cases h
   ·cases h
  ·rename_i hc
   cases h;have a := needS_bd hb eo words E;have b := needE_bd hb n ro R;omega
theorem parseSt_ok {bs : List Int} (hb : ∀ x ∈ bs, 0 ≤ x ∧ x ≤ 255) {glyphs words : Nat} (hg : 1 ≤ glyphs) (hg2 : glyphs ≤ 65536) {M : MachD} (h : parseSt bs glyphs words = some M) : MachOk M := by
 unfold parseSt at h;split at h
 ·rename_i hc
  cases h1 : parseLk (bs.drop (be bs 4 4).toNat) glyphs 2 with
  | none => rw [h1] at h; cases h
  | some ps =>
   rw [h1, Option.bind_some] at h;cases h2 : growM bs (be bs 0 4).toNat (be bs 8 4).toNat (be bs 12 4).toNat words fuelM 0 0 with
   | none => rw [h2] at h; cases h
   | some RE =>
    obtain ⟨R, E⟩ := RE;rw [h2] at h;simp only [Option.map_some, Option.some.injEq] at h;subst h;obtain ⟨e1, e2, e3, e4⟩ := growM_ends hb _ _ _ words fuelM 0 0 R E (by unfold fuelM; omega) (Nat.zero_le _) (Nat.zero_le _) h2
    obtain ⟨o1, o2⟩ := parseLk_ok (fun x hx => hb x (List.mem_of_mem_drop hx)) hg hg2 (by omega) h1
    have two := (needS_bd hb (be bs 12 4).toNat words E).1;refine ⟨by simp only; omega, by simp only; omega, o1, o2, fun r hr => ?_, by simp only; rw [rowsOf_len]; exact e3, by simp only; rw [rowsOf_len]; omega, by simp only; rw [entsOf_len]; exact e4, fun e he => ?_⟩
    ·have hr' := hr;obtain ⟨k, _, rfl⟩ := List.mem_map.1 hr;refine ⟨(rowOf_bd hb _ _ k).1, fun x hx => ⟨((rowOf_bd hb _ _ k).2 x hx).1, ?_⟩⟩
     simp only;rw [entsOf_len];have a : mostOf _ ≤ needE (rowsOf bs _ _ R) := (foldl_max_le mostOf _ 0).2 _ hr';have b : (x + 1).toNat ≤ mostOf (rowOf bs _ _ k) := (foldl_max_le (fun x : Int => (x + 1).toNat) _ 0).2 x hx
     have c := ((rowOf_bd hb _ _ k).2 x hx).1;omega
    ·have he' := he;obtain ⟨k, _, rfl⟩ := List.mem_map.1 he;have a : (_ + 1 : Int).toNat ≤ needS (entsOf bs _ words E) := (foldl_max_le (fun e : EntD => (e.next + 1).toNat) _ 2).2 _ he'
     have c := entOf_bd hb (be bs 12 4).toNat words k;refine ⟨⟨c.1.1, ?_⟩, c.2⟩;simp only;rw [rowsOf_len];have := c.1.1;omega
 ·cases h
def enC (e : EntD) : List Value := [.int .i64 e.next, .int .i64 e.flags, .int .i64 e.a, .int .i64 e.b]
theorem enC_len (e : EntD) : (enC e).length = 4 := rfl
theorem enC_one (l : List EntD) : ∀ u ∈ l.flatMap enC, u.oneCell' = true := fun v hv => by
 obtain ⟨s, _, hs⟩ := List.mem_flatMap.1 hv;simp [enC] at hs;rcases hs with rfl | rfl | rfl | rfl <;> rfl
theorem enC_flat (l : List EntD) : (l.flatMap enC).length = l.length * 4 := by
 induction l with
 | nil => rfl
 | cons s l ih => rw [List.flatMap_cons, List.length_append, ih, List.length_cons]; simp [enC]; omega
def MachAt (w : World) (v : Value) (M : MachD) : Prop :=
 ∃ g vt vr ve us, v = .pointer (some ⟨g, 0, none⟩) ∧ w.heap[g]? = some (.cells #[.int .i64 M.classes, vt, vr, ve] 202 (0, 0)) ∧ LkAt w vt M.parts ∧ us.length = M.rows.length ∧ Row.Leads w vr M.rows.length us ∧
  (∀ (i : Nat) (r : List Int) (u : Value), M.rows[i]? = some r → us[i]? = some u → Row.Leads w u r.length (r.map (Value.int .i64))) ∧ Row.Leads w ve M.ents.length (M.ents.flatMap enC)
theorem MachAt.below {w w' : World} {v : Value} {M : MachD} (h : MachAt w v M) (hb : Below w.heap.size w w') : MachAt w' v M := by
 obtain ⟨g, vt, vr, ve, us, h1, h2, h3, h4, h5, h6, h7⟩ := h;exact ⟨g, vt, vr, ve, us, h1, (hb.block _ (heap_lt h2)).trans h2, h3.below hb, h4, Row.leads_below h5 hb, fun i r u hr hu => Row.leads_below (h6 i r u hr hu) hb, Row.leads_below h7 hb⟩
end St
end Go.Proofs.YtoncnjhhdlpliaaGreat
