/- General lemmas: a region that draws its order, walked once, in the class of worlds that have grown and keep what was there. -/
import Derived.Test.YtkmbeohheblhhaaRows
import Derived.WalkKit
import Derived.WalkSpells
import Derived.WalkLawsBesides
import Derived.Deep.QuietTactic
import Derived.BigQuiet
namespace Go.Proofs.Ytkmbeohheblhhaa
open Go.RowKit
namespace Bas

theorem hid {p : Prop} (h : p) : Hid p := h

/-- The worlds that have grown from W and keep all below B, as a family. -/
theorem fam (B : Nat) (W : World) : ∃ (I : Type) (F : I → World), Nonempty I ∧ (∀ w, Below B W w → ∃ i, w = F i) ∧ ∀ i, Below B W (F i) :=
  ⟨{ w : World // Below B W w }, fun i => i.1, ⟨⟨W, Below.refl _ _⟩⟩, fun w h => ⟨⟨w, h⟩, rfl⟩, fun i => i.2⟩

/-- One walk of the text's order serves every order, in a family of worlds. -/
theorem region_fam {P : Program} {id : Nat} {Q : Exit → Act → World → Prop} {a : Act} {w : World} {l : List Oper} {I : Type} {F : I → World}
    (hm : P.follows .mixedOrders = true) (hB : Region.lexB .any l.toArray = true) (h0 : ∃ i, w.drew = F i)
    (h : wpQuiet P l.toArray (fun w' => ∃ i, w' = F i) (fun a' => ∀ i, Q .normal a' (F i)) l a) : (Code.region id l.toArray true).wp P Q a w :=
  wp_region_quiet (C := fun w' => ∃ i, w' = F i) hm hB h0 (by
    have e : (fun a' : Act => ∀ w', (∃ i, w' = F i) → Q .normal a' w') = fun a' => ∀ i, Q .normal a' (F i) := by
      funext a'
      apply propext
      exact ⟨fun h i => h _ ⟨i, rfl⟩, fun h w' ⟨i, e⟩ => e ▸ h i⟩
    rw [e]
    simpa using h)

/-- A callee's contract, met in a world of the family. -/
theorem call_fam {P : Program} {f : FuncId} {args : Array Value} {B : Nat} {W : World} {I : Type} {F : I → World} {i : I} {v : Value}
    (hF : (∀ w, Below B W w → ∃ i, w = F i) ∧ ∀ i, Below B W (F i)) (hB : B ≤ W.heap.size)
    (h : Calls P f args (F i) fun e w' => e = .returned v ∧ Below (F i).heap.size (F i) w') : Calls P f args (F i) fun e w'' => e = .returned v ∧ ∃ j, w'' = F j :=
  h.mono fun _ w' ⟨he, hb⟩ => ⟨he, hF.1 w' ((hF.2 i).trans (hb.mono (Nat.le_trans hB (hF.2 i).size)))⟩

theorem call_fam_same {P : Program} {f : FuncId} {args : Array Value} {I : Type} {F : I → World} {i : I} {v : Value}
    (h : Calls P f args (F i) fun e w' => e = .returned v ∧ F i = w') : Calls P f args (F i) fun e w'' => e = .returned v ∧ ∃ j, w'' = F j :=
  h.mono fun _ _ ⟨he, hb⟩ => ⟨he, i, hb.symm⟩

/-- What stood below B stands in each world of the family. -/
theorem cell_fam {B : Nat} {W : World} {I : Type} {F : I → World} (hF : (∀ w, Below B W w → ∃ i, w = F i) ∧ ∀ i, Below B W (F i)) {b o : Nat} {v : Value} (hb : b < B)
    (h : W.cell? ⟨b, o, none⟩ = some v) (i : I) : (F i).cell? ⟨b, o, none⟩ = some v :=
  ((hF.2 i).cell (p := ⟨b, o, none⟩) hb).trans h

theorem below_drewN {B : Nat} {a w : World} (h : Below B a w) (n : Nat) : Below B a (w.drewN n) := ⟨h.os, h.tape, h.output, h.size, h.block⟩


theorem bcell {W w1 : World} (hb : Below W.heap.size W w1) : (∀ b o, b < W.heap.size → w1.cell? ⟨b, o, none⟩ = W.cell? ⟨b, o, none⟩) ∧ (∀ b o, b < W.heap.size → w1.frozen? ⟨b, o, none⟩ = W.frozen? ⟨b, o, none⟩) :=
  ⟨fun b o h => hb.cell (p := ⟨b, o, none⟩) h, fun b o h => hb.frozen (p := ⟨b, o, none⟩) h⟩

theorem on {W0 w w' : World} (HB : Below W0.heap.size W0 w) (hb : Below w.heap.size w w') : Below W0.heap.size W0 w' := HB.trans (hb.mono HB.size)

theorem quiet_same {P : Program} {f : FuncId} {args : Array Value} {w : World} {n : Nat} {v : Value}
    (h : Calls P f args (w.drewN n) fun e w' => e = .returned v ∧ w.drewN n = w') : Calls P f args (w.drewN n) fun e w'' => e = .returned v ∧ ∃ m, w'' = w.drewN m :=
  h.mono fun _ _ ⟨he, hm⟩ => ⟨he, n, hm.symm⟩

theorem wf_u8 {x : Int} (h : (Lit.int .u8 x).wf = true) : 0 ≤ x ∧ x ≤ 255 := by
  simpa [Lit.wf, IntKind.min, IntKind.max, IntKind.bits, IntKind.signed] using h
theorem wf_u16 {x : Int} (h : (Lit.int .u16 x).wf = true) : 0 ≤ x ∧ x ≤ 65535 := by
  simpa [Lit.wf, IntKind.min, IntKind.max, IntKind.bits, IntKind.signed] using h
theorem wf_u32 {x : Int} (h : (Lit.int .u32 x).wf = true) : 0 ≤ x ∧ x ≤ 4294967295 := by
  simpa [Lit.wf, IntKind.min, IntKind.max, IntKind.bits, IntKind.signed] using h
theorem wf_i16 {x : Int} (h : (Lit.int .i16 x).wf = true) : -32768 ≤ x ∧ x ≤ 32767 := by
  simpa [Lit.wf, IntKind.min, IntKind.max, IntKind.bits, IntKind.signed] using h
theorem wf_i32 {x : Int} (h : (Lit.int .i32 x).wf = true) : -2147483648 ≤ x ∧ x ≤ 2147483647 := by
  simpa [Lit.wf, IntKind.min, IntKind.max, IntKind.bits, IntKind.signed] using h
theorem wf_i64 {x : Int} (h : (Lit.int .i64 x).wf = true) : -9223372036854775808 ≤ x ∧ x ≤ 9223372036854775807 := by
  simpa [Lit.wf, IntKind.min, IntKind.max, IntKind.bits, IntKind.signed] using h

/-- A slice of integers that came in: nil, or a row of 'cap' cells that hold 'zs'. -/
def IsRow (k : IntKind) (w : World) (a : Option Addr) (len cap : Nat) (zs : List Int) : Prop :=
  (a = none ∧ len = 0 ∧ cap = 0 ∧ zs = []) ∨
  ∃ x, a = some x ∧ len ≤ cap ∧ cap ≤ maxLen ∧ zs.length = cap ∧ (∀ i, i < zs.length → w.cell? (x.add i) = some (.int k (zs.getD i 0))) ∧ ∀ n ∈ zs, (Lit.int k n).wf = true

theorem heap_new (w : World) (o : Obj) : (w.alloc o).heap[w.heap.size]? = some o := (MapKept.heap_alloc w o).1
theorem heap_new2 (w : World) (o o2 : Obj) : ((w.alloc o).alloc o2).heap[w.heap.size + 1]? = some o2 := by
  have h := heap_new (w.alloc o) o2
  rw [World.size_alloc] at h
  exact h

theorem gcell {w w' : World} {r : Option Nat} (h : w.grownBy w' r) {b o : Nat} (hb : b < w.heap.size) (hr : r ≠ some b) : w'.cell? ⟨b, o, none⟩ = w.cell? ⟨b, o, none⟩ :=
  World.cell?_of_block (w := w) (h.block b hb (fun e => hr e.symm))
theorem gfrozen {w w' : World} {r : Option Nat} (h : w.grownBy w' r) {b o : Nat} (hb : b < w.heap.size) (hr : r ≠ some b) : w'.frozen? ⟨b, o, none⟩ = w.frozen? ⟨b, o, none⟩ :=
  World.frozen?_of_block (w := w) (h.block b hb (fun e => hr e.symm))
theorem gtrans {a b c : World} {r : Option Nat} (h : a.grownBy b r) (k : b.grownBy c r) : a.grownBy c r :=
  ⟨k.os.trans h.os, k.tape.trans h.tape, k.output.trans h.output, Nat.le_trans h.size k.size, fun i hi hr => (k.block i (Nat.lt_of_lt_of_le hi h.size) hr).trans (h.block i hi hr)⟩
theorem grefl (w : World) (r : Option Nat) : w.grownBy w r := ⟨rfl, rfl, rfl, Nat.le_refl _, fun _ _ _ => rfl⟩
theorem gset {a w : World} {b : Nat} (h : a.grownBy w (some b)) (o : Nat) (v : Value) : a.grownBy (w.setCell ⟨b, o, none⟩ v) (some b) :=
  gtrans h ⟨rfl, rfl, rfl, by simp [World.setCell], fun k _ hk => Below.heap_setCell _ _ _ _ (fun e => hk (by rw [e]))⟩
theorem galloc {a w : World} {r : Option Nat} (h : a.grownBy w r) (o : Obj) : a.grownBy (w.alloc o) r :=
  gtrans h ⟨rfl, rfl, rfl, by simp, fun k hk _ => Below.heap_alloc _ _ _ hk⟩
theorem gdrew {a w : World} {r : Option Nat} (h : a.grownBy w r) : a.grownBy w.drew r := ⟨h.os, h.tape, h.output, h.size, h.block⟩
theorem gbelow {a w w' : World} {r : Option Nat} (h : a.grownBy w r) (hb : Below w.heap.size w w') : a.grownBy w' r :=
  gtrans h ⟨hb.os, hb.tape, hb.output, hb.size, fun k hk _ => hb.block k hk⟩
/-- A write to block b is no matter below b. -/
theorem below_g {B b : Nat} {a w w' : World} (h : Below B a w) (hg : w.grownBy w' (some b)) (hB : B ≤ w.heap.size) (hb : B ≤ b) : Below B a w' :=
  h.grown hg hB (fun k hk => by cases hk; exact hb)

/-- A slice of bools that came in. -/
def IsBools (w : World) (a : Option Addr) (len cap : Nat) (B : Nat → Bool) : Prop :=
  len ≤ cap ∧ cap ≤ maxLen ∧ ∀ i, i < len → ∃ b o, a = some ⟨b, o, none⟩ ∧ w.cell? ⟨b, o + i, none⟩ = some (.bool (B i))

theorem spot_add {w : World} {x : Addr} {i : Nat} {v : Value} (h0 : ∃ u, w.cell? (x.add 0) = some u) (h : w.cell? (x.add i) = some v) : x = ⟨x.block, x.off, none⟩ ∧ w.cell? ⟨x.block, x.off + i, none⟩ = some v := by
  obtain ⟨u, hu⟩ := h0
  have hs := World.cell?_spot hu
  obtain ⟨b, o, s⟩ := x
  have : s = none := by simpa [Addr.add] using hs
  subst this
  rw [Addr.add_lit] at h
  exact ⟨rfl, h⟩

theorem u32_mask (x m : Int) (k : Nat) (hm : m = ((2 ^ k - 1 : Nat) : Int)) (hk : k ≤ 32) (h0 : 0 ≤ x) (h1 : x ≤ 4294967295) : bits .and .u32 x m = x % 2 ^ k := by
  have h2 : 2 ^ k ≤ 2 ^ 32 := Nat.pow_le_pow_right (by omega) hk
  rw [u32_and x m h0 (by omega) (by omega) (by omega), hm, Int.toNat_natCast, Nat.and_two_pow_sub_one_eq_mod]
  obtain ⟨n, rfl⟩ := Int.eq_ofNat_of_zero_le h0
  simp

theorem u32_bit (x m : Int) (k : Nat) (hm : m = ((2 ^ k : Nat) : Int)) (hk : k < 32) (h0 : 0 ≤ x) (h1 : x ≤ 4294967295) : bits .and .u32 x m = x / 2 ^ k % 2 * 2 ^ k := by
  have h2 : 2 ^ k < 2 ^ 32 := Nat.pow_lt_pow_right (by omega) hk
  have h3 : (0 : Int) ≤ m := by rw [hm]; exact Int.natCast_nonneg _
  have h4 : m < 4294967296 := by rw [hm]; exact Int.ofNat_lt.2 h2
  rw [u32_and x m h0 (by omega) h3 h4, hm, Int.toNat_natCast, nat_bit]
  obtain ⟨n, rfl⟩ := Int.eq_ofNat_of_zero_le h0
  simp

end Bas
end Go.Proofs.Ytkmbeohheblhhaa
