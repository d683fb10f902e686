/- Parts of a proof: texts MxRead, MxPlain, PickA, PickSort, FeatOne, PickOn, PickFlags, MxFlags, MxSub, MxSubT, MxRunD, MxRun, MxWk, MxWk2, MxSmall, ChainWrD, ChainWr, PickApp, Ref11. -/
import Derived.Test.YtoncnjhhdlpliaaGreatMQ01
import Derived.Sort.Grow
import Derived.Shelf.SlSortCmp.WholeK
import Derived.Maps.RangeWalk
import Derived.Maps.Ext
import Derived.DeepKeys4
import Derived.Shelf.SlSortCmp.NoneTotal
import Derived.Laws.EntriesVeiled
import Derived.ProofKit
import Derived.OpenShut
import Derived.Deep.Slices
import Derived.Deep.Grids
namespace Go.Proofs.YtoncnjhhdlpliaaGreat
open Go.RowKit
namespace Mx
open Vw Ch Lk St Ln Dr
theorem vb_own {w : World} {base n cp : Nat} {ad : Option Addr} {bs : List Int} (h : w.ownsRow base 5 1 (.slice ad n cp) n (bs.map (Value.int .u8))) (h47 : bs.length ≤ 140737488355328) (hb : ∀ x ∈ bs, 0 ≤ x ∧ x ≤ 255) : VB w ad bs := by
 refine ⟨h47, hb, fun i hi => ?_⟩
 obtain ⟨b, o, c, hv, hc⟩ := leads_at (Row.leads_owned h) (i := i) (u := .int .u8 (bs.getD i 0)) (by rw [List.getElem?_map, List.getD_eq_getElem?_getD, List.getElem?_eq_getElem hi]; rfl)
 cases hv;exact ⟨b, o, rfl, hc⟩
def MReadR (W : World) (bo : Nat) (P : Option (List MChain)) (S : Option Addr) (bs : List Int) (ok : Bool) (w2 : World) : Prop :=
 W.grownBy w2 (some bo) ∧ ok = P.isSome ∧ w2.frozen? ⟨bo, 0, none⟩ = false ∧ ∃ v, w2.cell? ⟨bo, 0, none⟩ = some v ∧ (∀ T, P = some T → (∃ p, v = .pointer p) ∧ Lives W.heap.size (fun u => VB u S bs → MorxAt u v T) w2)
set_option maxHeartbeats 4000000 in
theorem mread1_any (S : Option Addr) (len cap : Nat) (bs : List Int) (gl : Nat) (bv bg bo bt : Nat) (W : World) (hl : len ≤ cap) (hc : cap ≤ maxLen) (hv : VB W S bs) (hbl : bs.length = len) (hsmall : len ≤ 1000000000) (hg1 : 1 ≤ gl) (hg2 : gl ≤ 65536)
  (h0 : W.cell? ⟨bv, 0, none⟩ = some (.slice S len cap)) (h1 : W.cell? ⟨bg, 0, none⟩ = some (.int .i64 gl)) (h5 : W.cell? ⟨bo, 0, none⟩ = some (.pointer none)) (h6 : W.frozen? ⟨bo, 0, none⟩ = false) (hne : bt ≠ bo) (hk : W.heap[bt]? = some (.cells #[.bool false] 4 (0, 0))) :
  Calls Tryz.prog 38 #[.pointer (some ⟨bv, 0, none⟩), .pointer (some ⟨bg, 0, none⟩), .pointer (some ⟨bo, 0, none⟩)] W (TryPost bt (MReadR W bo (morxParse bs gl) S bs)) := by
 have l0 := World.block_lt_of_cell? _ _ h0;have l1 := World.block_lt_of_cell? _ _ h1;have l5 := World.block_lt_of_cell? _ _ h5;have lt := (Array.getElem?_eq_some_iff.1 hk).1;have HT := Bas.hid (morxTake_any S len cap bs gl W hl hc hv hbl hsmall hg1 hg2);have HV := Bas.hid hv;clear hv;go_enter Tryz.func38, Tryz.ntmps38
 go_wp2_with (fail);refine HT.out.mono ?_;rintro e w2 ⟨hb, he⟩;cases hp : morxParse bs gl with
 | none =>
  rw [hp] at he;simp only at he;subst he;have HP : Hid (TryPost bt (MReadR W bo none S bs) (.panicked short) w2) := ⟨(hb.block bt lt).trans hk, .inr ⟨rfl, Bas.gbelow (Bas.grefl _ _) hb, rfl, (hb.frozen (p := ⟨bo, 0, none⟩) l5).trans h6, _, (hb.cell (p := ⟨bo, 0, none⟩) l5).trans h5, fun T h => by cases h⟩⟩
  clear HT hb hp;go_wp2_with (fail);exact ⟨rfl, HP.out⟩
 | some T =>
  rw [hp] at he;simp only at he;obtain ⟨v, rfl, hok⟩ := he;have HPP := Bas.hid hp;have hvp : ∃ p, v = .pointer p := by
   obtain ⟨g, _, _, h, _⟩ := hok.now (HV.out.below hb);exact ⟨_, h⟩
  have c5 := (hb.cell (p := ⟨bo, 0, none⟩) l5).trans h5;have f5 := (hb.frozen (p := ⟨bo, 0, none⟩) l5).trans h6;have hs2 := hb.size;have lt2 : bo < w2.heap.size := by have : bo < W.heap.size := l5; omega
  have HP : Hid (TryPost bt (MReadR W bo (some T) S bs) (.returned (.tuple #[])) (w2.setCell ⟨bo, 0, none⟩ v)) := by
   refine ⟨(Below.heap_setCell _ _ _ _ hne).trans ((hb.block bt lt).trans hk), .inl ⟨rfl, Bas.gset (Bas.gbelow (Bas.grefl _ _) hb) 0 v, rfl, by simpa [go_sem] using f5, v, by simp [go_sem, c5], fun T' hT' => ⟨hvp, ?_⟩⟩⟩
   cases hT';exact fun u hu => hok u fun k h1 h2 => (hu k h1 (by simpa [World.setCell] using h2)).trans (Below.heap_setCell _ _ _ _ (by have : bo < W.heap.size := l5; show k ≠ bo; omega))
  obtain ⟨pp, rfl⟩ := hvp;clear HT hb hok hp hk h0 h1 h5 h6;go_wp2_with (fail);refine bodyPost_ret (v := .tuple #[]) (by simp [results, Tryz.results38, go_sem]) rfl ?_
  rw [HPP.out];exact HP.out
def MReadP (w : World) (bs : List Int) (gl : Nat) (e : Ending) (w' : World) : Prop :=
 Below w.heap.size w w' ∧ match morxParse bs gl with
  | none => e = .returned (.tuple #[.pointer none, .int .i64 2])
  | some T => ∃ p, e = .returned (.tuple #[.pointer p, .int .i64 0]) ∧ Lives w.heap.size (fun u => MorxAt u (.pointer p) T) w'
set_option maxRecDepth 100000 in
set_option maxHeartbeats 8000000 in
theorem mread_any (a : Option Addr) (len cap : Nat) (bs : List Int) (gl : Nat) (w : World) (hl : len ≤ cap) (hc : cap ≤ maxLen) (hv : VB w a bs) (hbl : bs.length = len) (hsmall : len ≤ 1000000000) (hn : a = none → cap = 0) (hg1 : 1 ≤ gl) (hg2 : gl ≤ 65535) :
  Calls Tryz.prog 20 #[.slice a len cap, .int .i64 gl] w (MReadP w bs gl) := by
 have hmf : ∀ (fn : Fn) (first cap : Array Value) (w : World), (Instr.makeFunc fn first cap).run Tryz.prog w = .ok (.func fn first cap) w := fun _ _ _ _ => rfl
 have hcf : ∀ (caps : Array Value) w, (callFunc 38 caps).run Tryz.prog w = .ok (.enter 38 caps) w := fun caps w => by simp [go_sem]
 have HCF := Bas.hid hcf;have HV := Bas.hid hv;have e1 : decide ((gl : Int) < 1) = false := by simp; omega
 have e2 : decide ((65535 : Int) < (gl : Int)) = false := by simp; omega
 clear hcf hv;go_enter Tryz.func20, Tryz.ntmps20
 go_wp2_with (fail);have hb0 := ((Below.refl w.heap.size w).alloc (Nat.le_refl _) (.cells #[.int .i64 gl] 3)).alloc (by simp) (.cells #[.pointer none] 24)
 have kg := (Below.heap_alloc (w.alloc (.cells #[.int .i64 gl] 3)) (.cells #[.pointer none] 24) w.heap.size (by simp)).trans (Bas.heap_new w (.cells #[.int .i64 gl] 3))
 have ko := Bas.heap_new2 w (.cells #[.int .i64 gl] 3) (.cells #[.pointer none] 24);generalize ((w.alloc (.cells #[.int .i64 gl] 3)).alloc (.cells #[.pointer none] 24)) = W1 at *;refine (of_any a len cap W1).mono ?_;rintro e w2 ⟨rfl, hb2⟩;have hb02 := hb0.trans (hb2.mono hb0.size);have HB2 := Bas.hid hb02;have HW2 : Hid (w.heap.size + 1 < w2.heap.size) := Nat.lt_of_lt_of_le (heap_lt ko) hb2.size;have kg2 := (hb2.block _ (heap_lt kg)).trans kg;have ko2 := (hb2.block _ (heap_lt ko)).trans ko;have HG2 := Bas.hid kg2;have HO2 := Bas.hid ko2;have HBY := Bas.hid (bytes_any a len cap bs w2 hl hc (HV.out.below hb02) hbl hn);clear hb0 hb2 hb02 kg ko kg2 ko2;go_wp2_with (fail);refine HBY.out.mono ?_;rintro e w3 ⟨v3, rfl, ho3, hne3, hb3⟩;obtain ⟨a3, c3, rfl⟩ := own_slice ho3;have HO3 := Bas.hid ho3;have HB3 := Bas.hid (HB2.out.trans (hb3.mono HB2.out.size));have HG3 := Bas.hid ((hb3.block _ (heap_lt HG2.out)).trans HG2.out);have HO3o := Bas.hid ((hb3.block _ (heap_lt HO2.out)).trans HO2.out);rw [hbl] at HO3 ⊢;clear hb3 ho3 HBY HG2 HO2;go_wp2_with (fail);refine (of_any a3 len c3 w3).mono ?_;rintro e w4 ⟨rfl, hb4⟩;have HO4 := Bas.hid (Row.owned_below HO3.out hb4);have HB4 := Bas.hid (HB3.out.trans (hb4.mono HB3.out.size));have HG4 := Bas.hid ((hb4.block _ (heap_lt HG3.out)).trans HG3.out);have HOo4 := Bas.hid ((hb4.block _ (heap_lt HO3o.out)).trans HO3o.out);clear hb4 HO3 HB3 HG3 HO3o;go_wp2_with (fail);have hvb : VB w4 a3 bs := vb_own HO4.out HV.out.len HV.out.byte;have k5 := Bas.heap_new w4 (.cells #[.slice a3 len c3] 52);have hb5 := (Below.refl w4.heap.size w4).alloc (Nat.le_refl _) (.cells #[.slice a3 len c3] 52);have HB5 := Bas.hid (HB4.out.trans (hb5.mono HB4.out.size));have hw4 : w.heap.size + 1 < w4.heap.size := heap_lt HOo4.out;have kg5 := (hb5.block _ (heap_lt HG4.out)).trans HG4.out;have ko5 := (hb5.block _ (heap_lt HOo4.out)).trans HOo4.out;have HVB5 := Bas.hid (hvb.below hb5);have HO5 := Bas.hid (Row.owned_below HO4.out hb5);have hlc : len ≤ c3 ∧ c3 ≤ maxLen := by
  rcases Row.owned_parts HO4.out with ⟨h1, h2, _⟩ | ⟨_, _, h1, _, _, h2, h3, _⟩
  ·cases h1; omega
  ·cases h1; exact ⟨h2, h3⟩
 clear hvb;have hsz5 : (w4.alloc (.cells #[.slice a3 len c3] 52)).heap.size = w4.heap.size + 1 := World.size_alloc _ _;generalize (w4.alloc (.cells #[.slice a3 len c3] 52)) = W5 at *;have hb6 := (Below.refl W5.heap.size W5).alloc (Nat.le_refl _) (.cells #[.bool false] 4);have HC := Bas.hid (mread1_any a3 len c3 bs gl w4.heap.size w.heap.size (w.heap.size + 1) W5.heap.size (W5.alloc (.cells #[.bool false] 4)) hlc.1 hlc.2 (HVB5.out.below hb6) hbl hsmall hg1 (by omega)
  (cell_of_heap (i := 0) ((hb6.block _ (heap_lt k5)).trans k5) rfl) (cell_of_heap (i := 0) ((hb6.block _ (heap_lt kg5)).trans kg5) rfl) (cell_of_heap (i := 0) ((hb6.block _ (heap_lt ko5)).trans ko5) rfl) (free_of_heap (i := 0) ((hb6.block _ (heap_lt ko5)).trans ko5)) (by omega) (Bas.heap_new _ _))
 refine (try_any 38 _ W5 _ (HCF.out _) HC.out).mono ?_;rintro e w5 ⟨ok, w6, rfl, ⟨hg6, hok, hfz6, v, hcv, hm⟩, hlt6, hg5⟩;have hs6 := hg6.size;simp only [World.size_alloc] at hs6;have hs5 := hg5.size;have hcv5 : w5.cell? ⟨w.heap.size + 1, 0, none⟩ = some v := (Bas.gcell hg5 (by omega) (by simp; omega)).trans hcv
 have hfz5 : w5.frozen? ⟨w.heap.size + 1, 0, none⟩ = false := by
  rw [Bas.gfrozen hg5 (by omega) (by simp; omega)]
  exact hfz6
 have lo5 := World.block_lt_of_cell? _ _ hcv5;have HBF : Hid (Below w.heap.size w w5) := Bas.below_g (Bas.below_g (HB5.out.alloc HB5.out.size _) hg6 (by simp; omega) (by omega)) hg5 (by omega) (by omega)
 have HFIN : Hid (∀ T, morxParse bs gl = some T → (∃ p, v = .pointer p) ∧ ∀ x, Lives w.heap.size (fun u => MorxAt u v T) (w5.setCell ⟨w.heap.size + 1, 0, none⟩ x)) := fun T hT => by
  obtain ⟨h1, h2⟩ := hm T hT;refine ⟨h1, fun x u hu => ?_⟩
  have hag : ∀ k, w.heap.size ≤ k → k < w5.heap.size → k ≠ w.heap.size + 1 → u.heap[k]? = w5.heap[k]? := fun k q1 q2 q3 => (hu k q1 (by simpa [World.setCell] using q2)).trans (Below.heap_setCell _ _ _ _ (by exact q3))
  refine h2 u (fun k q1 q2 => ?_) ?_
  ·simp only [World.size_alloc] at q1;exact (hag k (by omega) (by omega) (by omega)).trans (hg5.block k q2 (by simp; omega))
  ·have ho := Row.owned_keep (w' := u) HO5.out fun k hk => by
    have hkb := Row.own_block HO4.out hk;have hk2 : k ≠ w.heap.size + 1 := fun e => by have := hkb.1; have := HW2.out; omega
    have hk3 := (Row.own_block HO5.out hk).2;refine (hag k (by have := hkb.1; have := HW2.out; omega) (by omega) hk2).trans ?_
    refine (hg5.block k (by omega) (by simp; omega)).trans ?_
    refine (hg6.block k (by simp; omega) (by simp; omega)).trans ?_
    exact Below.heap_alloc W5 _ _ hk3
   exact vb_own ho HV.out.len HV.out.byte
 clear hcv hfz6 hm hg6 hg5 HC hb6;cases hP : morxParse bs gl with
 | none =>
  rw [hP] at hok;subst hok;have HPP := Bas.hid hP;clear hP HFIN;go_wp2_with (fail);refine bodyPost_ret (v := .tuple #[.pointer none, .int .i64 2]) (by simp [results, Tryz.results20, go_sem, hcv5]) rfl ⟨HBF.out.setCell (by simp) _, ?_⟩
  rw [HPP.out]
 | some T =>
  rw [hP] at hok;subst hok;obtain ⟨⟨pp, rfl⟩, hfin⟩ := HFIN.out T hP;have HF2 := Bas.hid hfin;have HPP := Bas.hid hP;clear hP HFIN hfin;go_wp2_with (fail);refine bodyPost_ret (v := .tuple #[.pointer pp, .int .i64 0]) (by simp [results, Tryz.results20, go_sem, hcv5]) rfl ⟨HBF.out.setCell (by simp) _, ?_⟩
  rw [HPP.out];exact ⟨pp, rfl, HF2.out _⟩
theorem mplain1_any (K : Nat) (v : Value) (B : Nat) (gv : Value) (left : Int) (err : Int) (Q : World → Prop) (w : World) (hcf : ∀ args w, (callFunc K args).run Tryz.prog w = .ok (.enter K args) w)
  (hB : w.heap[B]? = some (.cells #[.func (.func K) #[v] #[]] 125 (0, 0)))
  (hrun : Calls Tryz.prog K #[v, gv] w fun e w' => e = .returned (.int .i64 err) ∧ Q w') :
  Calls Tryz.prog 76 #[gv, .int .i64 left, .pointer (some ⟨B, 0, none⟩)] w fun e w' => e = .returned (.tuple #[.int .i64 0, .int .i64 err]) ∧ Q w' := by
 have b0 := cell_of_heap (i := 0) hB rfl;have lB := heap_lt hB;have HR := Bas.hid hrun;clear hB hrun;go_enter Tryz.func76, Tryz.ntmps76
 go_wp2_with (fail);refine HR.out.mono ?_;rintro e w2 ⟨rfl, hq⟩;have HQ := Bas.hid hq;clear hq HR;go_wp2_with (fail)
 go_ret2
 exact ⟨rfl, HQ.out⟩
end Mx
namespace Pk
open Ch
def setC (s : Int × Int) : List Value := [.int .i64 s.1, .int .i64 s.2]
def cmpI (a b : Int) : Int := if a < b then -1 else if b < a then 1 else 0
def cmpP (x y : Int × Int) : Int := if cmpI x.1 y.1 = 0 then cmpI x.2 y.2 else cmpI x.1 y.1
set_option maxHeartbeats 1000000 in
theorem nan_any (a : Int) (w : World) : Calls Tryz.prog 132 #[.int .i64 a] w fun e w' => e = .returned (.bool false) ∧ w' = w := by
 go_enter Tryz.func132, Tryz.ntmps132
 go_wp2_with (fail);go_ret;exact ⟨rfl, rfl⟩
set_option maxHeartbeats 1000000 in
theorem cmpint_any (a b : Int) (w : World) : Calls Tryz.prog 99 #[.int .i64 a, .int .i64 b] w fun e w' => e = .returned (.int .i64 (cmpI a b)) ∧ w' = w := by
 by_cases h1 : a < b
 ·have hr : cmpI a b = -1 := by simp [cmpI, h1]
  rw [hr];have e1 : decide (a < b) = true := decide_eq_true h1;clear hr;go_enter Tryz.func99, Tryz.ntmps99
  go_wp2_with (fail);refine (nan_any a w).mono ?_;rintro e w' ⟨rfl, rfl⟩;go_wp2_with (fail);refine (nan_any b w').mono ?_;rintro e w' ⟨rfl, rfl⟩;go_wp2_with (fail);go_ret;exact ⟨rfl, rfl⟩
 ·by_cases h2 : b < a
  ·have hr : cmpI a b = 1 := by simp [cmpI, h1, h2]
   rw [hr];have e1 : decide (a < b) = false := decide_eq_false h1;have e2 : decide (b < a) = true := decide_eq_true h2;have e3 : decide (a > b) = true := decide_eq_true h2;clear hr;go_enter Tryz.func99, Tryz.ntmps99
   go_wp2_with (fail);refine (nan_any a w).mono ?_;rintro e w' ⟨rfl, rfl⟩;go_wp2_with (fail);refine (nan_any b w').mono ?_;rintro e w' ⟨rfl, rfl⟩;go_wp2_with (fail);go_ret;exact ⟨rfl, rfl⟩
  ·have hr : cmpI a b = 0 := by simp [cmpI, h1, h2]
   rw [hr];have e1 : decide (a < b) = false := decide_eq_false h1;have e2 : decide (b < a) = false := decide_eq_false h2;have e3 : decide (a > b) = false := decide_eq_false h2;clear hr;go_enter Tryz.func99, Tryz.ntmps99
   go_wp2_with (fail);refine (nan_any a w).mono ?_;rintro e w' ⟨rfl, rfl⟩;go_wp2_with (fail);refine (nan_any b w').mono ?_;rintro e w' ⟨rfl, rfl⟩;go_wp2_with (fail);go_ret;exact ⟨rfl, rfl⟩
set_option maxHeartbeats 1000000 in
theorem or_any (g : Nat) (p q : Int) (w : World) (h : w.heap[g]? = some (.cells #[.int .i64 p, .int .i64 q] 3 (0, 0))) :
  Calls Tryz.prog 98 #[.slice (some ⟨g, 0, none⟩) 2 2] w fun e w' => e = .returned (.int .i64 (if p = 0 then q else p)) ∧ w' = w := by
 have c0 := cell_of_heap (i := 0) (v := .int .i64 p) h rfl;have c1 := cell_of_heap (i := 1) (v := .int .i64 q) h rfl;by_cases hp : p = 0
 ·subst hp;rw [if_pos rfl];by_cases hq : q = 0
  ·subst hq;go_enter Tryz.func98, Tryz.ntmps98
   go_wp2_with (fail);refine wp_loop_rounds 3 ?_;rw [rounds_succ];go_wp2_with (fail);rw [rounds_succ];go_wp2_with (fail);rw [rounds_succ];go_wp2_with (fail);go_ret;exact ⟨rfl, rfl⟩
  ·have e2 : (q == 0) = false := by simpa using hq
   have e3 : decide (q = 0) = false := by simpa using hq
   have e4 : (q != 0) = true := by simpa using hq
   clear hq;go_enter Tryz.func98, Tryz.ntmps98
   go_wp2_with (fail);refine wp_loop_rounds 2 ?_;rw [rounds_succ];go_wp2_with (fail);rw [rounds_succ];go_wp2_with (fail);go_ret;exact ⟨rfl, rfl⟩
 ·rw [if_neg hp];have e2 : (p == 0) = false := by simpa using hp
  have e3 : decide (p = 0) = false := by simpa using hp
  have e4 : (p != 0) = true := by simpa using hp
  clear hp;go_enter Tryz.func98, Tryz.ntmps98
  go_wp2_with (fail);refine wp_loop_rounds 1 ?_;rw [rounds_succ];go_wp2_with (fail);go_ret;exact ⟨rfl, rfl⟩
set_option maxHeartbeats 4000000 in
theorem compare_any (x y : Int × Int) (w : World) :
  Calls Tryz.prog 69 #[.agg #[.int .i64 x.1, .int .i64 x.2], .agg #[.int .i64 y.1, .int .i64 y.2]] w fun e w' => e = .returned (.int .i64 (cmpP x y)) ∧ ∃ q os', w' = Go.Sort.grow (w.drewN q) os' := by
 obtain ⟨a, b⟩ := x;obtain ⟨c, d⟩ := y;simp only;obtain ⟨p, hp⟩ : ∃ p, cmpI a c = p := ⟨_, rfl⟩;obtain ⟨q, hq⟩ : ∃ q, cmpI b d = q := ⟨_, rfl⟩;have hr : cmpP (a, b) (c, d) = if p = 0 then q else p := by unfold cmpP; rw [hp, hq]
 rw [hr];obtain ⟨r, hrr⟩ : ∃ r, (if p = 0 then q else p) = r := ⟨_, rfl⟩
 have HC1 := Bas.hid (fun w => hp ▸ cmpint_any a c w)
 have HC2 := Bas.hid (fun w => hq ▸ cmpint_any b d w)
 have HR := Bas.hid hrr;rw [hrr];clear hp hq hr hrr;go_enter Tryz.func69, Tryz.ntmps69
 go_wp2_with (fail);have k2 := Bas.heap_new2 w (.cells #[.int .i64 a, .int .i64 b] 141) (.cells #[.int .i64 c, .int .i64 d] 141);have k1 : ((w.alloc (.cells #[.int .i64 a, .int .i64 b] 141)).alloc (.cells #[.int .i64 c, .int .i64 d] 141)).heap[w.heap.size]? = some (.cells #[.int .i64 a, .int .i64 b] 141 (0, 0)) := by
  rw [Below.heap_alloc _ _ _ (by simp)]; exact Bas.heap_new _ _
 have hWW : ∃ W : World, (w.alloc (.cells #[.int .i64 a, .int .i64 b] 141)).alloc (.cells #[.int .i64 c, .int .i64 d] 141) = W := ⟨_, rfl⟩;obtain ⟨W, hW⟩ := hWW;have HW := Bas.hid hW;rw [hW] at k1 k2 ⊢;clear hW;have a0 := cell_of_heap (i := 0) (v := .int .i64 a) k1 rfl;have a1 := cell_of_heap (i := 1) (v := .int .i64 b) k1 rfl;have b0 := cell_of_heap (i := 0) (v := .int .i64 c) k2 rfl;have b1 := cell_of_heap (i := 1) (v := .int .i64 d) k2 rfl;obtain ⟨F, hF⟩ : ∃ F : Unit → World, ∀ i, F i = W.drew := ⟨fun _ => W.drew, fun _ => rfl⟩
 have HF0 := Bas.hid (hF ()).symm;refine Pl.region_plan0 () [(true, 0), (true, 1), (true, 2), (true, 3), (true, 5), (true, 6), (true, 7), (true, 8), (false, 4), (false, 9), (false, 10), (false, 11), (false, 12)] [9, 10, 11, 12] (by kernel_rfl) (by kernel_rfl) (fun _ _ _ _ e h => ⟨e ▸ h.1, h.2⟩) HF0.out ?_
 refine Pl.head_sel0 [(true, 0), (true, 1), (true, 2), (true, 3), (true, 5), (true, 6), (true, 7), (true, 8)] (by kernel_rfl) (by kernel_rfl) ?_
 simp only [Pl.sel, List.drop_succ_cons, List.drop_zero];have x0 : ∀ i, (F i).cell? ⟨w.heap.size, 0, none⟩ = some (.int .i64 a) := fun i => by rw [hF i]; exact a0
 have x1 : ∀ i, (F i).cell? ⟨w.heap.size, 1, none⟩ = some (.int .i64 b) := fun i => by rw [hF i]; exact a1
 have y0 : ∀ i, (F i).cell? ⟨w.heap.size + 1, 0, none⟩ = some (.int .i64 c) := fun i => by rw [hF i]; exact b0
 have y1 : ∀ i, (F i).cell? ⟨w.heap.size + 1, 1, none⟩ = some (.int .i64 d) := fun i => by rw [hF i]; exact b1
 have HFE := Bas.hid hF;clear hF a0 a1 b0 b1 k1 k2;repeat (go_big_quiet_step (fail))
 refine wpQuiet_nil ?_;rw [← HF0.out];refine Pl.one_sel (by kernel_rfl) ?_
 intro Q' hQ' hP';simp only [Pl.sel, List.drop_succ_cons, List.drop_zero];clear x0 x1 y0 y1;go_wp2_with (fail);refine (HC1.out W.drew).mono ?_;rintro e w1 ⟨rfl, rfl⟩;go_wp2_with (fail);refine hQ' _ _ (fun _ _ => ⟨(), HF0.out⟩) ?_
 clear hQ' hP' Q';refine Pl.tail_sel [(false, 9), (false, 10), (false, 11), (false, 12)] (by kernel_rfl) (by kernel_rfl) ?_
 simp only [Pl.sel, List.drop_succ_cons, List.drop_zero];go_wp2_with (fail);refine (HC2.out W.drew).mono ?_;rintro e w1 ⟨rfl, rfl⟩;go_wp2_with (fail);refine (or_any W.heap.size p q ((W.alloc (.cells #[.int .i64 p, .int .i64 q] 3)).drew) (Bas.heap_new W (.cells #[.int .i64 p, .int .i64 q] 3))).mono ?_;rintro e w1 ⟨rfl, rfl⟩;rw [HR.out];go_wp2_with (fail);go_ret;refine ⟨rfl, 1, #[.cells #[.int .i64 a, .int .i64 b] 141, .cells #[.int .i64 c, .int .i64 d] 141, .cells #[.int .i64 p, .int .i64 q] 3], ?_⟩;rw [← HW.out];rw [Go.Sort.alloc_eq_grow, Go.Sort.alloc_eq_grow, Go.Sort.alloc_eq_grow, Go.Sort.grow_grow, Go.Sort.grow_grow];rfl
end Pk
end Go.Proofs.YtoncnjhhdlpliaaGreat
namespace Go.Proofs.YtoncnjhhdlpliaaGreat
open Go.RowKit Go.Shelf
namespace Pk
open Ch
def ltP (x y : Int × Int) : Bool := decide (x.1 < y.1 ∨ (x.1 = y.1 ∧ x.2 < y.2))
theorem cmpI_neg (a b : Int) : cmpI a b < 0 ↔ a < b := by
 unfold cmpI;by_cases h1 : a < b
 ·simp [h1]
 ·by_cases h2 : b < a <;> simp [h1, h2]
theorem cmpI_zero (a b : Int) : cmpI a b = 0 ↔ a = b := by
 unfold cmpI;by_cases h1 : a < b
 ·simp [h1]; omega
 ·by_cases h2 : b < a
  ·simp [h1, h2]; omega
  ·simp [h1, h2]; omega
theorem ltOf_eq (x y : Int × Int) : ltOf cmpP x y = ltP x y := by
 unfold ltOf ltP cmpP;rw [decide_eq_decide];by_cases h : cmpI x.1 y.1 = 0
 ·rw [if_pos h, cmpI_neg];have := (cmpI_zero _ _).1 h;omega
 ·rw [if_neg h, cmpI_neg];have : x.1 ≠ y.1 := fun e => h ((cmpI_zero _ _).2 e)
  omega
theorem setC_len (s : Int × Int) : (setC s).length = 2 := rfl
end Pk
end Go.Proofs.YtoncnjhhdlpliaaGreat
namespace Go.Proofs.YtoncnjhhdlpliaaGreat
open Go.RowKit
namespace Ft
open Vw Ch
structure FeatD where
 type : Int
 excl : Bool
 dflt : Int
 sets : List Int
end Ft
namespace Pk
open Ch Ft Go.Maps
theorem below_grow (w : World) (q : Nat) (os : Array Obj) : Below w.heap.size w (Go.Sort.grow (w.drewN q) os) :=
 ⟨rfl, rfl, rfl, by rw [Go.Sort.size_grow]; exact Nat.le_add_right _ _, fun k hk => Go.Sort.heap_grow_old (w.drewN q) os hk⟩
theorem compare_b (a b c d : Int) (w : World) : Calls Tryz.prog 69 #[.agg #[.int .i64 a, .int .i64 b], .agg #[.int .i64 c, .int .i64 d]] w fun e w' => e = .returned (.int .i64 (cmpP (a, b) (c, d))) ∧ Below w.heap.size w w' :=
 (compare_any (a, b) (c, d) w).mono fun _ _ ⟨h, q, os, hw⟩ => ⟨h, by rw [hw]; exact below_grow w q os⟩
theorem cmpP_neg (x y : Int × Int) : cmpP x y < 0 ↔ ltP x y = true := by
 have h := ltOf_eq x y;unfold ltOf at h;rw [← h]; simp
theorem cmpP_zero (x y : Int × Int) : cmpP x y = 0 ↔ x = y := by
 unfold cmpP;by_cases h : cmpI x.1 y.1 = 0
 ·rw [if_pos h, cmpI_zero];have := (cmpI_zero _ _).1 h;exact ⟨fun e => Prod.ext this e, fun e => by rw [e]⟩
 ·rw [if_neg h];refine ⟨fun e => absurd e h, fun e => absurd ((cmpI_zero _ _).2 (by rw [e])) h⟩
theorem ltP_trans {x y z : Int × Int} (h1 : ltP x y = true) (h2 : ltP y z = true) : ltP x z = true := by
 simp [ltP] at *; omega
def BsP (w : World) (T : Nat → Int × Int) (t : Int × Int) (n : Nat) (e : Ending) (w' : World) : Prop :=
 ∃ k, k ≤ n ∧ (∀ j, j < k → ltP (T j) t = true) ∧ (∀ j, k ≤ j → j < n → ltP (T j) t = false) ∧ e = .returned (.tuple #[.int .i64 (k : Nat), .bool (decide (k < n) && (cmpP (T k) t == 0))]) ∧ Below w.heap.size w w'
set_option maxRecDepth 100000 in
set_option maxHeartbeats 8000000 in
theorem bs_any (v : Value) (n : Nat) (T : Nat → Int × Int) (tt tv : Int) (w : World) (hn : n ≤ 100000) (hv : ∃ a c, v = .slice a n c) (hc : ∀ j, j < n → ∃ b o c, v = .slice (some ⟨b, o, none⟩) n c ∧ w.cell? ⟨b, o + j * 2, none⟩ = some (.int .i64 (T j).1) ∧ w.cell? ⟨b, o + j * 2 + 1, none⟩ = some (.int .i64 (T j).2))
  (hr : ∀ i j, i < j → j < n → ltP (T i) (T j) = true) :
  Calls Tryz.prog 100 #[v, .agg #[.int .i64 tt, .int .i64 tv], .func (.func 69) #[] #[]] w (BsP w T (tt, tv) n) := by
 have hcf : ∀ args w, (callFunc 69 args).run Tryz.prog w = .ok (.enter 69 args) w := fun args w => by simp [go_sem]
 have HC := Bas.hid hc;have HR := Bas.hid hr;obtain ⟨va, vc, rfl⟩ := hv;clear hc hr;go_enter Tryz.func100, Tryz.ntmps100
 go_wp2_with (fail);have k4 := Bas.heap_new w (.cells #[.int .i64 tt, .int .i64 tv] 141);have HB0 := Bas.hid ((Below.refl w.heap.size w).alloc (Nat.le_refl _) (.cells #[.int .i64 tt, .int .i64 tv] 141));generalize w.alloc (.cells #[.int .i64 tt, .int .i64 tv] 141) = W at *;obtain ⟨T4, hT4⟩ : ∃ T4, w.heap.size = T4 := ⟨_, rfl⟩;have HT4 := Bas.hid hT4;rw [hT4] at k4 ⊢;clear hT4;go_loopw [9, 10] (fun va vb wr => ∃ lo hi : Nat, lo ≤ hi ∧ hi ≤ n ∧ va = .int .i64 lo ∧ vb = .int .i64 hi ∧ (∀ j, j < lo → ltP (T j) (tt, tv) = true) ∧ (∀ j, hi ≤ j → j < n → ltP (T j) (tt, tv) = false) ∧ Below w.heap.size w wr ∧ wr.heap[T4]? = some (.cells #[.int .i64 tt, .int .i64 tv] 141 (0, 0))) (fun va vb _ => (intOf vb).toNat - (intOf va).toNat)
 case atStart => exact ⟨0, n, by omega, by omega, rfl, rfl, fun j h => by omega, fun j h h' => by omega, HB0.out, k4⟩
 case round =>
  obtain ⟨lo, hi, hlh, hhn, rfl, rfl, hA, hB, hb, k5⟩ := hrel;have HA := Bas.hid hA;have HBB := Bas.hid hB;have HB := Bas.hid hb;clear hA hB hb k4 HB0;have l5 := heap_lt k5;have d0 := cell_of_heap (i := 0) (v := .int .i64 tt) k5 rfl;have d1 := cell_of_heap (i := 1) (v := .int .i64 tv) k5 rfl;by_cases hlt : lo < hi
  ·have e1 : decide ((lo : Int) < (hi : Int)) = true := by simp; omega
   have e2 : decide (lo < hi) = true := by simp; omega
   obtain ⟨m, hm⟩ : ∃ m : Nat, (lo + hi) / 2 = m := ⟨_, rfl⟩;obtain ⟨b, o, c, hve, h0, h1⟩ := HC.out m (by omega)
   cases hve;have lb := World.block_lt_of_cell? _ _ h0;have c0 := (HB.out.cell (p := ⟨b, o + m * 2, none⟩) lb).trans h0;have c1 := (HB.out.cell (p := ⟨b, o + m * 2 + 1, none⟩) lb).trans h1;have lbr : b < wr.heap.size := Nat.lt_of_lt_of_le lb HB.out.size;have hmm : ((lo : Int) + (hi : Int)) / 2 = (m : Int) := by omega
   obtain ⟨cv, hcv⟩ : ∃ cv, cmpP (T m) (tt, tv) = cv := ⟨_, rfl⟩;have hneg := cmpP_neg (T m) (tt, tv);rw [hcv] at hneg;have HNEG := Bas.hid hneg;obtain ⟨p0, hp0⟩ : ∃ p0, (T m).1 = p0 := ⟨_, rfl⟩;obtain ⟨p1, hp1⟩ : ∃ p1, (T m).2 = p1 := ⟨_, rfl⟩;rw [hp0] at c0;rw [hp1] at c1;have hTm : T m = (p0, p1) := Prod.ext hp0 hp1;have HCMP := Bas.hid (fun w' => (show cmpP (p0, p1) (tt, tv) = cv by rw [← hTm]; exact hcv) ▸ compare_b p0 p1 tt tv w')
   clear h0 h1 hneg hcv hp0 hp1 hTm;go_wp2_with (fail);refine' Pl.region_v0 49 [] [0, 1, 2, 3, 4, 5, 6, 7] [] _ (by kernel_rfl) (by kernel_rfl) (by simp) (fun _ _ _ _ e h => ⟨e ▸ h.1, h.2⟩) ?_ ?_
   rotate_left
   ·intro I F hI hF;simp only [Pl.selN, List.nil_append, List.drop_succ_cons, List.drop_zero];have x0 := fun q => hF.cell lbr c0 q
    have x1 := fun q => hF.cell lbr c1 q
    have y0 := fun q => hF.cell l5 d0 q
    have y1 := fun q => hF.cell l5 d1 q
    repeat (go_big_quiet_step ((go_at_call 69; with_reducible exact hF.call (HCMP.out _))))
    refine wpQuiet_nil ?_;rfl
   intro u hu;simp only [Pl.selN];have HB2 := Bas.hid (HB.out.trans (hu.mono HB.out.size));have k6 := (hu.block _ l5).trans k5;clear hu c0 c1 d0 d1 HB k5 HCMP;by_cases hl : cv < 0
   ·have f1 : decide (cv < 0) = true := by simpa using hl
    rw [f1];have hlm := HNEG.out.1 hl;have HA2 : Hid (∀ j, j < m + 1 → ltP (T j) (tt, tv) = true) := fun j hj => by
     by_cases hjm : j = m
     ·subst hjm; exact hlm
     ·exact ltP_trans (HR.out j m (by omega) (by omega)) hlm
    clear hl hlm;go_wp2_with (fail);go_roundw
    case rel => exact ⟨m + 1, hi, by omega, hhn, by go_num, rfl, HA2.out, HBB.out, HB2.out, k6⟩
    case measure => simp [intOf]; omega
   ·have f1 : decide (cv < 0) = false := by simpa using hl
    rw [f1];have hlm : ltP (T m) (tt, tv) = false := by
     cases h : ltP (T m) (tt, tv) with
     | false => rfl
     | true => exact absurd (HNEG.out.2 h) hl
    have HB3 : Hid (∀ j, m ≤ j → j < n → ltP (T j) (tt, tv) = false) := fun j h1 h2 => by
     cases h : ltP (T j) (tt, tv) with
     | false => rfl
     | true =>
      by_cases hjm : m = j
      ·subst hjm; rw [h] at hlm; cases hlm
      ·have := ltP_trans (HR.out m j (by omega) h2) h
       rw [this] at hlm; cases hlm
    clear hl hlm;go_wp2_with (fail);go_roundw
    case rel => exact ⟨lo, m, by omega, by omega, rfl, by go_num, HA.out, HB3.out, HB2.out, k6⟩
    case measure => simp [intOf]; omega
  ·have hlh2 : lo = hi := by omega
   subst hlh2;clear hlt;by_cases hkn : lo < n
   ·have e1 : decide ((lo : Int) < (n : Int)) = true := by simp; omega
    have e2 : decide (lo < n) = true := by simp; omega
    obtain ⟨b, o, c, hve, h0, h1⟩ := HC.out lo hkn;cases hve;have lb := World.block_lt_of_cell? _ _ h0;have c0 := (HB.out.cell (p := ⟨b, o + lo * 2, none⟩) lb).trans h0;have c1 := (HB.out.cell (p := ⟨b, o + lo * 2 + 1, none⟩) lb).trans h1;have lbr : b < wr.heap.size := Nat.lt_of_lt_of_le lb HB.out.size;obtain ⟨cv, hcv⟩ : ∃ cv, cmpP (T lo) (tt, tv) = cv := ⟨_, rfl⟩;have HCV := Bas.hid hcv;obtain ⟨p0, hp0⟩ : ∃ p0, (T lo).1 = p0 := ⟨_, rfl⟩;obtain ⟨p1, hp1⟩ : ∃ p1, (T lo).2 = p1 := ⟨_, rfl⟩;rw [hp0] at c0;rw [hp1] at c1;have hTm : T lo = (p0, p1) := Prod.ext hp0 hp1;have HCMP := Bas.hid (fun w' => (show cmpP (p0, p1) (tt, tv) = cv by rw [← hTm]; exact hcv) ▸ compare_b p0 p1 tt tv w')
    clear h0 h1 hcv hp0 hp1 hTm;go_wp2_with (fail);refine' Pl.region_v0 49 [] [0, 1, 2, 3, 4, 5, 6, 7, 8, 9, 10, 11, 12, 13, 14] [15] _ (by kernel_rfl) (by kernel_rfl) (by simp) (fun _ _ _ _ e h => ⟨e ▸ h.1, h.2⟩) ?_ ?_
    rotate_left
    ·intro I F hI hF;simp only [Pl.selN, List.nil_append, List.drop_succ_cons, List.drop_zero];have x0 := fun q => hF.cell lbr c0 q
     have x1 := fun q => hF.cell lbr c1 q
     have y0 := fun q => hF.cell l5 d0 q
     have y1 := fun q => hF.cell l5 d1 q
     repeat (go_big_quiet_step ((go_at_call 69; with_reducible exact hF.call (HCMP.out _))))
     refine wpQuiet_nil ?_;rfl
    intro u hu;simp only [Pl.selN, List.drop_succ_cons, List.drop_zero];have HB2 := Bas.hid (HB.out.trans (hu.mono HB.out.size));have E2 := Bas.hid e2;clear hu c0 c1 d0 d1 HB k5 HCMP e1 e2;go_wp2_with (fail);refine bodyPost_ret (v := .tuple #[.int .i64 (lo : Nat), .bool (cv == 0)]) (by simp [results, Tryz.results100, go_sem]) rfl ⟨lo, hhn, HA.out, HBB.out, ?_, HB2.out⟩
    rw [E2.out, HCV.out];rfl
   ·have e1 : decide ((lo : Int) < (n : Int)) = false := by simp; omega
    have e2 : decide (lo < n) = false := by simp; omega
    have E2 := Bas.hid e2;go_wp2_with (fail);refine' Pl.region_v0 49 [] [0, 1, 2, 3, 4, 5, 6, 7, 8, 9, 10, 11, 12, 13, 14] [15] _ (by kernel_rfl) (by kernel_rfl) (by simp) (fun _ _ _ _ e h => ⟨e ▸ h.1, h.2⟩) ?_ ?_
    rotate_left
    ·intro I F hI hF;simp only [Pl.selN, List.nil_append, List.drop_succ_cons, List.drop_zero];repeat (go_big_quiet_step (fail))
     refine wpQuiet_nil ?_;rfl
    intro u hu;simp only [Pl.selN, List.drop_succ_cons, List.drop_zero];have HB2 := Bas.hid (HB.out.trans (hu.mono HB.out.size));clear hu;go_wp2_with (fail);refine bodyPost_ret (v := .tuple #[.int .i64 (lo : Nat), .bool false]) (by simp [results, Tryz.results100, go_sem]) rfl ⟨lo, hhn, HA.out, HBB.out, ?_, HB2.out⟩
    rw [E2.out];rfl
theorem bs_mem {xs : List (Int × Int)} (hs : xs.Pairwise (fun x y => ltP x y = true)) (s : Int × Int) (k : Nat) (h1 : ∀ j, j < k → ltP (xs.getD j (0, 0)) s = true) (h2 : ∀ j, k ≤ j → j < xs.length → ltP (xs.getD j (0, 0)) s = false) :
  (decide (k < xs.length) && (cmpP (xs.getD k (0, 0)) s == 0)) = decide (s ∈ xs) := by
 have hg : ∀ j, (hj : j < xs.length) → xs.getD j (0, 0) = xs[j] := fun j hj => by rw [List.getD_eq_getElem?_getD, List.getElem?_eq_getElem hj]; rfl
 have irr : ltP s s = false := by simp [ltP]
 rw [Bool.eq_iff_iff, Bool.and_eq_true, decide_eq_true_iff, decide_eq_true_iff, beq_iff_eq, cmpP_zero];constructor
 ·rintro ⟨hk, e⟩;rw [hg k hk] at e;rw [← e]; exact List.getElem_mem hk
 ·intro hm;obtain ⟨j, hj, e⟩ := List.mem_iff_getElem.1 hm;have e' := hg j hj;rw [e] at e';by_cases hjk : j < k
  ·have := h1 j hjk;rw [e', irr] at this; cases this
  ·by_cases hkj : k = j
   ·subst hkj; exact ⟨hj, e'⟩
   ·have h3 := h2 k (Nat.le_refl _) (by omega)
    have h4 := List.pairwise_iff_getElem.1 hs k j (by omega) hj (by omega)
    rw [hg k (by omega)] at h3
    rw [e] at h4;rw [h3] at h4; cases h4
set_option maxHeartbeats 4000000 in
theorem on_any (v : Value) (xs : List (Int × Int)) (t u : Int) (w : World) (hl : Row.Leads w v xs.length (xs.flatMap setC)) (hs : xs.Pairwise (fun x y => ltP x y = true)) (hn : xs.length ≤ 100000) :
  Calls Tryz.prog 70 #[v, .agg #[.int .i64 t, .int .i64 u]] w fun e w' => e = .returned (.bool (decide ((t, u) ∈ xs))) ∧ Below w.heap.size w w' := by
 have HB0 := Bas.hid ((Below.refl w.heap.size w).alloc (Nat.le_refl _) (.cells #[.int .i64 t, .int .i64 u] 141));have HBS : Hid (∀ w', Below w.heap.size w w' → Calls Tryz.prog 100 #[v, .agg #[.int .i64 t, .int .i64 u], .func (.func 69) #[] #[]] w' fun e w'' => ∃ k : Nat, e = .returned (.tuple #[.int .i64 (k : Nat), .bool (decide ((t, u) ∈ xs))]) ∧ Below w'.heap.size w' w'') := fun w' hb => by
  refine (bs_any v xs.length (fun j => xs.getD j (0, 0)) t u w' hn ?_ (fun j hj => ?_) (fun i j hij hj => ?_)).mono fun e w'' ⟨k, _, h1, h2, he, hb2⟩ => ⟨k, by rw [he, bs_mem hs (t, u) k h1 h2], hb2⟩
  ·exact Row.leads_slice hl
  ·have hx : xs[j]? = some (xs.getD j (0, 0)) := by rw [List.getD_eq_getElem?_getD, List.getElem?_eq_getElem hj]; rfl
   obtain ⟨b, o, c, hv, hcl⟩ := Row.leads_elem setC_len hl hx (by omega)
   have h0 := hcl 0 _ rfl;have h1 := hcl 1 _ rfl;exact ⟨b, o, c, hv, (hb.cell (p := ⟨b, o + j * 2, none⟩) (World.block_lt_of_cell? _ _ h0)).trans h0, (hb.cell (p := ⟨b, o + j * 2 + 1, none⟩) (World.block_lt_of_cell? _ _ h1)).trans h1⟩
  ·have := List.pairwise_iff_getElem.1 hs i j (by omega) hj hij
   rw [List.getD_eq_getElem?_getD, List.getElem?_eq_getElem (by omega), List.getD_eq_getElem?_getD, List.getElem?_eq_getElem hj]
   exact this
 obtain ⟨a, c, rfl⟩ := Row.leads_slice hl;generalize decide ((t, u) ∈ xs) = b at *;clear hl hs;go_enter Tryz.func70, Tryz.ntmps70
 go_wp2_with (fail);refine (HBS.out _ HB0.out).mono ?_;rintro e w2 ⟨k, rfl, hb2⟩;have HB2 := Bas.hid (HB0.out.trans (hb2.mono HB0.out.size));clear hb2 HBS HB0;go_wp2_with (fail);go_ret;exact ⟨rfl, HB2.out⟩
structure RuleD where
 ty : Int
 val : Int
 en : Int
 dis : Int
def ruC (r : RuleD) : List Value := [.int .i64 r.ty, .int .i64 r.val, .int .u32 r.en, .int .u32 r.dis]
theorem ruC_len (r : RuleD) : (ruC r).length = 4 := rfl
def stepF (f : Int) (r : RuleD) : Int := bits .or .u32 (bits .and .u32 f r.dis) r.en
def flagsL (on : Int × Int → Bool) (f : Int) (rules : List RuleD) : Int := rules.foldl (fun f r => if on (r.ty, r.val) then stepF f r else f) f
theorem flagsL_snoc (on : Int × Int → Bool) (f : Int) (rules : List RuleD) (r : RuleD) : flagsL on f (rules ++ [r]) = if on (r.ty, r.val) then stepF (flagsL on f rules) r else flagsL on f rules := by
 unfold flagsL; rw [List.foldl_append]; rfl
set_option maxRecDepth 100000 in
set_option maxHeartbeats 8000000 in
theorem flags_any (a : Option Addr) (len cap : Nat) (rules : List RuleD) (first : Int) (sv : Value) (xs : List (Int × Int)) (w : World) (hl : Row.Leads w (.slice a len cap) len (rules.flatMap ruC)) (hn : rules.length = len) (hlen : len ≤ 100000) (hs : Row.Leads w sv xs.length (xs.flatMap setC)) (hp : xs.Pairwise (fun x y => ltP x y = true)) (hxn : xs.length ≤ 100000) :
  Calls Tryz.prog 42 #[.int .u32 first, .slice a len cap, sv] w fun e w' => e = .returned (.int .u32 (flagsL (fun s => decide (s ∈ xs)) first rules)) ∧ Below w.heap.size w w' := by
 have HL := Bas.hid hl;have HN := Bas.hid hn;have HON := Bas.hid (fun (t u : Int) w' (hb : Below w.heap.size w w') => on_any sv xs t u w' (Row.leads_below hs hb) hp hxn)
 obtain ⟨sa, sc, rfl⟩ := Row.leads_slice hs;obtain ⟨on, hon⟩ : ∃ on : Int × Int → Bool, (fun s => decide (s ∈ xs)) = on := ⟨_, rfl⟩
 have hon2 : ∀ s, decide (s ∈ xs) = on s := fun s => congrFun hon s
 simp only [hon2] at HON;rw [hon];obtain ⟨r, hre⟩ : ∃ r, flagsL on first rules = r := ⟨_, rfl⟩;have HRE := Bas.hid hre;rw [hre];clear hl hn hs hp hon hon2 hre;go_enter Tryz.func42, Tryz.ntmps42
 go_wp2_with (fail);go_loopw [0, 11] (fun va vb wr => ∃ (i : Nat) (f : Int), i ≤ len ∧ va = .int .u32 f ∧ vb = .int .i64 i ∧ flagsL on first (rules.take i) = f ∧ Below w.heap.size w wr) (fun _ vb _ => len - (intOf vb).toNat)
 case atStart => exact ⟨0, first, Nat.zero_le _, rfl, rfl, rfl, Below.refl _ _⟩
 case round =>
  obtain ⟨i, f, hi, rfl, rfl, hf, hb⟩ := hrel;have HF := Bas.hid hf;have HB := Bas.hid hb;clear hf hb;by_cases hin : i < len
  ·have e1 : decide ((i : Int) < (len : Int)) = true := by simp; omega
   have e2 : decide (i < len) = true := by simp; omega
   obtain ⟨s, hs⟩ : ∃ s, rules[i]? = some s := ⟨_, List.getElem?_eq_getElem (by rw [HN.out]; exact hin)⟩
   have hTK : rules.take (i + 1) = rules.take i ++ [s] := by rw [List.take_add_one, hs]; rfl
   obtain ⟨x, y, en, dis⟩ := s;obtain ⟨B, Of, cp0, hv0, hcl⟩ := Row.leads_elem ruC_len HL.out hs (by omega)
   cases hv0;have h0 := hcl 0 _ rfl;have h1 := hcl 1 _ rfl;have h2 := hcl 2 _ rfl;have h3 := hcl 3 _ rfl;simp only [Nat.add_zero] at h0;have lb : B < w.heap.size := World.block_lt_of_cell? _ _ h0;have c0 := (HB.out.cell (p := ⟨B, Of + i * 4, none⟩) lb).trans h0;have c1 := (HB.out.cell (p := ⟨B, Of + i * 4 + 1, none⟩) lb).trans h1;have c2 := (HB.out.cell (p := ⟨B, Of + i * 4 + 2, none⟩) lb).trans h2;have c3 := (HB.out.cell (p := ⟨B, Of + i * 4 + 3, none⟩) lb).trans h3;have hsn := flagsL_snoc on first (rules.take i) ⟨x, y, en, dis⟩;rw [← hTK, HF.out] at hsn;simp only [stepF] at hsn;have HOX := Bas.hid (fun w' hb => HON.out x y w' hb)
   obtain ⟨ob, hob⟩ : ∃ ob, on (x, y) = ob := ⟨_, rfl⟩;rw [hob] at hsn HOX;clear hs hcl h0 h1 h2 h3 hTK hob;have HSN := Bas.hid hsn;clear hsn;go_wp2_with (fail);have k8 := Bas.heap_new wr (.cells #[.int .i64 x, .int .i64 y, .int .u32 en, .int .u32 dis] 147);have HB1 := Bas.hid (HB.out.alloc HB.out.size (.cells #[.int .i64 x, .int .i64 y, .int .u32 en, .int .u32 dis] 147));generalize wr.alloc (.cells #[.int .i64 x, .int .i64 y, .int .u32 en, .int .u32 dis] 147) = W1 at *;generalize wr.heap.size = T8 at *;clear c0 c1 c2 c3 HB;refine (HOX.out W1 HB1.out).mono ?_;rintro e w2 ⟨rfl, hb2⟩;have k9 := (hb2.block _ (heap_lt k8)).trans k8;have HB2 := Bas.hid (HB1.out.trans (hb2.mono HB1.out.size));clear hb2 HB1 k8;have q2 := cell_of_heap (i := 2) (v := .int .u32 en) k9 rfl;have q3 := cell_of_heap (i := 3) (v := .int .u32 dis) k9 rfl;cases ob with
   | false =>
    simp only [if_false, Bool.false_eq_true] at HSN;go_wp2_with (fail);go_roundw
    case rel => exact ⟨i + 1, f, by omega, rfl, by go_num, HSN.out, HB2.out⟩
    case measure => simp [intOf]; omega
   | true =>
    simp only [if_true] at HSN;go_wp2_with (fail);go_roundw
    case rel => exact ⟨i + 1, _, by omega, rfl, by go_num, HSN.out, HB2.out⟩
    case measure => simp [intOf]; omega
  ·have hin2 : i = len := by omega
   subst hin2;have hlt : rules.take i = rules := List.take_of_length_le (by rw [HN.out]; exact Nat.le_refl _)
   rw [hlt] at HF;clear hlt;go_wp2_with (fail);go_ret;exact ⟨by rw [← HRE.out, HF.out]; first | done | rfl, HB.out⟩
end Pk
namespace Mx
open Vw Ch Lk St Ln Dr
def ruOf (r : Ch.RuleD) : Pk.RuleD := ⟨r.type, r.value, r.enable, r.disable⟩
theorem rulesC_ru (l : List Ch.RuleD) : rulesC l = (l.map ruOf).flatMap Pk.ruC := by
 unfold rulesC;rw [List.flatMap_map];rfl
def flagsOf (T : List MChain) (xs : List (Int × Int)) : List Int := T.map fun c => Pk.flagsL (fun s => decide (s ∈ xs)) c.first (c.rules.map ruOf)
theorem infoU32 : (Tryz.prog.info? 27).map (fun i => (i.zero, i.size, i.bytes)) = some (some (.int .u32 0), 1, 4) := by kernel_rfl
set_option maxRecDepth 100000 in
set_option maxHeartbeats 8000000 in
theorem mflags_any (v sv : Value) (T : List MChain) (xs : List (Int × Int)) (w : World) (h : MorxAt w v T) (hr : ∀ c ∈ T, c.rules.length ≤ 100000) (hTn : T.length ≤ 100000) (hs : Row.Leads w sv xs.length (xs.flatMap Pk.setC)) (hp : xs.Pairwise (fun x y => Pk.ltP x y = true)) (hxn : xs.length ≤ 100000) :
  Calls Tryz.prog 24 #[v, sv] w fun e w' => Below w.heap.size w w' ∧ ∃ v', e = .returned v' ∧ w'.ownsRow w.heap.size 27 1 v' T.length ((flagsOf T xs).map (Value.int .u32)) := by
 obtain ⟨g, vl, rs, rfl, hg, hrl, hvl, hlk⟩ := h;obtain ⟨al, cl, rfl⟩ := Row.leads_slice hvl;obtain ⟨as', cs, rfl⟩ := Row.leads_slice hs;obtain ⟨n, hn⟩ : ∃ n, T.length = n := ⟨_, rfl⟩;have HN := Bas.hid hn;rw [hn] at hg hvl hTn ⊢;have HVL := Bas.hid hvl;have HLK := Bas.hid hlk;have HS := Bas.hid hs;have HRL := Bas.hid (hrl.trans hn);have g0 := cell_of_heap (i := 0) hg rfl;have lg := heap_lt hg;obtain ⟨sn, hsn⟩ : ∃ sn, xs.length = sn := ⟨_, rfl⟩;have HSN := Bas.hid hsn;rw [hsn] at hxn ⊢;clear hg hvl hlk hs hrl hn hsn;go_enter Tryz.func24, Tryz.ntmps24
 go_wp2_with (fail);go_loopw [5, 13] (fun v5 vi wr => ∃ i : Nat, i ≤ n ∧ vi = .int .i64 i ∧ Below w.heap.size w wr ∧ wr.ownsRow w.heap.size 27 1 v5 i (((flagsOf T xs).take i).map (Value.int .u32))) (fun _ vi _ => n - (intOf vi).toNat)
 case atStart => exact ⟨0, Nat.zero_le _, rfl, Below.refl _ _, Row.owned_nil _ _ _ _⟩
 case round =>
  obtain ⟨i, hi, rfl, hb, ho⟩ := hrel;have HB := Bas.hid hb;have HO := Bas.hid ho;obtain ⟨a5, c5, rfl⟩ := own_slice ho;by_cases hin : i < n
  ·have e1 : decide ((i : Int) < (n : Int)) = true := by simp; omega
   have e2 : decide (i < n) = true := by simp; omega
   obtain ⟨⟨first, rules, subs⟩, hc⟩ : ∃ c, T[i]? = some c := ⟨_, List.getElem?_eq_getElem (by rw [HN.out]; exact hin)⟩
   obtain ⟨⟨vr, vs⟩, hri⟩ : ∃ r, rs[i]? = some r := ⟨_, List.getElem?_eq_getElem (by rw [HRL.out]; exact hin)⟩
   obtain ⟨b, o, cp, hv, hcl⟩ := Row.leads_elem (x := ((⟨first, rules, subs⟩ : MChain), (vr, vs))) linkC_len (Row.leads_below HVL.out hb) (List.getElem?_zip_eq_some.2 ⟨hc, hri⟩) (by omega)
   cases hv;have d0 := hcl 0 _ rfl;have d1 := hcl 1 _ rfl;have d2 := hcl 2 _ rfl;simp only [Nat.add_zero] at d0 d1 d2;have lb := World.block_lt_of_cell? _ _ d0;obtain ⟨hrul, fvs, _, hsub, _⟩ := HLK.out i _ _ hc hri;simp only at hrul hsub;obtain ⟨ar, cr, rfl⟩ := Row.leads_slice hrul;obtain ⟨ab, cb, rfl⟩ := Row.leads_slice hsub;have hrb := hr _ (List.mem_of_getElem? hc);simp only at hrb;have HRU := Bas.hid hrul;obtain ⟨rl, hrl⟩ : ∃ rl, rules.length = rl := ⟨_, rfl⟩;have HRN := Bas.hid hrl;obtain ⟨sl, hsl⟩ : ∃ sl, subs.length = sl := ⟨_, rfl⟩;rw [hrl] at d1 hrb;rw [hsl] at d2;have HFX : Hid ((flagsOf T xs).take (i + 1) = (flagsOf T xs).take i ++ [Pk.flagsL (fun s => decide (s ∈ xs)) first (rules.map ruOf)]) := by
    unfold Hid flagsOf;rw [List.take_add_one, List.getElem?_map, hc]; rfl
   have hFL : ∀ w', Below wr.heap.size wr w' → Calls Tryz.prog 42 #[.int .u32 first, .slice ar rl cr, .slice as' sn cs] w' fun e w'' => e = .returned (.int .u32 (Pk.flagsL (fun s => decide (s ∈ xs)) first (rules.map ruOf))) ∧ Below w'.heap.size w' w'' := fun w' hw => by
    have h1 := Row.leads_below (Row.leads_below HRU.out HB.out) (hw.mono (Nat.le_refl _));have h2 := Row.leads_below (Row.leads_below HS.out HB.out) (hw.mono (Nat.le_refl _));rw [rulesC_ru, hrl] at h1;have hq := Pk.flags_any ar rl cr (rules.map ruOf) first (.slice as' xs.length cs) xs w' h1 (by rw [List.length_map]; exact hrl) hrb h2 hp (by rw [HSN.out]; exact hxn)
    rw [HSN.out] at hq;exact hq
   have HFLC := Bas.hid hFL;generalize Pk.flagsL (fun s => decide (s ∈ xs)) first (rules.map ruOf) = F at *
   have k7 := Bas.heap_new wr (.cells #[.int .u32 first, .slice ar rl cr, .slice ab sl cb] 83);have hb7 := (Below.refl wr.heap.size wr).alloc (Nat.le_refl _) (.cells #[.int .u32 first, .slice ar rl cr, .slice ab sl cb] 83);have HB7 := Bas.hid hb7;have q0 := cell_of_heap (i := 0) k7 rfl;have q1 := cell_of_heap (i := 1) k7 rfl;have l7 := heap_lt k7;clear hb ho hc hri hcl hrul hsub hrl hsl hFL hb7 k7;go_wp2_with (fail);generalize (wr.alloc (.cells #[.int .u32 first, .slice ar rl cr, .slice ab sl cb] 83)) = W7 at *;refine (HFLC.out W7 HB7.out).mono ?_;rintro e w8 ⟨rfl, hb8⟩;have HB8 := Bas.hid (HB7.out.trans (hb8.mono HB7.out.size));clear hb8 q0 q1 l7 d0 d1 d2 lb;go_wp2_with (at_builtin; refine Row.fence ?_);refine Row.unfence ?_;have HLD := Bas.hid (Row.leads_one w8 (.int .u32 F) 27);have hb9 := (Below.refl w8.heap.size w8).alloc (Nat.le_refl _) (.cells #[.int .u32 F] 27);have HB9 := Bas.hid (HB8.out.trans (hb9.mono HB8.out.size));have HO9 := Bas.hid (Row.owned_below HO.out HB9.out);have HW9 := Bas.hid (HB.out.trans (HB9.out.mono HB.out.size));clear hb9;generalize (w8.alloc (.cells #[.int .u32 F] 27)) = W9 at *;refine Row.append_any rfl _ _ 70 27 rfl (.int .u32 0) 1 4 Tryz.underlying70 infoU32 rfl (by decide) w.heap.size _ i _ rfl HO9.out (.slice (some ⟨w8.heap.size, 0, none⟩) 1 1) 1 [.int .u32 F] rfl HLD.out rfl (by simp; rfl) (by unfold maxLen; omega) (by omega) HW9.out.size ?_
   intro v10 w10 ho10 hg10 _;have HO10 : Hid (w10.ownsRow w.heap.size 27 1 v10 (i + 1) (((flagsOf T xs).take (i + 1)).map (Value.int .u32))) := by
    unfold Hid; rw [HFX.out, List.map_append]; exact ho10
   have HB10 := Bas.hid (HW9.out.grown hg10 HW9.out.size (fun k hk => (Row.own_block HO9.out hk).1))
   clear ho10 hg10;go_wp2_with (fail);go_roundw
   case rel => exact ⟨i + 1, by omega, by go_num, HB10.out, HO10.out⟩
   case measure => simp [intOf]; omega
  ·have e1 : decide ((i : Int) < (n : Int)) = false := by simp; omega
   have e2 : decide (i < n) = false := by simp; omega
   have e3 : ¬ (i : Int) < (n : Int) := by omega
   have HF : Hid (wr.ownsRow w.heap.size 27 1 (.slice a5 i c5) n ((flagsOf T xs).map (Value.int .u32))) := by
    have hin2 : i = n := by omega
    unfold Hid;rw [List.take_of_length_le (by unfold flagsOf; rw [List.length_map, HN.out]; omega)] at ho
    rw [← hin2]; exact ho
   clear hb ho;go_wp2_with (fail);go_ret;exact ⟨HB.out, _, rfl, HF.out⟩
set_option maxRecDepth 100000 in
theorem subrun_plain (cover flags : Int) (fv : Value) (gv : Value) (d left nput err : Int) (Q : World → Prop) (w : World) (ht : Cov.turnedM (Cov.bitB cover 30) (Cov.bitB cover 28) d = false)
  (fn : Nat) (fa fb : Array Value) (hfv : fv = .func (.func fn) fa fb) (hcf : ∀ args w, (callFunc fn args).run Tryz.prog w = .ok (.enter fn args) w)
  (hrun : ∀ w', Below w.heap.size w w' → Calls Tryz.prog fn (fa ++ (#[gv, .int .i64 left] ++ fb)) w' fun e w'' => e = .returned (.tuple #[.int .i64 nput, .int .i64 err]) ∧ Q w'') :
  Calls Tryz.prog 29 #[.agg #[.int .i64 (cover % 256), .bool (Cov.bitB cover 31), .bool (Cov.bitB cover 30), .bool (Cov.bitB cover 29), .bool (Cov.bitB cover 28), .int .u32 flags, fv], gv, .int .i64 d, .int .i64 left] w fun e w' => e = .returned (.tuple #[.int .i64 nput, .int .i64 err]) ∧ Q w' := by
 subst hfv;have HR := Bas.hid hrun;have hb1 := (Below.refl w.heap.size w).alloc (Nat.le_refl _) (.cells #[.int .i64 (cover % 256), .bool (Cov.bitB cover 31), .bool (Cov.bitB cover 30), .bool (Cov.bitB cover 29), .bool (Cov.bitB cover 28), .int .u32 flags, .func (.func fn) fa fb] 91);have k1 := Bas.heap_new w (.cells #[.int .i64 (cover % 256), .bool (Cov.bitB cover 31), .bool (Cov.bitB cover 30), .bool (Cov.bitB cover 29), .bool (Cov.bitB cover 28), .int .u32 flags, .func (.func fn) fa fb] 91);have HB1 := Bas.hid hb1;have HK1 := Bas.hid k1;have q0 := cell_of_heap (i := 0) k1 rfl;have q1 := cell_of_heap (i := 1) k1 rfl;have q2 := cell_of_heap (i := 2) k1 rfl;have q3 := cell_of_heap (i := 3) k1 rfl;have q4 := cell_of_heap (i := 4) k1 rfl;have lk := heap_lt k1;have HT := Bas.hid (fun w => Cov.mturned_any (cover % 256) (Cov.bitB cover 31) (Cov.bitB cover 30) (Cov.bitB cover 29) (Cov.bitB cover 28) d w)
 rw [ht] at HT;clear hb1 k1 hrun ht;go_enter Tryz.func29, Tryz.ntmps29
 go_wp2_with (fail);generalize (w.alloc (.cells #[.int .i64 (cover % 256), .bool (Cov.bitB cover 31), .bool (Cov.bitB cover 30), .bool (Cov.bitB cover 29), .bool (Cov.bitB cover 28), .int .u32 flags, .func (.func fn) fa fb] 91)) = W1 at *;refine (HT.out W1).mono ?_;rintro e w2 ⟨rfl, hb2⟩;have k2 := (hb2.block _ (heap_lt HK1.out)).trans HK1.out;have HB2 := Bas.hid (HB1.out.trans (hb2.mono HB1.out.size));have c6 := cell_of_heap (i := 6) k2 rfl;have l2 := heap_lt k2;clear hb2 k2 q0 q1 q2 q3 q4 lk HT;go_wp2_with (fail);refine (HR.out _ HB2.out).mono ?_;rintro e w3 ⟨rfl, hq⟩;have HQ := Bas.hid hq;clear hq;go_wp2_with (fail)
 go_ret2
 exact ⟨rfl, HQ.out⟩
theorem turnD_any (base g : Nat) (sv : Value) (xs : List Gl) (w : World) (h : LineAt w base g sv xs) (hn : xs.length ≤ 4294967296) :
  CallsD Tryz.prog 13 #[.pointer (some ⟨g, 0, none⟩)] .returning w fun e u w' => u = .returning ∧ e = .returned (.tuple #[]) ∧ LnTo w base g sv xs.reverse w' := by
 have HC := Bas.hid (reverse_any base sv xs xs.length w h.own rfl hn);have HH := Bas.hid h;obtain ⟨ad, cp, rfl⟩ := own_slice h.own;have g0 := cell_of_heap (i := 0) (v := .slice ad xs.length cp) h.head rfl;have lg := h.lt;clear h;refine callsD_of_wp (R := fun e w' => e = .returned (.tuple #[]) ∧ LnTo w base g _ xs.reverse w') Tryz.func13 rfl ?_
 simp only [Tryz.ntmps13];go_wp2_with (fail);refine HC.out.mono ?_;rintro e w2 ⟨rfl, ho, hg⟩;have HR := Bas.hid (lnTo_same HH.out (by rw [List.length_reverse]; exact ho) hg)
 clear ho hg HC;go_wp2_with (fail)
 go_end0
 exact ⟨rfl, HR.out⟩
set_option maxRecDepth 100000 in
theorem subrun_turned (cover flags : Int) (fv : Value) (gv : Value) (d left nput err : Int) (ys : List Gl) (w : World) (ht : Cov.turnedM (Cov.bitB cover 30) (Cov.bitB cover 28) d = true) (base g : Nat) (sv : Value) (xs : List Gl) (hL : LineAt w base g sv xs) (hg : gv = .pointer (some ⟨g, 0, none⟩)) (hlen : xs.length ≤ 1000000) (hylen : ys.length ≤ 4294967296)
  (fn : Nat) (fa fb : Array Value) (hfv : fv = .func (.func fn) fa fb) (hcf : ∀ args w, (callFunc fn args).run Tryz.prog w = .ok (.enter fn args) w)
  (hrun : ∀ w', LnTo w base g sv xs.reverse w' → Calls Tryz.prog fn (fa ++ (#[gv, .int .i64 left] ++ fb)) w' fun e w'' => e = .returned (.tuple #[.int .i64 nput, .int .i64 err]) ∧ LnTo w base g sv ys w'') :
  Calls Tryz.prog 29 #[.agg #[.int .i64 (cover % 256), .bool (Cov.bitB cover 31), .bool (Cov.bitB cover 30), .bool (Cov.bitB cover 29), .bool (Cov.bitB cover 28), .int .u32 flags, fv], gv, .int .i64 d, .int .i64 left] w fun e w' => e = .returned (.tuple #[.int .i64 nput, .int .i64 err]) ∧ LnTo w base g sv ys.reverse w' := by
 subst hfv hg;have HLL := Bas.hid hL;have HR := Bas.hid hrun;have hb1 := (Below.refl w.heap.size w).alloc (Nat.le_refl _) (.cells #[.int .i64 (cover % 256), .bool (Cov.bitB cover 31), .bool (Cov.bitB cover 30), .bool (Cov.bitB cover 29), .bool (Cov.bitB cover 28), .int .u32 flags, .func (.func fn) fa fb] 91);have k1 := Bas.heap_new w (.cells #[.int .i64 (cover % 256), .bool (Cov.bitB cover 31), .bool (Cov.bitB cover 30), .bool (Cov.bitB cover 29), .bool (Cov.bitB cover 28), .int .u32 flags, .func (.func fn) fa fb] 91);have HB1 := Bas.hid hb1;have HK1 := Bas.hid k1;have q0 := cell_of_heap (i := 0) k1 rfl;have q1 := cell_of_heap (i := 1) k1 rfl;have q2 := cell_of_heap (i := 2) k1 rfl;have q3 := cell_of_heap (i := 3) k1 rfl;have q4 := cell_of_heap (i := 4) k1 rfl;have lk := heap_lt k1;have HT := Bas.hid (fun w => Cov.mturned_any (cover % 256) (Cov.bitB cover 31) (Cov.bitB cover 30) (Cov.bitB cover 29) (Cov.bitB cover 28) d w)
 rw [ht] at HT;clear hb1 k1 hrun ht
 go_enter_defers Tryz.func29, Tryz.ntmps29
 go_wp2_with (fail);generalize (w.alloc (.cells #[.int .i64 (cover % 256), .bool (Cov.bitB cover 31), .bool (Cov.bitB cover 30), .bool (Cov.bitB cover 29), .bool (Cov.bitB cover 28), .int .u32 flags, .func (.func fn) fa fb] 91)) = W1 at *;refine (HT.out W1).mono ?_;rintro e w2 ⟨rfl, hb2⟩;have k2 := (hb2.block _ (heap_lt HK1.out)).trans HK1.out;have HB2 := Bas.hid (HB1.out.trans (hb2.mono HB1.out.size));have c6 := cell_of_heap (i := 6) k2 rfl;have l2 := heap_lt k2;have HK2 := Bas.hid k2;clear hb2 k2 q0 q1 q2 q3 q4 lk HT c6 l2;go_wp2_with (fail);refine (turn_any base g sv xs w2 (HLL.out.below HB2.out) (by omega)).mono ?_
 rintro e w3 ⟨rfl, hto⟩;have HTW := Bas.hid (LnTo.behind HB2.out hto);have k3 : w3.heap[w.heap.size]? = some (.cells #[.int .i64 (cover % 256), .bool (Cov.bitB cover 31), .bool (Cov.bitB cover 30), .bool (Cov.bitB cover 29), .bool (Cov.bitB cover 28), .int .u32 flags, .func (.func fn) fa fb] 91 (0, 0)) := by
  obtain ⟨_, _, hm, _⟩ := hto;exact hm.heap HK2.out (fun hk => by have := (HLL.out.blk_low _ hk).2; omega)
 have c6 := cell_of_heap (i := 6) k3 rfl;have l3 := heap_lt k3;clear hto k3;go_wp2_with (fail);refine (HR.out _ HTW.out).mono ?_;rintro e w4 ⟨rfl, hq⟩;have HQ := Bas.hid hq;clear hq;go_wp2_with (fail);refine leaves_cons (f := 13) (args := #[.pointer (some ⟨g, 0, none⟩)]) (by simp) (by simp [go_sem]) ?_
 obtain ⟨sv4, hl4, hm4, ho4⟩ := id HQ.out;refine (turnD_any base g sv4 ys w4 hl4 hylen).mono ?_;rintro e u' w5 ⟨rfl, rfl, hto⟩;exact ⟨.tuple #[.int .i64 nput, .int .i64 err], by simp [results, Tryz.results29, go_sem], rfl, LnTo.step HLL.out.lt hm4 ho4 hto⟩
abbrev WkF := WkD → Int → List Gl → List Gl × (Int × Int)
def asks (fl d : Int) (s : MSub) : Bool := !(bits .and .u32 fl s.flags == 0) && Cov.runsM (Cov.bitB s.cover 31) (Cov.bitB s.cover 29) d
def turnedOf (d : Int) (s : MSub) : Bool := Cov.turnedM (Cov.bitB s.cover 30) (Cov.bitB s.cover 28) d
def runSub (F : WkF) (d : Int) (s : MSub) (left : Int) (xs : List Gl) : List Gl × (Int × Int) :=
 match turnedOf d s with
 | true => ((F s.wk left xs.reverse).1.reverse, (F s.wk left xs.reverse).2)
 | false => F s.wk left xs
def subsRun (F : WkF) (fl d : Int) : List MSub → Nat → List Gl → Int → List Gl × Int × Option (Int × Nat)
 | [], _, xs, left => (xs, left, none)
 | s :: l, k, xs, left =>
  match asks fl d s with
  | false => subsRun F fl d l (k + 1) xs left
  | true =>
   if (runSub F d s left xs).2.2 = 0 then subsRun F fl d l (k + 1) (runSub F d s left xs).1 (wrap64 (left - (runSub F d s left xs).2.1))
   else ((runSub F d s left xs).1, wrap64 (left - (runSub F d s left xs).2.1), some ((runSub F d s left xs).2.2, k))
def chainsRun (F : WkF) (d : Int) : List (MChain × Int) → Nat → List Gl → Int → List Gl × Option (Int × Nat × Nat)
 | [], _, xs, _ => (cleanL xs, none)
 | (c, fl) :: l, i, xs, left =>
  match subsRun F fl d c.subs 0 xs left with
  | (ys, left', none) => chainsRun F d l (i + 1) ys left'
  | (ys, _, some (e, k)) => (ys, some (e, i, k))
def faultV : Option (Int × Nat × Nat) → Value
 | none => .agg #[.int .i64 0, .int .i64 0, .int .i64 0]
 | some (e, i, k) => .agg #[.int .i64 e, .int .i64 i, .int .i64 k]
def WkDoes (F : WkF) (Pre : List Gl → Int → Prop) (k : WkD) : Prop :=
 ∀ W0 fv, WorkAt W0 fv k → ∃ (fn : Nat) (fa fb : Array Value), fv = .func (.func fn) fa fb ∧ (∀ args w, (callFunc fn args).run Tryz.prog w = .ok (.enter fn args) w) ∧
  ∀ base g sv xs w left, Below W0.heap.size W0 w → W0.heap.size ≤ base → LineAt w base g sv xs → Pre xs left →
   Calls Tryz.prog fn (fa ++ (#[.pointer (some ⟨g, 0, none⟩), .int .i64 left] ++ fb)) w fun e w' => e = .returned (.tuple #[.int .i64 (F k left xs).2.1, .int .i64 (F k left xs).2.2]) ∧ LnTo w base g sv (F k left xs).1 w'
theorem drop_cons {α : Type} {l : List α} {i : Nat} {x : α} (h : l[i]? = some x) : l.drop i = x :: l.drop (i + 1) := by
 obtain ⟨hi, he⟩ := List.getElem?_eq_some_iff.1 h;rw [List.drop_eq_getElem_cons hi, he]
theorem subrun_any (F : WkF) (Pre : List Gl → Int → Prop) (hPn : ∀ xs left, Pre xs left → xs.length ≤ 1000000) (s : MSub) (d : Int) (fv : Value) (left : Int) (base g : Nat) (sv : Value) (xs : List Gl) (W0 w : World) (hk : WkDoes F Pre s.wk) (hw : WorkAt W0 fv s.wk)
  (hb0 : Below W0.heap.size W0 w) (hbase : W0.heap.size ≤ base) (hL : LineAt w base g sv xs) (hx : Pre xs left) (hr : Pre xs.reverse left) (hy : (runSub F d s left xs).1.length ≤ 4294967296) :
  Calls Tryz.prog 29 #[.agg #[.int .i64 (s.cover % 256), .bool (Cov.bitB s.cover 31), .bool (Cov.bitB s.cover 30), .bool (Cov.bitB s.cover 29), .bool (Cov.bitB s.cover 28), .int .u32 s.flags, fv], .pointer (some ⟨g, 0, none⟩), .int .i64 d, .int .i64 left] w
   fun e w' => e = .returned (.tuple #[.int .i64 (runSub F d s left xs).2.1, .int .i64 (runSub F d s left xs).2.2]) ∧ LnTo w base g sv (runSub F d s left xs).1 w' := by
 obtain ⟨fn, fa, fb, rfl, hcf, hrun⟩ := hk W0 fv hw;cases ht : turnedOf d s with
 | false =>
  have hR : runSub F d s left xs = F s.wk left xs := by unfold runSub; rw [ht]
  rw [hR];refine subrun_plain s.cover s.flags _ _ d left _ _ (fun w' => LnTo w base g sv (F s.wk left xs).1 w') w ht fn fa fb rfl hcf fun w' hb => ?_
  refine (hrun base g sv xs w' left (hb0.trans (hb.mono hb0.size)) hbase (hL.below hb) hx).mono ?_;rintro e w2 ⟨rfl, h2⟩;exact ⟨rfl, LnTo.behind hb h2⟩
 | true =>
  have hR : runSub F d s left xs = ((F s.wk left xs.reverse).1.reverse, (F s.wk left xs.reverse).2) := by unfold runSub; rw [ht]
  rw [hR] at hy ⊢;refine subrun_turned s.cover s.flags _ _ d left _ _ (F s.wk left xs.reverse).1 w ht base g sv xs hL rfl (hPn _ _ hx) (by simpa using hy) fn fa fb rfl hcf fun w' hto => ?_
  obtain ⟨sv2, h1, h2, h3⟩ := hto;have hlow := hL.low;refine (hrun base g sv2 xs.reverse w' left (h2.below hb0 (fun i hi => ?_) hb0.size) hbase h1 hr).mono ?_
  ·rcases hi with rfl | hi
   ·exact Nat.le_trans hbase (hL.blk_low _ (.inl rfl)).1
   ·exact Nat.le_trans hbase (hL.blk_low _ (.inr hi)).1
  rintro e w3 ⟨rfl, h4⟩;exact ⟨rfl, LnTo.step hL.lt h2 h3 h4⟩
def RunOk (F : WkF) (Pre : List Gl → Int → Prop) (d : Int) (T : List MChain) (fls : List Int) : Prop :=
 ∀ (i : Nat) (c : MChain) (fl : Int), T[i]? = some c → fls[i]? = some fl → ∀ s ∈ c.subs, asks fl d s = true →
  WkDoes F Pre s.wk ∧ ∀ xs left, Pre xs left → Pre xs.reverse left ∧ (runSub F d s left xs).1.length ≤ 4294967296 ∧ Pre (runSub F d s left xs).1 (wrap64 (left - (runSub F d s left xs).2.1))
theorem asks_false1 {fl d : Int} {s : MSub} (h : bits .and .u32 fl s.flags = 0) : asks fl d s = false := by unfold asks; rw [h]; rfl
theorem asks_false2 {fl d : Int} {s : MSub} (h : Cov.runsM (Cov.bitB s.cover 31) (Cov.bitB s.cover 29) d = false) : asks fl d s = false := by unfold asks; rw [h]; simp
theorem asks_true {fl d : Int} {s : MSub} (h1 : bits .and .u32 fl s.flags ≠ 0) (h : Cov.runsM (Cov.bitB s.cover 31) (Cov.bitB s.cover 29) d = true) : asks fl d s = true := by unfold asks; rw [h]; simpa using h1
theorem subsRun_no {F : WkF} {fl d : Int} {s : MSub} {l : List MSub} {k : Nat} {xs : List Gl} {left : Int} (h : asks fl d s = false) : subsRun F fl d (s :: l) k xs left = subsRun F fl d l (k + 1) xs left := by
 rw [subsRun, h]
theorem subsRun_yes {F : WkF} {fl d : Int} {s : MSub} {l : List MSub} {k : Nat} {xs : List Gl} {left : Int} (h : asks fl d s = true) : subsRun F fl d (s :: l) k xs left =
  if (runSub F d s left xs).2.2 = 0 then subsRun F fl d l (k + 1) (runSub F d s left xs).1 (wrap64 (left - (runSub F d s left xs).2.1))
   else ((runSub F d s left xs).1, wrap64 (left - (runSub F d s left xs).2.1), some ((runSub F d s left xs).2.2, k)) := by
 rw [subsRun, h]
theorem chainsRun_cons {F : WkF} {d : Int} {c : MChain} {fl : Int} {l : List (MChain × Int)} {i : Nat} {xs : List Gl} {left : Int} : chainsRun F d ((c, fl) :: l) i xs left =
  match subsRun F fl d c.subs 0 xs left with
  | (ys, left', none) => chainsRun F d l (i + 1) ys left'
  | (ys, _, some (e, k)) => (ys, some (e, i, k)) := by
 rw [chainsRun] <;> rfl
theorem lnTo_on {w w1 w2 : World} {base g : Nat} {sv : Value} {ys : List Gl} (h : LnTo w base g sv ys w1) (hb : Below w1.heap.size w1 w2) : LnTo w base g sv ys w2 := by
 obtain ⟨sv', h1, h2, h3⟩ := h;exact ⟨sv', h1.below hb, h2.on hb, h3⟩
theorem lnTo_block {w w1 : World} {base g : Nat} {sv : Value} {ys : List Gl} (h : LnTo w base g sv ys w1) {k : Nat} (hk : k < w.heap.size) (hn : ¬ blk g sv k) : w1.heap[k]? = w.heap[k]? := by
 obtain ⟨_, _, h2, _⟩ := h;exact h2.block k hk hn
theorem work_func {u : World} {fv : Value} {wk : WkD} (h : WorkAt u fv wk) : ∃ fn fa fb, fv = .func (.func fn) fa fb := by
 cases wk with
 | rear M => obtain ⟨_, ⟨_, h1, _⟩, _⟩ := h; exact ⟨_, _, _, h1⟩
 | ctx M => obtain ⟨_, ⟨_, h1, _⟩, _⟩ := h; exact ⟨_, _, _, h1⟩
 | lig M => obtain ⟨_, ⟨_, h1, _⟩, _⟩ := h; exact ⟨_, _, _, h1⟩
 | swap M => obtain ⟨_, ⟨_, h1, _⟩, _⟩ := h; exact ⟨_, _, _, h1⟩
 | ins M => obtain ⟨_, h1, _⟩ := h; exact ⟨_, _, _, h1⟩
 | none => obtain ⟨_, h1, _⟩ := h; exact ⟨_, _, _, h1⟩
theorem lnTo_box {w w3 w1 w2 : World} {base g FT : Nat} {sv : Value} {ys : List Gl} (hbw : Below w.heap.size w w3) (hsv : ∀ k, blk g sv k → k < FT) (hFT0 : w.heap.size ≤ FT) (hFT : FT < w3.heap.size) (h : LnTo w3 base g sv ys w1) (hm : Mod (fun k => k = FT) w1 w2) : LnTo w base g sv ys w2 := by
 obtain ⟨sv', h1, h2, h3⟩ := h;refine ⟨sv', h1.mod hm (fun k hk e => ?_), ((Mod.of_below (S := blk g sv) hbw).trans h2 (fun _ h _ => h)).trans hm (fun k hk hlt => by omega), fun k hk => (h3 k hk).imp id (Nat.le_trans hbw.size)⟩
 subst e;rcases hk with hk | hk
 ·have := hsv k (.inl hk); omega
 ·rcases h3 k hk with h | h
  ·have := hsv k (.inr h); omega
  ·omega
theorem results_cell1 {fn : Func} {p : Tmp} {ty : TypeId} (h : fn.results = #[.cell p ty]) (tmps : Array Value) (P : Program) (w : World) :
  (results fn tmps).run P w = ((asAddr (tmps.getD p undef)).run P w).andThen fun a w1 => ((loadVar ty a).run P w1).andThen fun v w2 => .ok v w2 := by
 simp only [results, h];simp [Sem.run_bind, Result.andThen];cases Sem.run P (asAddr (tmps[p]?.getD undef)) w with
 | ok a w => simp only; cases Sem.run P (loadVar ty a) w <;> rfl
 | halt h w => rfl
theorem setF {w : World} {b : Nat} {t : TypeId} {x0 x1 x2 : Value} (h : w.heap[b]? = some (.cells #[x0, x1, x2] t (0, 0))) (v0 v1 v2 : Value) : (((w.setCell ⟨b, 0, none⟩ v0).setCell ⟨b, 1, none⟩ v1).setCell ⟨b, 2, none⟩ v2).heap[b]? = some (.cells #[v0, v1, v2] t (0, 0)) := by
 have h1 := heap_set (i := 0) h v0;have h2 := heap_set (i := 1) h1 v1;have h3 := heap_set (i := 2) h2 v2;exact h3
theorem flagsOf_len (T : List MChain) (xs : List (Int × Int)) : (flagsOf T xs).length = T.length := by unfold flagsOf; rw [List.length_map]
set_option maxRecDepth 100000 in
set_option maxHeartbeats 16000000 in
theorem mrun_any (F : WkF) (Pre : List Gl → Int → Prop) (hPn : ∀ xs left, Pre xs left → xs.length ≤ 1000000) (v stv : Value) (T : List MChain) (ons : List (Int × Int)) (d left0 : Int) (base g : Nat) (sv : Value) (xs0 : List Gl) (W0 w : World)
  (h : MorxAt W0 v T) (hr : ∀ c ∈ T, c.rules.length ≤ 100000) (hTn : T.length ≤ 100000) (hsb : ∀ c ∈ T, c.subs.length ≤ 1000000) (hs : Row.Leads w stv ons.length (ons.flatMap Pk.setC)) (hp : ons.Pairwise (fun x y => Pk.ltP x y = true)) (hxn : ons.length ≤ 100000)
  (hb0 : Below W0.heap.size W0 w) (hbase : W0.heap.size ≤ base) (hL : LineAt w base g sv xs0) (hx : Pre xs0 left0) (hok : RunOk F Pre d T (flagsOf T ons)) :
  Calls Tryz.prog 10 #[v, .pointer (some ⟨g, 0, none⟩), stv, .int .i64 d, .int .i64 left0] w
   fun e w' => e = .returned (faultV (chainsRun F d (T.zip (flagsOf T ons)) 0 xs0 left0).2) ∧ LnTo w base g sv (chainsRun F d (T.zip (flagsOf T ons)) 0 xs0 left0).1 w' := by
 obtain ⟨r, hR⟩ : ∃ r, chainsRun F d (T.zip (flagsOf T ons)) 0 xs0 left0 = r := ⟨_, rfl⟩;obtain ⟨n, hn⟩ : ∃ n, T.length = n := ⟨_, rfl⟩;have HN := Bas.hid hn;have HR := Bas.hid hR;rw [hR];have kF := Bas.heap_new w (.cells #[.int .i64 0, .int .i64 0, .int .i64 0] 36);have hbF := (Below.refl w.heap.size w).alloc (Nat.le_refl _) (.cells #[.int .i64 0, .int .i64 0, .int .i64 0] 36);have HKF := Bas.hid kF;have HBF := Bas.hid hbF;have HFL := Bas.hid (mflags_any v stv T ons (w.alloc (.cells #[.int .i64 0, .int .i64 0, .int .i64 0] 36)) ((h.below hb0).below hbF) hr hTn (Row.leads_below hs hbF) hp hxn);obtain ⟨gt, vl, rs, rfl, hg, hrl, hvl, hlk⟩ := h;have g0 := cell_of_heap (i := 0) (v := vl) hg rfl;have lg := heap_lt hg;obtain ⟨al, cl, rfl⟩ := Row.leads_slice hvl;obtain ⟨as', cs, rfl⟩ := Row.leads_slice hs;have HVL := Bas.hid hvl;have HLK := Bas.hid hlk;have HRL := Bas.hid (hrl.trans hn);have HG := Bas.hid hg;have HLL := Bas.hid hL;have HOK := Bas.hid hok;have HX := Bas.hid hx;have HB0 := Bas.hid hb0;have HSB := Bas.hid hsb;have hTn2 : n ≤ 100000 := by omega
 obtain ⟨fls, hfls⟩ : ∃ fls, flagsOf T ons = fls := ⟨_, rfl⟩;have HFN : Hid (fls.length = n) := by unfold Hid; rw [← hfls, flagsOf_len, hn]
 rw [hfls] at HFL HR HOK;obtain ⟨FT, hFT⟩ : ∃ FT, w.heap.size = FT := ⟨_, rfl⟩;have HFT := Bas.hid hFT;have hszF : (w.alloc (.cells #[.int .i64 0, .int .i64 0, .int .i64 0] 36)).heap.size = FT + 1 := by rw [World.size_alloc, hFT]
 rw [hszF, hn] at HFL;rw [hFT] at HKF HBF;clear hr hs hn hb0 hL hx hok hR kF hbF hg hrl hvl hlk hfls hTn g0 lg hsb hp;go_enter Tryz.func10, Tryz.ntmps10
 go_wp2_with (fail);generalize (w.alloc (.cells #[.int .i64 0, .int .i64 0, .int .i64 0] 36)) = W1 at *;refine HFL.out.mono ?_;rintro e w3 ⟨hb3, v5, rfl, ho5⟩;have HB3 := Bas.hid (HBF.out.trans (hb3.mono (by omega)))
 have HKF3 := Bas.hid ((hb3.block _ (by omega)).trans HKF.out)
 have HO5 := Bas.hid ho5;obtain ⟨a5, c5, rfl⟩ := own_slice ho5;have hL3 := HLL.out.below (HFT.out.symm ▸ HB3.out);have HL3 := Bas.hid (LnTo.refl hL3);have HG3 : Hid (g < w3.heap.size) := hL3.lt;have hTB : ∀ i, blk g sv i → i < FT := fun i hi => by have := (HLL.out.blk_low i hi).2; rw [HFT.out] at this; exact this
 have HTB := Bas.hid hTB;have HBW3 : Hid (Below W0.heap.size W0 w3) := HB0.out.trans ((HFT.out.symm ▸ HB3.out : Below w.heap.size w w3).mono HB0.out.size);have HBLO : Hid (∀ i, blk g sv i → W0.heap.size ≤ i) := fun i hi => Nat.le_trans hbase (HLL.out.blk_low i hi).1
 have hW3 := HBW3.out.block _ (heap_lt HG.out);have g0 := cell_of_heap (i := 0) (v := .slice al T.length cl) (hW3.trans HG.out) rfl;have lg := heap_lt (hW3.trans HG.out);rw [HN.out] at g0;clear hb3 ho5 hL3 hTB hW3 hszF hFT HFL;go_wp2_with (fail);have HFR : Hid (∀ wr ys, LnTo w3 base g sv ys wr → Below W0.heap.size W0 wr ∧ wr.heap[FT]? = some (.cells #[.int .i64 0, .int .i64 0, .int .i64 0] 36 (0, 0)) ∧ wr.ownsRow (FT + 1) 27 1 (.slice a5 n c5) n (fls.map (Value.int .u32))) := fun wr ys hl => by
  obtain ⟨sv', h1, h2, h3⟩ := hl;exact ⟨h2.below HBW3.out HBLO.out HBW3.out.size, h2.heap HKF3.out (fun hk => by have := HTB.out _ hk; omega), h2.owned HO5.out (fun k hk hs => by have := HTB.out _ hs; have := (Row.own_block HO5.out hk).1; omega)⟩
 clear g0 lg;go_loopw [4, 26] (fun v4 vi wr => ∃ (i : Nat) (xs : List Gl) (left : Int), i ≤ n ∧ vi = .int .i64 i ∧ v4 = .int .i64 left ∧ LnTo w3 base g sv xs wr ∧ Pre xs left ∧ chainsRun F d ((T.zip fls).drop i) i xs left = r) (fun _ vi _ => n - (intOf vi).toNat)
 case atStart => exact ⟨0, xs0, left0, Nat.zero_le _, rfl, rfl, HL3.out, HX.out, HR.out⟩
 case round =>
  obtain ⟨i, xs, left, hi, rfl, rfl, hl, hpre, hrun⟩ := hrel;have HLN := Bas.hid hl;have HPRE := Bas.hid hpre;have HRUN := Bas.hid hrun;obtain ⟨hbw, hkf, ho⟩ := HFR.out wr xs hl;have HBWR := Bas.hid hbw;by_cases hin : i < n
  ·have e1 : decide ((i : Int) < (n : Int)) = true := by simp; omega
   have e2 : decide (i < n) = true := by simp; omega
   obtain ⟨⟨first, rules, subs⟩, hc⟩ : ∃ c, T[i]? = some c := ⟨_, List.getElem?_eq_getElem (by rw [HN.out]; exact hin)⟩
   obtain ⟨⟨vr, vs⟩, hri⟩ : ∃ r, rs[i]? = some r := ⟨_, List.getElem?_eq_getElem (by rw [HRL.out]; exact hin)⟩
   obtain ⟨fl, hfl⟩ : ∃ f, fls[i]? = some f := ⟨_, List.getElem?_eq_getElem (by rw [HFN.out]; exact hin)⟩
   have HOKi := Bas.hid (HOK.out i _ fl hc hfl);have hzip : (T.zip fls)[i]? = some ((⟨first, rules, subs⟩ : MChain), fl) := List.getElem?_zip_eq_some.2 ⟨hc, hfl⟩;rw [drop_cons hzip, chainsRun_cons] at hrun;have HRUN1 := Bas.hid hrun;obtain ⟨b, o, cp, hv, hcl⟩ := Row.leads_elem (x := ((⟨first, rules, subs⟩ : MChain), (vr, vs))) linkC_len (Row.leads_below HVL.out hbw) (List.getElem?_zip_eq_some.2 ⟨hc, hri⟩) (by omega)
   rw [HN.out] at hv;cases hv;have d0 := hcl 0 _ rfl;have d1 := hcl 1 _ rfl;have d2 := hcl 2 _ rfl;simp only [Nat.add_zero] at d0 d1 d2;have lb := World.block_lt_of_cell? _ _ d0;have hsbi := HSB.out _ (List.mem_of_getElem? hc);obtain ⟨hrul, fvs, hfvl, hsub, hwk⟩ := HLK.out i _ _ hc hri;simp only at hrul hsub hfvl hwk hsbi;obtain ⟨ar, cr, rfl⟩ := Row.leads_slice hrul;generalize rules.length = rl at *;obtain ⟨ab, cb, rfl⟩ := Row.leads_slice hsub;have HSUB := Bas.hid hsub;have HWK := Bas.hid hwk;obtain ⟨m, hm⟩ : ∃ m, subs.length = m := ⟨_, rfl⟩;have HM := Bas.hid hm;have HFV := Bas.hid (hfvl.trans hm);rw [hm] at d2 hsbi
   -- the flags' cell
   obtain ⟨bf, of', cf, hvf, hcf⟩ := Row.leads_elem (f := fun x : Int => [Value.int .u32 x]) (m := 1) (x := fl) (fun _ => rfl) (by rw [← List.map_eq_flatMap]; exact Row.leads_owned ho) hfl (by omega)
   cases hvf;have hFC : ∀ wr ys, LnTo w3 base g sv ys wr → wr.cell? ⟨bf, of' + i, none⟩ = some (.int .u32 fl) := fun wr ys hl => by
    obtain ⟨b2, o2, c2, hv2, hc2⟩ := Row.leads_elem (f := fun x : Int => [Value.int .u32 x]) (m := 1) (x := fl) (fun _ => rfl) (by rw [← List.map_eq_flatMap]; exact Row.leads_owned (HFR.out wr ys hl).2.2) hfl (by omega)
    cases hv2;have := hc2 0 _ rfl;simpa using this
   have HFC := Bas.hid hFC;have k7 := Bas.heap_new wr (.cells #[.int .u32 first, .slice ar rl cr, .slice ab m cb] 83);have hb7 := (Below.refl wr.heap.size wr).alloc (Nat.le_refl _) (.cells #[.int .u32 first, .slice ar rl cr, .slice ab m cb] 83);have HL7 := Bas.hid (lnTo_on HLN.out hb7);have q2 := cell_of_heap (i := 2) k7 rfl;have l7 := heap_lt k7;clear hrul hl hpre hrun hbw hkf ho hc hri hcl hsub hwk hm hfvl hcf hFC hfl hzip hb7;go_wp2_with (fail);generalize (wr.alloc (.cells #[.int .u32 first, .slice ar rl cr, .slice ab m cb] 83)) = W7 at *;clear q2 l7 d0 d1 d2 lb k7;go_loopw [4, 34] (fun v4 vj wq => ∃ (j : Nat) (ys : List Gl) (lf : Int), j ≤ m ∧ vj = .int .i64 j ∧ v4 = .int .i64 lf ∧ LnTo w3 base g sv ys wq ∧ Pre ys lf ∧ (match subsRun F fl d (subs.drop j) j ys lf with
    | (zs, left', none) => chainsRun F d ((T.zip fls).drop (i + 1)) (i + 1) zs left'
    | (zs, _, some (e, k)) => (zs, some (e, i, k))) = r) (fun _ vj _ => m - (intOf vj).toNat)
   case atStart => exact ⟨0, xs, left, Nat.zero_le _, rfl, rfl, HL7.out, HPRE.out, HRUN1.out⟩
   case round =>
    obtain ⟨j, ys, lf, hj, rfl, rfl, hl, hpre, hrun⟩ := hrel;have HLQ := Bas.hid hl;have HPQ := Bas.hid hpre;have HRQ := Bas.hid hrun;obtain ⟨hbw, hkf, ho⟩ := HFR.out wr ys hl;have HBQ := Bas.hid hbw;by_cases hjm : j < m
    ·have e3 : decide ((j : Int) < (m : Int)) = true := by simp; omega
     obtain ⟨⟨cover, sfl, wk⟩, hsj⟩ : ∃ x, subs[j]? = some x := ⟨_, List.getElem?_eq_getElem (by rw [HM.out]; exact hjm)⟩
     obtain ⟨fv, hfj⟩ : ∃ x, fvs[j]? = some x := ⟨_, List.getElem?_eq_getElem (by rw [HFV.out]; exact hjm)⟩
     obtain ⟨fn, fa, fb, hfv⟩ := work_func (HWK.out j _ fv hsj hfj);have hfv2 : fv = .func (.func fn) fa fb := hfv;subst hfv2;have HWKj := Bas.hid (HWK.out j _ _ hsj hfj);clear hfv;rw [drop_cons hsj] at hrun;have HRJ := Bas.hid hrun;have HOKj := Bas.hid (HOKi.out _ (List.mem_of_getElem? hsj));obtain ⟨b, o, cp, hv, hcl⟩ := Row.leads_elem (x := ((⟨cover, sfl, wk⟩ : MSub), .func (.func fn) fa fb)) mSubC_len (Row.leads_below HSUB.out hbw) (List.getElem?_zip_eq_some.2 ⟨hsj, hfj⟩) (by omega)
     rw [HM.out] at hv;cases hv;have d0 := hcl 0 _ rfl;have d1 := hcl 1 _ rfl;have d2 := hcl 2 _ rfl;have d3 := hcl 3 _ rfl;have d4 := hcl 4 _ rfl;have d5 := hcl 5 _ rfl;have d6 := hcl 6 _ rfl;simp only [Nat.add_zero] at d0 d1 d2 d3 d4 d5 d6;have lb := World.block_lt_of_cell? _ _ d0;have kS := Bas.heap_new wr (.cells #[.int .i64 (cover % 256), .bool (Cov.bitB cover 31), .bool (Cov.bitB cover 30), .bool (Cov.bitB cover 29), .bool (Cov.bitB cover 28), .int .u32 sfl, .func (.func fn) fa fb] 91);have hbS := (Below.refl wr.heap.size wr).alloc (Nat.le_refl _) (.cells #[.int .i64 (cover % 256), .bool (Cov.bitB cover 31), .bool (Cov.bitB cover 30), .bool (Cov.bitB cover 29), .bool (Cov.bitB cover 28), .int .u32 sfl, .func (.func fn) fa fb] 91);have HLS := Bas.hid (lnTo_on HLQ.out hbS);have HBS := Bas.hid (HBQ.out.trans (hbS.mono HBQ.out.size));have HKS := Bas.hid kS;clear hl hpre hrun hbw hkf ho hcl hsj hfj hbS kS;go_wp2_with (fail);generalize (wr.alloc (.cells #[.int .i64 (cover % 256), .bool (Cov.bitB cover 31), .bool (Cov.bitB cover 30), .bool (Cov.bitB cover 29), .bool (Cov.bitB cover 28), .int .u32 sfl, .func (.func fn) fa fb] 91)) = WS at *;obtain ⟨TS, hTS⟩ : ∃ TS, wr.heap.size = TS := ⟨_, rfl⟩;rw [hTS] at HKS ⊢;clear hTS d0 d1 d2 d3 d4 d5 d6 lb;have hfc := HFC.out WS ys HLS.out;obtain ⟨RI, RF, Ri, RF0, RFk, RFw⟩ := Pl.fam_of WS (fun u => u.cell? ⟨bf, of' + i, none⟩ = some (.int .u32 fl) ∧ u.heap[TS]? = some (.cells #[.int .i64 (cover % 256), .bool (Cov.bitB cover 31), .bool (Cov.bitB cover 30), .bool (Cov.bitB cover 29), .bool (Cov.bitB cover 28), .int .u32 sfl, .func (.func fn) fa fb] 91 (0, 0))) ⟨hfc, HKS.out⟩
     have RFH := Bas.hid RF0;have RhI : Nonempty RI := ⟨Ri⟩;have RFW := Bas.hid RFw;have z0 := fun i => (RFk i).1
     have z1 := fun i => cell_of_heap (i := 0) (v := .int .i64 (cover % 256)) (RFk i).2 rfl
     have z2 := fun i => cell_of_heap (i := 1) (v := .bool (Cov.bitB cover 31)) (RFk i).2 rfl
     have z3 := fun i => cell_of_heap (i := 2) (v := .bool (Cov.bitB cover 30)) (RFk i).2 rfl
     have z4 := fun i => cell_of_heap (i := 3) (v := .bool (Cov.bitB cover 29)) (RFk i).2 rfl
     have z5 := fun i => cell_of_heap (i := 4) (v := .bool (Cov.bitB cover 28)) (RFk i).2 rfl
     have z6 := fun i => cell_of_heap (i := 5) (v := .int .u32 sfl) (RFk i).2 rfl
     have lS := fun i => heap_lt (RFk i).2
     have lF := fun i => World.block_lt_of_cell? _ _ (RFk i).1
     clear RF0 RFw RFk hfc;obtain ⟨z, hz⟩ : ∃ z, bits .and .u32 fl sfl = z := ⟨_, rfl⟩;have HZ := Bas.hid hz;clear hz;by_cases hz0 : z = 0
     ·have hz1 : (z == 0) = true := by simpa using hz0
      have hz2 : bits .and .u32 fl sfl = 0 := by rw [HZ.out]; exact hz0
      have HNA := Bas.hid (asks_false1 (d := d) (s := ⟨cover, sfl, wk⟩) hz2);have hz3 : (bits .and .u32 fl sfl == 0) = true := by rw [hz2]; rfl
      have hz4 : decide (bits .and .u32 fl sfl = 0) = true := by rw [hz2]; rfl
      refine Pl.region_plan0 Ri [(true, 0), (true, 1), (true, 2), (true, 3), (true, 4), (true, 5), (true, 6), (true, 7), (true, 8), (true, 9), (true, 10), (true, 11), (false, 12), (true, 13), (true, 14)] [] (by kernel_rfl) (by kernel_rfl) (fun _ _ _ _ e h => ⟨e ▸ h.1, h.2⟩) RFH.out ?_
      refine Pl.head_sel0 [(true, 0), (true, 1), (true, 2), (true, 3), (true, 4), (true, 5), (true, 6), (true, 7), (true, 8), (true, 9), (true, 10), (true, 11)] (by kernel_rfl) (by kernel_rfl) ?_
      simp only [Pl.sel, List.drop_succ_cons, List.drop_zero];repeat (go_big_quiet_step (fail))
      refine wpQuiet_nil ?_;rw [← RFH.out];clear z0 z1 z2 z3 z4 z5 z6 lS lF;refine Pl.one_sel (by kernel_rfl) ?_
      intro Q' hQ' hP';simp only [Pl.sel, List.drop_succ_cons, List.drop_zero];go_wp2_with (fail);refine hQ' _ _ (fun _ _ => ⟨Ri, RFH.out⟩) ?_
      clear hQ' hP' Q' RFW;refine Pl.head_sel0 (rest := []) [(true, 13), (true, 14)] (by kernel_rfl) (by kernel_rfl) ?_
      simp only [Pl.sel, List.drop_succ_cons, List.drop_zero];repeat (go_big_quiet_step (fail))
      refine wpQuiet_nil ?_;simp only [Pl.walkM];have HLD := Bas.hid (lnTo_on HLS.out (Bas.below_drewN (Below.refl WS.heap.size WS) 1));have HRN : Hid (_ = r) := (by have h := HRJ.out; rw [subsRun_no HNA.out] at h; exact Bas.hid h)
      clear hz1 hz2 hz3 hz4 hz0;go_wp2_with (fail);go_roundw
      case rel => exact ⟨j + 1, ys, lf, by omega, by go_num, rfl, HLD.out, HPQ.out, HRN.out⟩
      case measure => simp [intOf]; omega
     ·have hz2 : bits .and .u32 fl sfl = z := HZ.out;have hz1 : (z == 0) = false := by simpa using hz0
      have hz4 : decide (z = 0) = false := by simpa using hz0
      have HNZ : Hid (bits .and .u32 fl sfl ≠ 0) := by unfold Hid; rw [hz2]; exact hz0
      refine Pl.region_plan0 Ri [(true, 0), (true, 1), (true, 2), (true, 3), (true, 4), (true, 5), (true, 6), (true, 7), (true, 8), (true, 9), (true, 10), (true, 11), (false, 12), (true, 13), (true, 14)] [] (by kernel_rfl) (by kernel_rfl) (fun _ _ _ _ e h => ⟨e ▸ h.1, h.2⟩) RFH.out ?_
      refine Pl.head_sel0 [(true, 0), (true, 1), (true, 2), (true, 3), (true, 4), (true, 5), (true, 6), (true, 7), (true, 8), (true, 9), (true, 10), (true, 11)] (by kernel_rfl) (by kernel_rfl) ?_
      simp only [Pl.sel, List.drop_succ_cons, List.drop_zero];repeat (go_big_quiet_step (fail))
      refine wpQuiet_nil ?_;rw [← RFH.out];clear z0 z1 z2 z3 z4 z5 z6 lS lF;refine Pl.one_sel (by kernel_rfl) ?_
      intro Q' hQ' hP';simp only [Pl.sel, List.drop_succ_cons, List.drop_zero];go_wp2_with (fail);refine (Cov.mruns_any _ _ _ _ _ _ _).mono ?_;rintro e w5 ⟨rfl, hb5⟩;have hbd5 : Below WS.heap.size WS w5 := (Bas.below_drewN (Below.refl WS.heap.size WS) 1).trans hb5;have HL5 := Bas.hid (lnTo_on HLS.out hbd5);have HK5 := Bas.hid ((hbd5.block _ (heap_lt HKS.out)).trans HKS.out);have hfc5 := HFC.out w5 ys HL5.out;clear hb5 hbd5;go_wp2_with (fail);refine hQ' _ _ (fun _ _ => RFW.out _ ⟨hfc5, HK5.out⟩) ?_
      clear hQ' hP' Q' RFW hfc5;obtain ⟨rb, hrb⟩ : ∃ rb, Cov.runsM (Cov.bitB cover 31) (Cov.bitB cover 29) d = rb := ⟨_, rfl⟩;have HRB := Bas.hid hrb;rw [hrb];clear hrb hz1 hz4 hz2 hz0;cases rb with
      | false =>
       refine Pl.head_sel0 (rest := []) [(true, 13), (true, 14)] (by kernel_rfl) (by kernel_rfl) ?_
       simp only [Pl.sel, List.drop_succ_cons, List.drop_zero];repeat (go_big_quiet_step (fail))
       refine wpQuiet_nil ?_;simp only [Pl.walkM];have HRN : Hid (_ = r) := (by have h := HRJ.out; rw [subsRun_no (asks_false2 HRB.out)] at h; exact Bas.hid h)
       go_wp2_with (fail);go_roundw
       case rel => exact ⟨j + 1, ys, lf, by omega, by go_num, rfl, HL5.out, HPQ.out, HRN.out⟩
       case measure => simp [intOf]; omega
      | true =>
       refine Pl.head_sel0 (rest := []) [(true, 13), (true, 14)] (by kernel_rfl) (by kernel_rfl) ?_
       simp only [Pl.sel, List.drop_succ_cons, List.drop_zero];repeat (go_big_quiet_step (fail))
       refine wpQuiet_nil ?_;simp only [Pl.walkM];have HAS := Bas.hid (asks_true (s := ⟨cover, sfl, wk⟩) HNZ.out HRB.out);obtain ⟨hdo, hkeep⟩ := HOKj.out HAS.out;obtain ⟨hk1, hk2, hk3⟩ := hkeep ys lf HPQ.out;have c0 := cell_of_heap (i := 0) (v := .int .i64 (cover % 256)) HK5.out rfl;have c1 := cell_of_heap (i := 1) (v := .bool (Cov.bitB cover 31)) HK5.out rfl;have c2 := cell_of_heap (i := 2) (v := .bool (Cov.bitB cover 30)) HK5.out rfl;have c3 := cell_of_heap (i := 3) (v := .bool (Cov.bitB cover 29)) HK5.out rfl;have c4 := cell_of_heap (i := 4) (v := .bool (Cov.bitB cover 28)) HK5.out rfl;have c5' := cell_of_heap (i := 5) (v := .int .u32 sfl) HK5.out rfl;have c6 := cell_of_heap (i := 6) (v := .func (.func fn) fa fb) HK5.out rfl;have l5 := heap_lt HK5.out;have HSR : Hid (Calls Tryz.prog 29 #[.agg #[.int .i64 (cover % 256), .bool (Cov.bitB cover 31), .bool (Cov.bitB cover 30), .bool (Cov.bitB cover 29), .bool (Cov.bitB cover 28), .int .u32 sfl, .func (.func fn) fa fb], .pointer (some ⟨g, 0, none⟩), .int .i64 d, .int .i64 lf] w5
        fun e w' => e = .returned (.tuple #[.int .i64 (runSub F d ⟨cover, sfl, wk⟩ lf ys).2.1, .int .i64 (runSub F d ⟨cover, sfl, wk⟩ lf ys).2.2]) ∧ LnTo w3 base g sv (runSub F d ⟨cover, sfl, wk⟩ lf ys).1 w') := by
        obtain ⟨sv', h1, h2, h3⟩ := id HL5.out;refine (subrun_any F Pre hPn ⟨cover, sfl, wk⟩ d (.func (.func fn) fa fb) lf base g sv' ys W0 w5 hdo HWKj.out (HFR.out w5 ys HL5.out).1 hbase h1 HPQ.out hk1 hk2).mono ?_;rintro e w' ⟨rfl, h4⟩;exact ⟨rfl, LnTo.step HG3.out h2 h3 h4⟩
       have HK3 := Bas.hid hk3;have HRN : Hid (_ = r) := (by have h := HRJ.out; rw [subsRun_yes HAS.out] at h; exact Bas.hid h)
       clear hdo hkeep hk1 hk2 hk3 HRJ HRQ HRUN1 HRUN;generalize runSub F d ⟨cover, sfl, wk⟩ lf ys = R at *;obtain ⟨zs, np, er⟩ := R;simp only at HSR HK3 HRN;go_wp2_with (fail);refine HSR.out.mono ?_;rintro e w7 ⟨rfl, hl7⟩;have HL7' := Bas.hid hl7;clear hl7 c0 c1 c2 c3 c4 c5' c6 l5;by_cases her : er = 0
       ·subst her;have HRN2 := HRN.out;rw [if_pos rfl] at HRN2;have HRN3 := Bas.hid HRN2;clear HRN2 HRN HSR;go_wp2_with (fail);go_roundw
        case rel => exact ⟨j + 1, zs, wrap64 (lf - np), by omega, by go_num, rfl, HL7'.out, HK3.out, HRN3.out⟩
        case measure => simp [intOf]; omega
       ·have HRN2 := HRN.out;rw [if_neg her] at HRN2;have HRN3 := Bas.hid HRN2;have her1 : (er == 0) = false := by simpa using her
        have her2 : decide (er = 0) = false := by simpa using her
        have kf7 := (HFR.out w7 zs HL7'.out).2.1;have q0 := cell_of_heap (i := 0) kf7 rfl;have q1 := cell_of_heap (i := 1) kf7 rfl;have q2 := cell_of_heap (i := 2) kf7 rfl;have p0 := free_of_heap (i := 0) kf7;have p1 := free_of_heap (i := 1) kf7;have p2 := free_of_heap (i := 2) kf7;have lf7 := heap_lt kf7;clear HRN2 HRN HSR;go_wp2_with (fail);clear q0 q1 q2 p0 p1 p2 lf7;have k8 := setF kf7 (.int .i64 er) (.int .i64 i) (.int .i64 j);have hHF := HFT.out;have hm8 : Mod (fun k => k = FT) w7 (((w7.setCell ⟨FT, 0, none⟩ (.int .i64 er)).setCell ⟨FT, 1, none⟩ (.int .i64 i)).setCell ⟨FT, 2, none⟩ (.int .i64 j)) := (((Mod.refl (fun k => k = FT) w7).set (b := FT) (o := 0) (.int .i64 er) (.inl rfl)).set (b := FT) (o := 1) (.int .i64 i) (.inl rfl)).set (b := FT) (o := 2) (.int .i64 j) (.inl rfl)
        have HL8 := Bas.hid (lnTo_box (HFT.out.symm ▸ HB3.out) HTB.out (Nat.le_of_eq HFT.out) (heap_lt HKF3.out) HL7'.out hm8);clear hm8 kf7;generalize (((w7.setCell ⟨FT, 0, none⟩ (.int .i64 er)).setCell ⟨FT, 1, none⟩ (.int .i64 i)).setCell ⟨FT, 2, none⟩ (.int .i64 j)) = w8 at *;have c0 := cell_of_heap (i := 0) k8 rfl;have c1 := cell_of_heap (i := 1) k8 rfl;have c2 := cell_of_heap (i := 2) k8 rfl;have hr : (zs, some (er, i, j)) = r := HRN3.out;refine bodyPost_ret (v := .agg #[.int .i64 er, .int .i64 i, .int .i64 j]) ?_ rfl ⟨by rw [← hr]; rfl, by rw [← hr]; exact HL8.out⟩
        rw [results_cell1 rfl]
        go_simp
    ·have e3 : decide ((j : Int) < (m : Int)) = false := by simp; omega
     have e4 : ¬ (j : Int) < (m : Int) := by omega
     have HRN : Hid (chainsRun F d ((T.zip fls).drop (i + 1)) (i + 1) ys lf = r) := by
      have h := HRQ.out;rw [List.drop_of_length_le (by rw [HM.out]; omega)] at h
      exact h
     clear hl hpre hrun hbw hkf ho;go_wp2_with (fail);go_roundw
     case rel => exact ⟨i + 1, ys, lf, by omega, by go_num, rfl, HLQ.out, HPQ.out, HRN.out⟩
     case measure => simp [intOf]; omega
  ·have e1 : decide ((i : Int) < (n : Int)) = false := by simp; omega
   have e2 : decide (i < n) = false := by simp; omega
   have e4 : ¬ (i : Int) < (n : Int) := by omega
   have HRN : Hid ((cleanL xs, none) = r) := by
    have h := HRUN.out;rw [List.drop_of_length_le (by rw [List.length_zip, HN.out, HFN.out]; omega)] at h
    exact h
   clear hl hpre hrun hbw hkf ho;have HCL : Hid (Calls Tryz.prog 30 #[.pointer (some ⟨g, 0, none⟩)] wr fun e w' => e = .returned (.tuple #[]) ∧ LnTo w3 base g sv (cleanL xs) w') := by
    obtain ⟨sv', h1, h2, h3⟩ := id HLN.out;refine (clean_any base g sv' xs wr h1 (by have := hPn _ _ HPRE.out; omega)).mono ?_
    rintro e w' ⟨rfl, h4⟩;exact ⟨rfl, LnTo.step HG3.out h2 h3 h4⟩
   go_wp2_with (fail);refine HCL.out.mono ?_;rintro e w7 ⟨rfl, hl7⟩;have HL7' := Bas.hid hl7;have kf7 := (HFR.out w7 _ hl7).2.1;have q0 := cell_of_heap (i := 0) kf7 rfl;have q1 := cell_of_heap (i := 1) kf7 rfl;have q2 := cell_of_heap (i := 2) kf7 rfl;have p0 := free_of_heap (i := 0) kf7;have p1 := free_of_heap (i := 1) kf7;have p2 := free_of_heap (i := 2) kf7;have lf7 := heap_lt kf7;clear hl7 HCL;go_wp2_with (fail);clear q0 q1 q2 p0 p1 p2 lf7;have k8 := setF kf7 (.int .i64 0) (.int .i64 0) (.int .i64 0);have hm8 : Mod (fun k => k = FT) w7 (((w7.setCell ⟨FT, 0, none⟩ (.int .i64 0)).setCell ⟨FT, 1, none⟩ (.int .i64 0)).setCell ⟨FT, 2, none⟩ (.int .i64 0)) := (((Mod.refl (fun k => k = FT) w7).set (b := FT) (o := 0) (.int .i64 0) (.inl rfl)).set (b := FT) (o := 1) (.int .i64 0) (.inl rfl)).set (b := FT) (o := 2) (.int .i64 0) (.inl rfl)
   have HL8 := Bas.hid (lnTo_box (HFT.out.symm ▸ HB3.out) HTB.out (Nat.le_of_eq HFT.out) (heap_lt HKF3.out) HL7'.out hm8);clear hm8 kf7;generalize (((w7.setCell ⟨FT, 0, none⟩ (.int .i64 0)).setCell ⟨FT, 1, none⟩ (.int .i64 0)).setCell ⟨FT, 2, none⟩ (.int .i64 0)) = w8 at *;have c0 := cell_of_heap (i := 0) k8 rfl;have c1 := cell_of_heap (i := 1) k8 rfl;have c2 := cell_of_heap (i := 2) k8 rfl;have hr := HRN.out;refine bodyPost_ret (v := .agg #[.int .i64 0, .int .i64 0, .int .i64 0]) ?_ rfl ⟨by rw [← hr]; rfl, by rw [← hr]; exact HL8.out⟩
   rw [results_cell1 rfl]
   go_simp
end Mx
namespace Mx
open Vw Ch Lk St Ln Dr Rr Sw Cx In Lg
theorem mplain0_any (K : Nat) (B : Nat) (gv : Value) (left : Int) (err : Int) (Q : World → Prop) (w : World) (hcf : ∀ args w, (callFunc K args).run Tryz.prog w = .ok (.enter K args) w)
  (hB : w.heap[B]? = some (.cells #[.func (.func K) #[] #[]] 125 (0, 0)))
  (hrun : Calls Tryz.prog K #[gv] w fun e w' => e = .returned (.int .i64 err) ∧ Q w') :
  Calls Tryz.prog 76 #[gv, .int .i64 left, .pointer (some ⟨B, 0, none⟩)] w fun e w' => e = .returned (.tuple #[.int .i64 0, .int .i64 err]) ∧ Q w' := by
 have b0 := cell_of_heap (i := 0) hB rfl;have lB := heap_lt hB;have HR := Bas.hid hrun;clear hB hrun;go_enter Tryz.func76, Tryz.ntmps76
 go_wp2_with (fail);refine HR.out.mono ?_;rintro e w2 ⟨rfl, hq⟩;have HQ := Bas.hid hq;clear hq HR;go_wp2_with (fail)
 go_ret2
 exact ⟨rfl, HQ.out⟩
theorem work1_any (gv : Value) (w : World) : Calls Tryz.prog 65 #[gv] w fun e w' => e = .returned (.int .i64 0) ∧ w = w' := by
 go_enter Tryz.func65, Tryz.ntmps65
 go_wp2_with (fail);go_ret;exact ⟨rfl, rfl⟩
def fWork (lf : LigD → List Gl → List Gl × Int) (inf : InsD → Int → List Gl → List Gl × (Int × Int)) : WkF
 | .rear M, _, xs => ((rearRun M xs).1, (0, (rearRun M xs).2))
 | .ctx T, _, xs => ((ctxRun T xs).1, (0, (ctxRun T xs).2))
 | .lig T, _, xs => ((lf T xs).1, (0, (lf T xs).2))
 | .swap ps, _, xs => ((swapRun ps xs).1, (0, (swapRun ps xs).2))
 | .ins T, left, xs => inf T left xs
 | .none, _, xs => (xs, (0, 0))
section
variable {lf : LigD → List Gl → List Gl × Int} {inf : InsD → Int → List Gl → List Gl × (Int × Int)} {Pre : List Gl → Int → Prop}
theorem does_rear (hP : ∀ xs left, Pre xs left → xs.length ≤ 1000000) {M : MachD} (hok : MachOk M) : WkDoes (fWork lf inf) Pre (.rear M) := by
 rintro W0 fv ⟨v, ⟨B, rfl, hB⟩, hat⟩;refine ⟨_, _, _, rfl, fun args w => by simp [go_sem], fun base g sv xs w left hb hbase hL hx => ?_⟩
 exact mplain1_any _ v B _ left _ _ w (fun args w => by simp [go_sem]) ((hb.block _ (heap_lt hB)).trans hB) (rearRun_any base g sv v xs M W0 w hat hok hb hbase hL (hP _ _ hx))
theorem does_ctx (hP : ∀ xs left, Pre xs left → xs.length ≤ 1000000) {T : CtxD} (hok : CtxOk T) : WkDoes (fWork lf inf) Pre (.ctx T) := by
 rintro W0 fv ⟨v, ⟨B, rfl, hB⟩, hat⟩;refine ⟨_, _, _, rfl, fun args w => by simp [go_sem], fun base g sv xs w left hb hbase hL hx => ?_⟩
 exact mplain1_any _ v B _ left _ _ w (fun args w => by simp [go_sem]) ((hb.block _ (heap_lt hB)).trans hB) (ctxRun_any base g sv v xs T W0 w hat hok hb hbase hL (hP _ _ hx))
theorem does_swap (hP : ∀ xs left, Pre xs left → xs.length ≤ 1000000) {ps : List PartD} (hok : SubOk ps) (hn : ps.length ≤ 4294967296) : WkDoes (fWork lf inf) Pre (.swap ps) := by
 rintro W0 fv ⟨v, ⟨B, rfl, hB⟩, hat⟩;refine ⟨_, _, _, rfl, fun args w => by simp [go_sem], fun base g sv xs w left hb hbase hL hx => ?_⟩
 exact mplain1_any _ v B _ left _ _ w (fun args w => by simp [go_sem]) ((hb.block _ (heap_lt hB)).trans hB) (swapRun_any base g sv v xs ps W0 w hat hok.1 hok.2 hn hb hbase hL (hP _ _ hx))
theorem does_none : WkDoes (fWork lf inf) Pre .none := by
 rintro W0 fv ⟨B, rfl, hB⟩;refine ⟨_, _, _, rfl, fun args w => by simp [go_sem], fun base g sv xs w left hb hbase hL hx => ?_⟩
 refine mplain0_any _ B _ left _ _ w (fun args w => by simp [go_sem]) ((hb.block _ (heap_lt hB)).trans hB) ((work1_any _ w).mono ?_)
 rintro e w' ⟨rfl, rfl⟩;exact ⟨rfl, LnTo.refl hL⟩
end
end Mx
namespace Dr
open Ch Lk St Ln
theorem dstep_inv {σ : Type} {M : MachD} {F : ActF σ} {P : σ → List Gl → Prop} (hP : ∀ s xs pl e, P s xs → 0 ≤ pl → P (F s xs pl e).1 (F s xs pl e).2.1) (d : Dv σ) (h : P d.st d.xs) (h0 : 0 ≤ d.place) : P (dstep M F d).1.st (dstep M F d).1.xs ∧ 0 ≤ (dstep M F d).1.place := by
 have h1 := hP d.st d.xs d.place (stepM M d.state (classAt M d.xs d.place).1) h h0;unfold dstep;simp only;split
 ·exact ⟨h1, by simp only; omega⟩
 ·exact ⟨h1, by simp only; omega⟩
theorem drun_inv {σ : Type} {M : MachD} {F : ActF σ} {P : σ → List Gl → Prop} (hP : ∀ s xs pl e, P s xs → 0 ≤ pl → P (F s xs pl e).1 (F s xs pl e).2.1) : ∀ (f : Nat) (d : Dv σ), P d.st d.xs → 0 ≤ d.place → P (drun M F f d).1.st (drun M F f d).1.xs
 | 0, d, h, _ => h
 | f + 1, d, h, h0 => by
  obtain ⟨h1, h2⟩ := dstep_inv (M := M) hP d h h0;rw [drun];split
  ·exact h1
  ·split
   ·exact h1
   ·exact drun_inv hP f _ h1 h2
theorem dall_inv {σ : Type} {M : MachD} {F : ActF σ} {P : σ → List Gl → Prop} (hP : ∀ s xs pl e, P s xs → 0 ≤ pl → P (F s xs pl e).1 (F s xs pl e).2.1) (s : σ) (xs : List Gl) (h : P s xs) : P (dall M F s xs).1.st (dall M F s xs).1.xs :=
 drun_inv hP _ _ h (by simp)
end Dr
namespace Mx
open Vw Ch Lk St Ln Dr Rr Sw Cx In Lg
theorem rearRun_len (M : MachD) (xs : List Gl) : (rearRun M xs).1.length = xs.length := by
 have h := dall_inv (M := M) (F := plF rearF) (P := fun s ys => (0 ≤ s.1 ∧ s.1 ≤ ys.length) ∧ (0 ≤ s.2 ∧ s.2 ≤ ys.length) ∧ ys.length = xs.length) (fun s ys pl e h h0 => by
  obtain ⟨h1, h2, h3⟩ := h;have hA : 0 ≤ rearA s ys.length pl e ∧ rearA s ys.length pl e ≤ ys.length := by
   unfold rearA; split
   ·split <;> omega
   ·exact h1
  have hB : 0 ≤ rearB s ys.length pl e ∧ rearB s ys.length pl e ≤ ys.length := by
   unfold rearB; split
   ·split <;> omega
   ·exact h2
  have hl := rearX_len ys (e.flags % 16).toNat (rearA s ys.length pl e) (rearB s ys.length pl e) hA.1 hB.2;refine ⟨?_, ?_, ?_⟩
  ·change 0 ≤ rearA s ys.length pl e ∧ rearA s ys.length pl e ≤ ((rearX ys _ _ _).length : Int);rw [hl]; exact hA
  ·change 0 ≤ rearB s ys.length pl e ∧ rearB s ys.length pl e ≤ ((rearX ys _ _ _).length : Int);rw [hl]; exact hB
  ·change (rearX ys _ _ _).length = xs.length;rw [hl]; exact h3) (0, 0) xs ⟨⟨by simp, by simp⟩, ⟨by simp, by simp⟩, rfl⟩
 exact h.2.2
theorem ctxRun_len (T : CtxD) (xs : List Gl) : (ctxRun T xs).1.length = xs.length :=
 dall_inv (M := T.m) (F := plF (ctxF T)) (P := fun _ ys => ys.length = xs.length) (fun s ys pl e h _ => by
  change (ctxSwap T.subs (ctxSwap T.subs ys s e.a) pl e.b).length = xs.length;rw [ctxSwap_len, ctxSwap_len]; exact h) (-1) xs rfl
theorem joinL_len (xs : List Gl) (i : Int) (ks : List Int) : (joinL xs i ks).length = xs.length := by
 cases hg : glAt xs i with
 | none => unfold joinL; rw [hg]
 | some x =>
  rw [joinL_eq hg];clear hg;induction ks generalizing xs with
  | nil => rfl
  | cons k ks ih => rw [List.foldl_cons, ih, joinStep_len]
theorem goneL_len (ks : List Int) : ∀ (xs : List Gl), (ks.foldl (fun xs k => setId xs k 65535) xs).length = xs.length := by
 induction ks with
 | nil => intro xs; rfl
 | cons k ks ih => intro xs; rw [List.foldl_cons, ih, setId_len]
theorem storeL_len {lig : List Int} {xs ys : List Gl} {i sum : Int} {gone : List Int} (h : storeL lig xs i sum gone = some ys) : ys.length = xs.length := by
 unfold storeL at h;cases he : entL lig sum with
 | none => rw [he] at h; cases h
 | some id =>
  rw [he] at h;cases h;rw [goneL_len, joinL_len, setId_len]
theorem performL_xlen (T : LigD) : ∀ (f : Nat) (ps : List Int) (xs : List Gl) (k : Nat) (sum : Int) (gone : List Int), (performL T f ps xs k sum gone).2.length = xs.length
 | 0, ps, xs, k, sum, gone => rfl
 | f + 1, ps, xs, k, sum, gone => by
  rw [performL];cases popL ps with
  | none => rfl
  | some q =>
   obtain ⟨i, ps'⟩ := q;simp only;cases entL T.comp (wrap64 (gidL xs i + offA (be T.act (4 * k) 4))) with
   | none => rfl
   | some part =>
    simp only;cases ha : actL T xs i (be T.act (4 * k) 4) (wrap64 (sum + part)) gone with
    | none => rfl
    | some r =>
     obtain ⟨ys, gone'⟩ := r;have hy : ys.length = xs.length := by
      unfold actL at ha;split at ha
      ·cases ha; rfl
      ·cases hs : storeL T.lig xs i (wrap64 (sum + part)) gone with
       | none => rw [hs] at ha; cases ha
       | some zs => rw [hs] at ha; cases ha; exact storeL_len hs
     simp only;split
     ·exact hy
     ·rw [performL_xlen]; exact hy
theorem ligRun_len (T : LigD) (xs : List Gl) : (ligRun T xs).1.length = xs.length :=
 dall_inv (M := T.m) (F := plF (ligF T)) (P := fun _ ys => ys.length = xs.length) (fun s ys pl e h _ => by
  change (ligF T s ys pl e).2.length = xs.length;unfold ligF;split
  ·rw [performL_xlen]; exact h
  ·exact h) [] xs rfl
theorem putI_sum (T : InsD) (s : InsS) (xs : List Gl) (place : Int) (a n : Nat) : (putI T s xs place a n).1.left + (putI T s xs place a n).1.done = s.left + s.done := by
 unfold putI; split
 ·rfl
 ·simp only; omega
theorem bump_sum (s : InsS) (place n : Int) : (bump s place n).left + (bump s place n).done = s.left + s.done := by
 unfold bump; split <;> rfl
theorem ins3_sum (s : InsS) (xs : List Gl) (i own : Int) (end' : Bool) (here fl : Int) : (ins3 s xs i own end' here fl).1.left + (ins3 s xs i own end' here fl).1.done = s.left + s.done := by
 unfold ins3; simp only; split <;> rfl
theorem ins2_sum (T : InsD) (e : EntD) (s : InsS) (xs : List Gl) (i : Int) : (ins2 T e s xs i).1.left + (ins2 T e s xs i).1.done = s.left + s.done := by
 unfold ins2;split
 ·split
  ·split
   ·exact putI_sum _ _ _ _ _ _
   ·rw [ins3_sum, bump_sum, putI_sum]
  ·split
   ·exact putI_sum _ _ _ _ _ _
   ·rw [ins3_sum, bump_sum, putI_sum]
 ·exact ins3_sum _ _ _ _ _ _ _
theorem insF_sum (T : InsD) (s : InsS) (xs : List Gl) (i : Int) (e : EntD) : (insF T s xs i e).1.left + (insF T s xs i e).1.done = s.left + s.done := by
 unfold insF;split
 ·rfl
 ·split
  ·split
   ·exact putI_sum _ _ _ _ _ _
   ·rw [ins2_sum, bump_sum, putI_sum]
  ·exact ins2_sum _ _ _ _ _
theorem insRun_inv (T : InsD) (left : Int) (xs : List Gl) (h0 : 0 ≤ left) (h : xs.length + left ≤ 1000000) : 0 ≤ left - (insRun T left xs).2.1 ∧ 0 ≤ (insRun T left xs).2.1 ∧ (insRun T left xs).1.length + (left - (insRun T left xs).2.1) ≤ 1000000 := by
 have a1 : (-1 : Int) ≤ xs.length := by omega
 have a2 : left + 0 ≤ 1000000 := by omega
 have hst : InsInv 0 ⟨-1, left, 0, false⟩ xs := ⟨⟨Int.le_refl _, a1⟩, h0, Int.le_refl _, a2, h, rfl⟩;have hi := dall_inv (M := T.m) (F := insF T) (P := fun s ys => InsInv 0 s ys ∧ s.left + s.done = left) (fun s ys pl e h h0 => by
  have hh : 0 ≤ hereOf e ∧ 0 ≤ markOf e := by unfold hereOf markOf; constructor <;> split <;> omega
  exact ⟨insF_inv h.1 h0 hh.1 hh.2, by rw [insF_sum]; exact h.2⟩) ⟨-1, left, 0, false⟩ xs ⟨hst, by simp⟩
 obtain ⟨⟨_, h2, h3, _, h5, _⟩, h6⟩ := hi;change 0 ≤ left - (dall T.m (insF T) ⟨-1, left, 0, false⟩ xs).1.st.done ∧ 0 ≤ (dall T.m (insF T) ⟨-1, left, 0, false⟩ xs).1.st.done ∧ ((dall T.m (insF T) ⟨-1, left, 0, false⟩ xs).1.xs.length : Int) + (left - (dall T.m (insF T) ⟨-1, left, 0, false⟩ xs).1.st.done) ≤ 1000000;omega
def fAll : WkF := fWork ligRun insRun
def preL (xs : List Gl) (left : Int) : Prop := 0 ≤ left ∧ xs.length + left ≤ 1000000
theorem preL_len : ∀ xs left, preL xs left → xs.length ≤ 1000000 := fun xs left h => by have := h.1; have := h.2; omega
theorem does_all {k : WkD} (hok : WkOk k) (hn : ∀ ps, k = .swap ps → ps.length ≤ 4294967296) : WkDoes fAll preL k := by
 cases k with
 | rear M => exact does_rear preL_len hok
 | ctx T => exact does_ctx preL_len hok
 | swap ps => exact does_swap preL_len hok (hn ps rfl)
 | none => exact does_none
 | lig T =>
  rintro W0 fv ⟨v, ⟨B, rfl, hB⟩, hat⟩;refine ⟨_, _, _, rfl, fun args w => by simp [go_sem], fun base g sv xs w left hb hbase hL hx => ?_⟩
  exact mplain1_any _ v B _ left _ _ w (fun args w => by simp [go_sem]) ((hb.block _ (heap_lt hB)).trans hB) (ligRun_any base g sv v xs T W0 w hat hok hb hbase hL (preL_len _ _ hx))
 | ins T =>
  rintro W0 fv ⟨v, rfl, hat⟩;refine ⟨_, _, _, rfl, fun args w => by simp [go_sem], fun base g sv xs w left hb hbase hL hx => ?_⟩
  have h := insRun_any base g sv v xs T left W0 w hat hok hb hbase hL hx.1 hx.2;rw [arr3];exact h
theorem fAll_keeps (k : WkD) (xs : List Gl) (left : Int) (h : preL xs left) : (fAll k left xs).1.length ≤ 1000000 ∧ preL (fAll k left xs).1 (wrap64 (left - (fAll k left xs).2.1)) := by
 have hl := preL_len xs left h;have hw : wrap64 left = left := by have := h.1; have := h.2; simp only [wrap64]; omega
 have hz : ∀ ys : List Gl, ys.length = xs.length → ys.length ≤ 1000000 ∧ preL ys (wrap64 (left - 0)) := fun ys hy => ⟨by omega, by rw [Int.sub_zero, hw]; exact ⟨h.1, by rw [hy]; exact h.2⟩⟩
 cases k with
 | rear M => exact hz _ (rearRun_len M xs)
 | ctx T => exact hz _ (ctxRun_len T xs)
 | swap ps => exact hz _ (List.length_map _)
 | none => exact hz _ rfl
 | lig T => exact hz _ (ligRun_len T xs)
 | ins T =>
  obtain ⟨h1, h2, h3⟩ := insRun_inv T left xs h.1 h.2;have hh := h.1;have hw2 : wrap64 (left - (insRun T left xs).2.1) = left - (insRun T left xs).2.1 := by have := h.2; simp only [wrap64]; omega
  refine ⟨?_, ?_⟩
  ·change (insRun T left xs).1.length ≤ 1000000; omega
  ·change preL (insRun T left xs).1 (wrap64 (left - (insRun T left xs).2.1));rw [hw2]; exact ⟨h1, h3⟩
theorem runOk_all {T : List MChain} (hT : ∀ c ∈ T, ∀ s ∈ c.subs, WkOk s.wk) (hn : ∀ c ∈ T, ∀ s ∈ c.subs, ∀ ps, s.wk = .swap ps → ps.length ≤ 4294967296) (d : Int) (fls : List Int) : RunOk fAll preL d T fls := by
 intro i c fl hc _ s hs _;have hcm := List.mem_of_getElem? hc;refine ⟨does_all (hT c hcm s hs) (hn c hcm s hs), fun xs left h => ?_⟩
 have hr : preL xs.reverse left := ⟨h.1, by rw [List.length_reverse]; exact h.2⟩
 refine ⟨hr, ?_⟩;unfold runSub;cases turnedOf d s with
 | false =>
  obtain ⟨h1, h2⟩ := fAll_keeps s.wk xs left h;exact ⟨Nat.le_trans h1 (by omega), h2⟩
 | true =>
  obtain ⟨h1, h2⟩ := fAll_keeps s.wk xs.reverse left hr;simp only;refine ⟨by rw [List.length_reverse]; omega, h2.1, by rw [List.length_reverse]; exact h2.2⟩
end Mx
namespace Mx
open Vw Ch Lk St Ln Dr
theorem subsAt_few {bs : List Int} : ∀ (k p : Nat) (l : List SubD), subsAt bs k p = some l → l.length ≤ bs.length
 | k, p, l, h => by
  have key : ∀ (k p : Nat) (l : List SubD), subsAt bs k p = some l → l.length = k ∧ (k = 0 ∨ p + 12 * k ≤ bs.length) := by
   intro k;induction k with
   | zero => intro p l h; simp [subsAt] at h; subst h; exact ⟨rfl, .inl rfl⟩
   | succ k ih =>
    intro p l h;rw [subsAt] at h;split at h
    ·rename_i hc
     cases h2 : subsAt bs k (p + (be bs p 4).toNat) with
     | none => rw [h2] at h; cases h
     | some m =>
      rw [h2] at h; cases h;obtain ⟨i1, i2⟩ := ih _ m h2;exact ⟨by rw [List.length_cons, i1], .inr (by omega)⟩
    ·cases h
  obtain ⟨h1, h2⟩ := key k p l h;omega
theorem parseOne_few {bs : List Int} {c : ChainD} (h : parseOne bs = some c) : c.rules.length ≤ bs.length ∧ c.subs.length ≤ bs.length := by
 unfold parseOne at h;split at h
 ·rename_i hc
  cases h2 : subsAt bs (be bs 12 4).toNat (16 + 12 * (be bs 8 4).toNat) with
  | none => rw [h2] at h; cases h
  | some m =>
   rw [h2] at h; cases h;exact ⟨by simp only; rw [rulesAt_len]; omega, subsAt_few _ _ m h2⟩
 ·cases h
theorem chainsAt_few {bs : List Int} (k p : Nat) (l : List PlaceD) (h : chainsAt bs k p = some l) : l.length ≤ bs.length := by
 have key : ∀ (k p : Nat) (l : List PlaceD), chainsAt bs k p = some l → l.length = k ∧ (k = 0 ∨ p + 16 * k ≤ bs.length) := by
  intro k;induction k with
  | zero => intro p l h; simp [chainsAt] at h; subst h; exact ⟨rfl, .inl rfl⟩
  | succ k ih =>
   intro p l h;rw [chainsAt] at h;split at h
   ·rename_i hc
    cases h1 : parseOne ((bs.drop p).take (be bs (p + 4) 4).toNat) with
    | none => rw [h1] at h; cases h
    | some c =>
     rw [h1] at h;cases h2 : chainsAt bs k (p + (be bs (p + 4) 4).toNat) with
     | none => rw [h2] at h; cases h
     | some m =>
      rw [h2] at h; cases h;obtain ⟨i1, i2⟩ := ih _ m h2;exact ⟨by rw [List.length_cons, i1], .inr (by omega)⟩
   ·cases h
 obtain ⟨h1, h2⟩ := key k p l h;omega
theorem mapOpt_memS {α β : Type} (f : α → Option β) (l : List α) (ys : List β) (h : mapOpt f l = some ys) : ∀ y ∈ ys, ∃ x ∈ l, f x = some y := mapOpt_mem f l ys h
structure FewT (n : Nat) (T : List MChain) : Prop where
 len : T.length ≤ n
 rules : ∀ c ∈ T, c.rules.length ≤ n
 subs : ∀ c ∈ T, c.subs.length ≤ n
theorem morx_few {bs : List Int} (_hb : ∀ x ∈ bs, 0 ≤ x ∧ x ≤ 255) {gl : Nat} {T : List MChain} (h : morxParse bs gl = some T) : FewT bs.length T := by
 unfold morxParse at h;cases hp : parseAll bs with
 | none => rw [hp] at h; cases h
 | some cs =>
  rw [hp, Option.bind_some] at h;have hcs : cs.length ≤ bs.length ∧ ∀ c ∈ cs, c.p + c.size ≤ bs.length ∧ parseOne ((bs.drop c.p).take c.size) = some c.c := by
   unfold parseAll at hp;split at hp
   ·exact ⟨chainsAt_few _ _ _ hp, (chainsAt_bd _ _ _ hp).2⟩
   ·cases hp
  have hall : ∀ c ∈ T, c.rules.length ≤ bs.length ∧ c.subs.length ≤ bs.length := fun c hc => by
   obtain ⟨p, hp, hf⟩ := mapOpt_memS _ _ _ h c hc;unfold chainOf at hf;cases hm : mapOpt (subOf ((bs.drop p.p).take p.size) gl) p.c.subs with
   | none => rw [hm] at hf; cases hf
   | some l =>
    rw [hm] at hf; cases hf;obtain ⟨q1, q2⟩ := hcs.2 p hp;have ql : ((bs.drop p.p).take p.size).length ≤ bs.length := by rw [List.length_take, List.length_drop]; omega
    obtain ⟨r1, r2⟩ := parseOne_few q2;refine ⟨by simp only; omega, ?_⟩
    simp only;rw [mapOpt_len _ _ _ hm]; omega
  exact ⟨by rw [mapOpt_len _ _ _ h]; exact hcs.1, fun c hc => (hall c hc).1, fun c hc => (hall c hc).2⟩
theorem runOk_read {bs : List Int} (hb : ∀ x ∈ bs, 0 ≤ x ∧ x ≤ 255) {gl : Nat} (h1 : 1 ≤ gl) (h2 : gl ≤ 65536) {T : List MChain} (h : morxParse bs gl = some T) (d : Int) (fls : List Int) : RunOk fAll preL d T fls := by
 have ho := (morx_ok hb h1 h2 h).wk;refine runOk_all ho (fun c hc s hs ps hps => ?_) d fls
 have := ho c hc s hs;rw [hps] at this;exact parts_few this.1 this.2
theorem runSub_keeps (d : Int) (s : MSub) (left : Int) (xs : List Gl) (h : preL xs left) : preL (runSub fAll d s left xs).1 (wrap64 (left - (runSub fAll d s left xs).2.1)) := by
 unfold runSub;cases turnedOf d s with
 | false => exact (fAll_keeps s.wk xs left h).2
 | true =>
  have h2 := (fAll_keeps s.wk xs.reverse left ⟨h.1, by rw [List.length_reverse]; exact h.2⟩).2
  exact ⟨h2.1, by simp only [List.length_reverse]; exact h2.2⟩
theorem subsRun_keeps (fl d : Int) : ∀ (l : List MSub) (k : Nat) (xs : List Gl) (left : Int), preL xs left → preL (subsRun fAll fl d l k xs left).1 (subsRun fAll fl d l k xs left).2.1
 | [], k, xs, left, h => h
 | s :: l, k, xs, left, h => by
  rw [subsRun];cases asks fl d s with
  | false => exact subsRun_keeps fl d l (k + 1) xs left h
  | true =>
   have hk := runSub_keeps d s left xs h;simp only;split
   ·exact subsRun_keeps fl d l (k + 1) _ _ hk
   ·exact hk
theorem chainsRun_len (d : Int) : ∀ (l : List (MChain × Int)) (i : Nat) (xs : List Gl) (left : Int), preL xs left → (chainsRun fAll d l i xs left).1.length ≤ 1000000
 | [], i, xs, left, h => by
  have h1 : (cleanL xs).length ≤ xs.length := by unfold cleanL; exact List.length_filter_le _ _
  have h2 := preL_len xs left h;change (cleanL xs).length ≤ 1000000;omega
 | (c, fl) :: l, i, xs, left, h => by
  have hk := subsRun_keeps fl d c.subs 0 xs left h;rw [chainsRun_cons];obtain ⟨r, hr⟩ : ∃ r, subsRun fAll fl d c.subs 0 xs left = r := ⟨_, rfl⟩;rw [hr] at hk ⊢;obtain ⟨ys, lf, o⟩ := r;cases o with
  | none => exact chainsRun_len d l (i + 1) ys lf hk
  | some q => exact preL_len ys lf hk
end Mx
namespace Vw
theorem VB_apart {w w' : World} {a : Option Addr} {D : List Int} {r : Option Nat} (h : VB w a D) (hg : w.grownBy w' r) (hr : ∀ g, r = some g → ∀ x, a = some x → D ≠ [] → x.block ≠ g) : VB w' a D :=
 ⟨h.len, h.byte, fun i hi => by
  obtain ⟨b, o, h1, h2⟩ := h.cell i hi;refine ⟨b, o, h1, (Bas.gcell hg (World.block_lt_of_cell? _ _ h2) (fun e => ?_)).trans h2⟩
  exact hr _ e _ h1 (by intro e0; rw [e0] at hi; simp at hi) rfl⟩
end Vw
namespace Ch
open Vw Wr
structure WSub where
 cover : Int
 flags : Int
 data : List Int
structure WChain where
 first : Int
 rules : List RuleD
 subs : List WSub
 more : Int
def wRuleC (r : RuleD) : List Value := [.int .u16 r.type, .int .u16 r.value, .int .u32 r.enable, .int .u32 r.disable]
def wSubC (x : WSub × Value) : List Value := [.int .u32 x.1.cover, .int .u32 x.1.flags, x.2]
def wChainC (x : WChain × (Value × Value)) : List Value := [.int .u32 x.1.first, x.2.1, x.2.2, .int .u8 x.1.more]
def okRule (r : RuleD) : Prop := (0 ≤ r.type ∧ r.type ≤ 65535) ∧ (0 ≤ r.value ∧ r.value ≤ 65535) ∧ (0 ≤ r.enable ∧ r.enable ≤ 4294967295) ∧ (0 ≤ r.disable ∧ r.disable ≤ 4294967295)
def okSub (s : WSub) : Prop := (0 ≤ s.cover ∧ s.cover ≤ 4294967295) ∧ (0 ≤ s.flags ∧ s.flags ≤ 4294967295) ∧ (∀ x ∈ s.data, 0 ≤ x ∧ x ≤ 255) ∧ s.data.length ≤ 400
def okChain (c : WChain) : Prop := (0 ≤ c.first ∧ c.first ≤ 4294967295) ∧ (0 ≤ c.more ∧ c.more ≤ 255) ∧ (∀ r ∈ c.rules, okRule r) ∧ (∀ s ∈ c.subs, okSub s) ∧ c.rules.length ≤ 40 ∧ c.subs.length ≤ 10
def WData (w : World) (v : Value) (D : List Int) : Prop := ∃ a cap, v = .slice a D.length cap ∧ VB w a D ∧ D.length ≤ cap ∧ cap ≤ maxLen ∧ (a = none → cap = 0)
def WSubs (w : World) (v : Value) (l : List WSub) : Prop := ∃ ds : List Value, ds.length = l.length ∧ Row.Leads w v l.length ((l.zip ds).flatMap wSubC) ∧ ∀ (j : Nat) (s : WSub) (d : Value), l[j]? = some s → ds[j]? = some d → WData w d s.data
def WChains (w : World) (v : Value) (l : List WChain) : Prop := ∃ rs : List (Value × Value), rs.length = l.length ∧ Row.Leads w v l.length ((l.zip rs).flatMap wChainC) ∧
 ∀ (i : Nat) (c : WChain) (r : Value × Value), l[i]? = some c → rs[i]? = some r → Row.Leads w r.1 c.rules.length (c.rules.flatMap wRuleC) ∧ WSubs w r.2 c.subs
theorem vb_leads {w : World} {a : Option Addr} {D : List Int} (h : VB w a D) (cap : Nat) (hn : a = none → cap = 0) : Row.Leads w (.slice a D.length cap) D.length (D.map (Value.int .u8)) := by
 cases a with
 | none =>
  have h0 : D = [] := by
   cases D with
   | nil => rfl
   | cons x D => obtain ⟨b, o, h1, _⟩ := h.cell 0 (by simp); cases h1
  subst h0;rw [hn rfl];exact .inl ⟨rfl, rfl, rfl⟩
 | some x =>
  refine .inr ⟨x, cap, rfl, fun j u hu => ?_⟩
  have hj : j < D.length := by have := (List.getElem?_eq_some_iff.1 hu).1; simpa using this
  obtain ⟨b, o, h1, h2⟩ := h.cell j hj;cases h1;rw [Addr.add_lit, h2];rw [List.getElem?_map, List.getElem?_eq_getElem hj] at hu;rw [← hu]; simp [hj]
def ruleB (r : RuleD) : List Int := putB r.type 2 ++ putB r.value 2 ++ putB r.enable 4 ++ putB r.disable 4
def subB (s : WSub) : List Int := putB (12 + (s.data.length : Int)) 4 ++ putB s.cover 4 ++ putB s.flags 4 ++ s.data
def inB (c : WChain) : List Int := c.rules.flatMap ruleB ++ c.subs.flatMap subB ++ List.replicate (c.more % 8).toNat 0
def chainB (c : WChain) : List Int := putB c.first 4 ++ putB (16 + ((inB c).length : Int)) 4 ++ putB (c.rules.length : Int) 4 ++ putB (c.subs.length : Int) 4 ++ inB c
def headB (n : Nat) : List Int := putB 2 2 ++ putB 0 2 ++ putB (n : Int) 4
def writeB (l : List WChain) : List Int := headB l.length ++ l.flatMap chainB
theorem ruleB_len (r : RuleD) : (ruleB r).length = 12 := by simp [ruleB, putB_len]
theorem subB_len (s : WSub) : (subB s).length = 12 + s.data.length := by simp [subB, putB_len]; omega
theorem headB_len (n : Nat) : (headB n).length = 8 := by simp [headB, putB_len]
theorem inB_len_le (c : WChain) (h : okChain c) : (inB c).length ≤ 4607 := by
 obtain ⟨_, h2, _, h4, h5, h6⟩ := h;have a1 := Row.flat_len_le ruleB 12 c.rules (fun r _ => by rw [ruleB_len]; exact Nat.le_refl _)
 have a2 := Row.flat_len_le subB 412 c.subs (fun s hs => by rw [subB_len]; have := (h4 s hs).2.2.2; omega)
 simp only [inB, List.length_append, List.length_replicate];omega
theorem chainB_len_le (c : WChain) (h : okChain c) : (chainB c).length ≤ 4623 := by
 have := inB_len_le c h;simp only [chainB, List.length_append, putB_len];omega
theorem wRuleC_len (r : RuleD) : (wRuleC r).length = 4 := rfl
theorem wSubC_len (x : WSub × Value) : (wSubC x).length = 3 := rfl
theorem wChainC_len (x : WChain × (Value × Value)) : (wChainC x).length = 4 := rfl
end Ch
namespace Ch
open Vw Wr
set_option maxRecDepth 100000 in
set_option maxHeartbeats 16000000 in
theorem write_any (v : Value) (l : List WChain) (w : World) (hl : l.length ≤ 10) (hok : ∀ c ∈ l, okChain c) (hin : WChains w v l) :
  Calls Tryz.prog 22 #[v] w fun e w' => ∃ v', e = .returned v' ∧ w'.ownsRow w.heap.size 5 1 v' (writeB l).length ((writeB l).map (Value.int .u8)) ∧ Below w.heap.size w w' := by
 obtain ⟨rs, hrl, hlead, hel⟩ := hin;obtain ⟨ad, cap, rfl⟩ := Row.leads_slice hlead;obtain ⟨n, hn⟩ : ∃ n, n = l.length := ⟨_, rfl⟩;rw [← hn];have hn10 : n ≤ 10 := by omega
 have HN := Bas.hid hn;have HEL := Bas.hid hel;have HLD := Bas.hid hlead;have HOK := Bas.hid hok;have HRL := Bas.hid hrl;clear hrl hlead hel hok hn;have hemp : w.ownsRow w.heap.size 5 1 (.slice none 0 0) ([] : List Int).length (([] : List Int).map (Value.int .u8)) := Row.owned_nil _ _ _ _;have HE := Bas.hid hemp;clear hemp;go_enter Tryz.func22, Tryz.ntmps22
 go_wp2_with (fail);refine (put_any 2 2 w.heap.size _ [] w (by omega) (by omega) (by omega) (by simp) (Nat.le_refl _) HE.out).mono ?_
 rintro e w1 ⟨v1, rfl, hg1⟩;go_wp2_with (fail);refine (put_any 0 2 w.heap.size _ _ w1 (by omega) (by omega) (by omega) (by simp [putB_len]) hg1.grow.size hg1.own).mono ?_
 rintro e w2 ⟨v2, rfl, hg2⟩;have hg12 := hg1.trans hg2;go_wp2_with (fail);refine (put_any (n : Int) 4 w.heap.size _ _ w2 (by omega) (by omega) (by omega) (by simp [putB_len]) hg12.grow.size hg12.own).mono ?_
 rintro e w3 ⟨v3, rfl, hg3⟩;have hg123 := hg12.trans hg3;have HB3 := Bas.hid (hg123.below (Below.refl w.heap.size w) (Nat.le_refl _) (fun g h => by cases h))
 have HO3 := Bas.hid hg123.own;have hh : ([] ++ putB 2 2 ++ putB 0 2 ++ putB (n : Int) 4) = headB n := by simp [headB]
 rw [hh] at HO3;clear hg1 hg2 hg12 hg3 hg123 hh;go_wp2_with (fail);go_loopw [3, 5, 6, 8, 10, 18] (fun xb _ _ _ _ vi wr => ∃ (k : Nat) (vb : Value), k ≤ n ∧ vi = .int .i64 k ∧ vb = xb ∧ wr.ownsRow w.heap.size 5 1 vb (headB n ++ (l.take k).flatMap chainB).length ((headB n ++ (l.take k).flatMap chainB).map (Value.int .u8)) ∧ Below w.heap.size w wr) (fun _ _ _ _ _ vi _ => n - (intOf vi).toNat)
 case atStart => exact ⟨0, _, Nat.zero_le _, rfl, rfl, by simpa using HO3.out, HB3.out⟩
 case round =>
  obtain ⟨k, vb, hk, rfl, hvb, hown, hb⟩ := hrel;rw [← hvb];clear hvb;have HO := Bas.hid hown;have HB := Bas.hid hb;by_cases hkn : k < n
  ·have hlen := HN.out;obtain ⟨c, hc⟩ : ∃ c, l[k]? = some c := ⟨_, List.getElem?_eq_getElem (by omega)⟩
   obtain ⟨r, hr⟩ : ∃ r, rs[k]? = some r := ⟨_, List.getElem?_eq_getElem (by rw [HRL.out]; omega)⟩
   obtain ⟨hru, hsu⟩ := HEL.out k c r hc hr;have hokc := HOK.out c (List.mem_of_getElem? hc);have hz : (l.zip rs)[k]? = some (c, r) := List.getElem?_zip_eq_some.2 ⟨hc, hr⟩;obtain ⟨B0, O0, cp0, hv0, hcl⟩ := Row.leads_elem wChainC_len HLD.out hz (by omega)
   obtain ⟨vr, vs⟩ := r;obtain ⟨ds, hdl, hsl, hsd⟩ := hsu;obtain ⟨ar, cr, rfl⟩ := Row.leads_slice hru;obtain ⟨as', cs', rfl⟩ := Row.leads_slice hsl;cases hv0;have q0 := (hb.cell (p := ⟨B0, O0 + k * 4, none⟩) (World.block_lt_of_cell? _ _ (hcl 0 _ rfl))).trans (hcl 0 _ rfl);have q1 := (hb.cell (p := ⟨B0, O0 + k * 4 + 1, none⟩) (World.block_lt_of_cell? _ _ (hcl 1 _ rfl))).trans (hcl 1 _ rfl);have q2 := (hb.cell (p := ⟨B0, O0 + k * 4 + 2, none⟩) (World.block_lt_of_cell? _ _ (hcl 2 _ rfl))).trans (hcl 2 _ rfl);have q3 := (hb.cell (p := ⟨B0, O0 + k * 4 + 3, none⟩) (World.block_lt_of_cell? _ _ (hcl 3 _ rfl))).trans (hcl 3 _ rfl);have HRU := Bas.hid hru;have HCK := Bas.hid hc;have HSL := Bas.hid hsl;have HSD := Bas.hid hsd;have HDL := Bas.hid hdl;have HOKC := Bas.hid hokc;obtain ⟨nr, hnr⟩ : ∃ nr, nr = c.rules.length := ⟨_, rfl⟩;obtain ⟨ns, hns⟩ : ∃ ns, ns = c.subs.length := ⟨_, rfl⟩;simp only [← hnr, ← hns] at q0 q1 q2 q3 HRU HSL;have hnr40 : nr ≤ 40 := by rw [hnr]; exact hokc.2.2.2.2.1
   have hns10 : ns ≤ 10 := by rw [hns]; exact hokc.2.2.2.2.2
   have HNR := Bas.hid hnr;have HNS := Bas.hid hns;clear hcl hru hsl hsd hdl hokc hb hown hr hnr hns HO3 HB3 HE hlen;go_wp2_with (fail);have k5 := Bas.heap_new wr (.cells #[.int .u32 c.first, .slice ar nr cr, .slice as' ns cs', .int .u8 c.more] 31);have hbc := (Below.refl wr.heap.size wr).alloc (Nat.le_refl _) (.cells #[.int .u32 c.first, .slice ar nr cr, .slice as' ns cs', .int .u8 c.more] 31);have HOc := Bas.hid (Row.owned_below HO.out hbc);have HBc := Bas.hid (HB.out.trans (hbc.mono HB.out.size));have hlb : ∀ g, vb.ownBlock = some g → g < wr.heap.size := fun g hg => (Row.own_block HO.out hg).2
   generalize wr.alloc (.cells #[.int .u32 c.first, .slice ar nr cr, .slice as' ns cs', .int .u8 c.more] 31) = Wc at *;generalize wr.heap.size = T5 at k5 hlb ⊢;have hT5 : T5 < Wc.heap.size := heap_lt k5;have hsc := HBc.out.size;clear q0 q1 q2 q3 hbc HO HB;go_loopw [6, 8, 25] (fun xin _ vi wr => ∃ (i : Nat) (vin : Value), i ≤ nr ∧ vi = .int .i64 i ∧ vin = xin ∧ wr.ownsRow Wc.heap.size 5 1 vin ((c.rules.take i).flatMap ruleB).length (((c.rules.take i).flatMap ruleB).map (Value.int .u8)) ∧ Below Wc.heap.size Wc wr) (fun _ _ vi _ => nr - (intOf vi).toNat)
   case atStart => exact ⟨0, _, Nat.zero_le _, rfl, rfl, by simpa using Row.owned_nil _ _ _ _, Below.refl _ _⟩
   case round =>
    obtain ⟨i, vin, hi, rfl, hvin, hown, hb⟩ := hrel;rw [← hvin];clear hvin;by_cases hin : i < nr
    ·have hlen := HNR.out;obtain ⟨r, hr⟩ : ∃ r, c.rules[i]? = some r := ⟨_, List.getElem?_eq_getElem (by omega)⟩
     obtain ⟨B1, O1, cp1, hv1, hcl⟩ := Row.leads_elem wRuleC_len HRU.out hr (by omega)
     cases hv1;have HBw := HBc.out.trans (hb.mono hsc);have q0 := (HBw.cell (p := ⟨B1, O1 + i * 4, none⟩) (World.block_lt_of_cell? _ _ (hcl 0 _ rfl))).trans (hcl 0 _ rfl);have q1 := (HBw.cell (p := ⟨B1, O1 + i * 4 + 1, none⟩) (World.block_lt_of_cell? _ _ (hcl 1 _ rfl))).trans (hcl 1 _ rfl);have q2 := (HBw.cell (p := ⟨B1, O1 + i * 4 + 2, none⟩) (World.block_lt_of_cell? _ _ (hcl 2 _ rfl))).trans (hcl 2 _ rfl);have q3 := (HBw.cell (p := ⟨B1, O1 + i * 4 + 3, none⟩) (World.block_lt_of_cell? _ _ (hcl 3 _ rfl))).trans (hcl 3 _ rfl);obtain ⟨⟨o1, o2⟩, ⟨o3, o4⟩, ⟨o5, o6⟩, ⟨o7, o8⟩⟩ := HOKC.out.2.2.1 r (List.mem_of_getElem? hr);have hylen : ((c.rules.take i).flatMap ruleB).length ≤ 12 * i := Row.take_len_le ruleB 12 c.rules i (fun r _ => by rw [ruleB_len]; exact Nat.le_refl _) (by omega)
     have HNEW : Hid ((c.rules.take (i + 1)).flatMap ruleB = (c.rules.take i).flatMap ruleB ++ (putB r.type 2 ++ putB r.value 2 ++ putB r.enable 4 ++ putB r.disable 4)) := Row.take_flat ruleB c.rules i r hr;obtain ⟨r1, r2, r3, r4⟩ := r;simp only at q0 q1 q2 q3 o1 o2 o3 o4 o5 o6 o7 o8 HNEW;generalize (c.rules.take i).flatMap ruleB = ys at *;clear hcl HBw hr hlen;go_wp2_with (fail);have k8 := Bas.heap_new wr (.cells #[.int .u16 r1, .int .u16 r2, .int .u32 r3, .int .u32 r4] 111);have hbW := (Below.refl wr.heap.size wr).alloc (Nat.le_refl _) (.cells #[.int .u16 r1, .int .u16 r2, .int .u32 r3, .int .u32 r4] 111);have hO8 := Row.owned_below hown hbW;have HB8 := Bas.hid (hb.trans (hbW.mono hb.size));have hnl : vin.ownBlock ≠ some wr.heap.size := fun e => Nat.lt_irrefl _ (Row.own_block hown e).2
     generalize wr.alloc (.cells #[.int .u16 r1, .int .u16 r2, .int .u32 r3, .int .u32 r4] 111) = W8 at *;generalize wr.heap.size = T8 at k8 hnl ⊢;have Abase : Wc.heap.size ≤ W8.drew.heap.size := HB8.out.size;clear q0 q1 q2 q3 hown hb hbW;have Ad := Row.owned_keep hO8 (w' := W8.drew) (fun _ _ => rfl)
     obtain ⟨AI, AF, Ai, AF0, AFg, AFw, AFb⟩ := Pl.fam_g W8 (vin).ownBlock;have Ac0 := fun i => (Bas.gcell (AFb i) (b := T8) (o := 0) (heap_lt k8) hnl).trans (cell_of_heap (i := 0) (v := .int .u16 r1) k8 rfl)
     have Ac1 := fun i => (Bas.gcell (AFb i) (b := T8) (o := 1) (heap_lt k8) hnl).trans (cell_of_heap (i := 1) (v := .int .u16 r2) k8 rfl)
     have AFH := Bas.hid AF0;have AhI : Nonempty AI := ⟨Ai⟩;have AFW := Bas.hid AFw;clear AF0 AFw AFg AFb;refine Pl.region_plan0 Ai [(true, 0), (true, 1), (true, 2), (true, 3), (true, 5), (true, 6), (true, 7), (false, 4), (false, 8), (false, 9)] [8, 9] (by kernel_rfl) (by kernel_rfl) (fun _ _ _ _ e h => ⟨e ▸ h.1, h.2⟩) AFH.out ?_
     refine Pl.head_sel0 [(true, 0), (true, 1), (true, 2), (true, 3), (true, 5), (true, 6), (true, 7)] (by kernel_rfl) (by kernel_rfl) ?_
     simp only [Pl.sel, List.drop_succ_cons, List.drop_zero];repeat (go_big_quiet_step (fail))
     refine wpQuiet_nil ?_;rw [← AFH.out];clear Ac0 Ac1 AFH;refine Pl.one_sel (by kernel_rfl) ?_
     intro Q' hQ' hP';simp only [Pl.sel, List.drop_succ_cons, List.drop_zero];go_wp2_with (fail);refine (put_any r1 2 Wc.heap.size _ _ W8.drew (by omega) (by omega) (by omega) (by first | omega | (simp only [List.length_append, putB_len]; omega)) Abase Ad).mono ?_
     rintro e Aw1 ⟨Av1, rfl, Ag1⟩;have Agg := Bas.gtrans (Bas.gdrew (Bas.grefl W8 _)) Ag1.grow;go_wp2_with (fail);refine hQ' _ _ (fun _ _ => AFW.out _ Agg) ?_
     clear hQ' hP' Q' Agg AFW;refine Pl.tail_sel [(false, 8), (false, 9)] (by kernel_rfl) (by kernel_rfl) ?_
     simp only [Pl.sel, List.drop_succ_cons, List.drop_zero];go_wp2_with (fail);refine (put_any r2 2 Wc.heap.size _ _ Aw1 (by omega) (by omega) (by omega) (by first | omega | (simp only [List.length_append, putB_len]; omega)) (Nat.le_trans Abase Ag1.grow.size) Ag1.own).mono ?_
     rintro e Aw ⟨Av, rfl, Ag2⟩;have Ag := Ag1.trans Ag2;clear Ag1 Ag2;have Bne : Av.ownBlock ≠ some T8 := by
      intro e;rcases Ag.at' with h | ⟨g, h, h2⟩
      ·exact hnl (h ▸ e)
      ·rw [h] at e; cases e;exact absurd (heap_lt k8) (Nat.not_lt.2 h2)
     have Bk : Aw.heap[T8]? = _ := (Ag.grow.block T8 (heap_lt k8) (fun e => hnl e.symm)).trans k8
     have HBA := Bas.hid (Ag.below (HB8.out.drew) (by exact HB8.out.size) (fun g hg => (Row.own_block hO8 hg).1))
     have BO := Ag.own;have HAG := Bas.hid Ag;have Bbase : Wc.heap.size ≤ Aw.drew.heap.size := HBA.out.size;clear Ag k8 hnl hO8 HB8 Abase Ad;go_wp2_with (fail);have Bd := Row.owned_keep BO (w' := Aw.drew) (fun _ _ => rfl)
     obtain ⟨BI, BF, Bi, BF0, BFg, BFw, BFb⟩ := Pl.fam_g Aw (Av).ownBlock;have Bc0 := fun i => (Bas.gcell (BFb i) (b := T8) (o := 2) (heap_lt Bk) Bne).trans (cell_of_heap (i := 2) (v := .int .u32 r3) Bk rfl)
     have Bc1 := fun i => (Bas.gcell (BFb i) (b := T8) (o := 3) (heap_lt Bk) Bne).trans (cell_of_heap (i := 3) (v := .int .u32 r4) Bk rfl)
     have BFH := Bas.hid BF0;have BhI : Nonempty BI := ⟨Bi⟩;have BFW := Bas.hid BFw;clear BF0 BFw BFg BFb;refine Pl.region_plan0 Bi [(true, 0), (true, 1), (true, 2), (true, 3), (true, 5), (true, 6), (true, 7), (false, 4), (false, 8), (false, 9)] [8, 9] (by kernel_rfl) (by kernel_rfl) (fun _ _ _ _ e h => ⟨e ▸ h.1, h.2⟩) BFH.out ?_
     refine Pl.head_sel0 [(true, 0), (true, 1), (true, 2), (true, 3), (true, 5), (true, 6), (true, 7)] (by kernel_rfl) (by kernel_rfl) ?_
     simp only [Pl.sel, List.drop_succ_cons, List.drop_zero];repeat (go_big_quiet_step (fail))
     refine wpQuiet_nil ?_;rw [← BFH.out];clear Bc0 Bc1 BFH;refine Pl.one_sel (by kernel_rfl) ?_
     intro Q' hQ' hP';simp only [Pl.sel, List.drop_succ_cons, List.drop_zero];go_wp2_with (fail);refine (put_any r3 4 Wc.heap.size _ _ Aw.drew (by omega) (by omega) (by omega) (by first | omega | (simp only [List.length_append, putB_len]; omega)) Bbase Bd).mono ?_
     rintro e Bw1 ⟨Bv1, rfl, Bg1⟩;have Bgg := Bas.gtrans (Bas.gdrew (Bas.grefl Aw _)) Bg1.grow;go_wp2_with (fail);refine hQ' _ _ (fun _ _ => BFW.out _ Bgg) ?_
     clear hQ' hP' Q' Bgg BFW;refine Pl.tail_sel [(false, 8), (false, 9)] (by kernel_rfl) (by kernel_rfl) ?_
     simp only [Pl.sel, List.drop_succ_cons, List.drop_zero];go_wp2_with (fail);refine (put_any r4 4 Wc.heap.size _ _ Bw1 (by omega) (by omega) (by omega) (by first | omega | (simp only [List.length_append, putB_len]; omega)) (Nat.le_trans Bbase Bg1.grow.size) Bg1.own).mono ?_
     rintro e Bw ⟨Bv, rfl, Bg2⟩;have Bg := Bg1.trans Bg2;clear Bg1 Bg2;have HBB := Bas.hid (Bg.below (HBA.out.drew) (by exact HBA.out.size) (fun g hg => (Row.own_block BO hg).1))
     have HBO := Bas.hid Bg.own;clear Bg BO Bk Bne Bd;go_wp2_with (fail);go_roundw
     case rel => exact ⟨i + 1, _, by omega, by go_num, rfl, by rw [HNEW.out]; simpa only [List.append_assoc] using HBO.out, HBB.out⟩
     case measure => simp [intOf]; omega
    ·have hkn2 : i = nr := by omega
     subst hkn2;have hfl : (c.rules.take i).flatMap ruleB = c.rules.flatMap ruleB := by rw [HNR.out, List.take_length]
     rw [hfl] at hown;have hrl : (c.rules.flatMap ruleB).length ≤ 480 := by
      have := Row.flat_len_le ruleB 12 c.rules (fun r _ => by rw [ruleB_len]; exact Nat.le_refl _)
      have h2 := HNR.out;omega
     have HOI := Bas.hid hown;have HBI := Bas.hid hb;clear hown hb hfl;have kk5 := (HBI.out.block _ hT5).trans k5;have c52 := cell_of_heap (i := 2) (v := .slice as' ns cs') kk5 rfl;go_wp2_with (fail);obtain ⟨wo, hwo⟩ : ∃ wo : World, wo = wr := ⟨_, rfl⟩;rw [← hwo] at HBI HOI;rw [← hwo];clear hwo kk5 c52;go_loopw [6, 10, 51] (fun xin _ vi wr => ∃ (j : Nat) (vj : Value), j ≤ ns ∧ vi = .int .i64 j ∧ vj = xin ∧ wr.ownsRow Wc.heap.size 5 1 vj (c.rules.flatMap ruleB ++ (c.subs.take j).flatMap subB).length ((c.rules.flatMap ruleB ++ (c.subs.take j).flatMap subB).map (Value.int .u8)) ∧ Below Wc.heap.size Wc wr) (fun _ _ vi _ => ns - (intOf vi).toNat)
     case atStart => exact ⟨0, _, Nat.zero_le _, rfl, rfl, by simpa using HOI.out, HBI.out⟩
     case round =>
      obtain ⟨j, vj, hj, rfl, hvj, hown, hb⟩ := hrel;rw [← hvj];clear hvj;by_cases hjn : j < ns
      ·have hlen := HNS.out;obtain ⟨s, hs⟩ : ∃ s, c.subs[j]? = some s := ⟨_, List.getElem?_eq_getElem (by omega)⟩
       obtain ⟨d, hd⟩ : ∃ d, ds[j]? = some d := ⟨_, List.getElem?_eq_getElem (by rw [HDL.out]; omega)⟩
       have hz : (c.subs.zip ds)[j]? = some (s, d) := List.getElem?_zip_eq_some.2 ⟨hs, hd⟩;obtain ⟨B1, O1, cp1, hv1, hcl⟩ := Row.leads_elem wSubC_len HSL.out hz (by omega)
       cases hv1;obtain ⟨da, dcap, rfl, hdv, hdc, hdm, hdn⟩ := HSD.out j s d hs hd;have hB0 : w.heap.size ≤ Wc.heap.size := hsc;have HBw := HBc.out.trans (hb.mono hsc);have q0 := (HBw.cell (p := ⟨B1, O1 + j * 3, none⟩) (World.block_lt_of_cell? _ _ (hcl 0 _ rfl))).trans (hcl 0 _ rfl);have q1 := (HBw.cell (p := ⟨B1, O1 + j * 3 + 1, none⟩) (World.block_lt_of_cell? _ _ (hcl 1 _ rfl))).trans (hcl 1 _ rfl);have q2 := (HBw.cell (p := ⟨B1, O1 + j * 3 + 2, none⟩) (World.block_lt_of_cell? _ _ (hcl 2 _ rfl))).trans (hcl 2 _ rfl);obtain ⟨⟨o1, o2⟩, ⟨o3, o4⟩, -, o5⟩ := HOKC.out.2.2.2.1 s (List.mem_of_getElem? hs);have hylen : (c.rules.flatMap ruleB ++ (c.subs.take j).flatMap subB).length ≤ 480 + 412 * j := by
        have := Row.take_len_le subB 412 c.subs j (fun s hs => by rw [subB_len]; have := (HOKC.out.2.2.2.1 s hs).2.2.2; omega) (by omega)
        rw [List.length_append]; omega
       have HNEW : Hid (c.rules.flatMap ruleB ++ (c.subs.take (j + 1)).flatMap subB = (c.rules.flatMap ruleB ++ (c.subs.take j).flatMap subB) ++ (putB (12 + (s.data.length : Int)) 4 ++ putB s.cover 4 ++ putB s.flags 4 ++ s.data)) := by
        unfold Hid; rw [Row.take_flat subB c.subs j s hs, ← List.append_assoc]; rfl
       have hblk : s.data.map (Value.int .u8) ≠ [] → ∀ x, da = some x → x.block < w.heap.size := fun hne x hx => by
        have h0 : 0 < s.data.length := by
         rcases Nat.eq_zero_or_pos s.data.length with h | h
         ·exact absurd (List.map_eq_nil_iff.2 (List.length_eq_zero_iff.1 h)) hne
         ·exact h
        obtain ⟨b, o, h1, h2⟩ := hdv.cell 0 h0;rw [hx] at h1; cases h1;exact World.block_lt_of_cell? _ _ h2
       have HBLK := Bas.hid hblk;have HDV := Bas.hid (hdv.below HBw);obtain ⟨s1, s2, D⟩ := s;simp only at q0 q1 q2 o1 o2 o3 o4 o5 HNEW HBLK HDV hdc;obtain ⟨m, hm⟩ : ∃ m, m = D.length := ⟨_, rfl⟩;have HM := Bas.hid hm;simp only [← hm] at q2 o5 HNEW hdc;generalize c.rules.flatMap ruleB ++ (c.subs.take j).flatMap subB = ys at *;clear hcl HBw hs hd hz hlen hdv hblk hm;go_wp2_with (fail);have k8 := Bas.heap_new wr (.cells #[.int .u32 s1, .int .u32 s2, .slice da m dcap] 44);have hbW := (Below.refl wr.heap.size wr).alloc (Nat.le_refl _) (.cells #[.int .u32 s1, .int .u32 s2, .slice da m dcap] 44);have hO8 := Row.owned_below hown hbW;have HB8 := Bas.hid (hb.trans (hbW.mono hb.size));have HDV8 := Bas.hid (HDV.out.below hbW);have hnl : vj.ownBlock ≠ some wr.heap.size := fun e => Nat.lt_irrefl _ (Row.own_block hown e).2
       generalize wr.alloc (.cells #[.int .u32 s1, .int .u32 s2, .slice da m dcap] 44) = W8 at *;generalize wr.heap.size = T8 at k8 hnl ⊢;have Abase : Wc.heap.size ≤ W8.drew.heap.size := HB8.out.size;clear q0 q1 q2 hown hb hbW HDV;have Ad := Row.owned_keep hO8 (w' := W8.drew) (fun _ _ => rfl)
       obtain ⟨AI, AF, Ai, AF0, AFg, AFw, AFb⟩ := Pl.fam_g W8 (vj).ownBlock;have Ac0 := fun i => (Bas.gcell (AFb i) (b := T8) (o := 2) (heap_lt k8) hnl).trans (cell_of_heap (i := 2) (v := .slice da m dcap) k8 rfl)
       have Ac1 := fun i => (Bas.gcell (AFb i) (b := T8) (o := 0) (heap_lt k8) hnl).trans (cell_of_heap (i := 0) (v := .int .u32 s1) k8 rfl)
       have AFH := Bas.hid AF0;have AhI : Nonempty AI := ⟨Ai⟩;have AFW := Bas.hid AFw;clear AF0 AFw AFg AFb;refine Pl.region_plan0 Ai [(true, 0), (true, 1), (true, 2), (true, 3), (true, 4), (true, 6), (true, 7), (true, 8), (false, 5), (false, 9), (false, 10)] [9, 10] (by kernel_rfl) (by kernel_rfl) (fun _ _ _ _ e h => ⟨e ▸ h.1, h.2⟩) AFH.out ?_
       refine Pl.head_sel0 [(true, 0), (true, 1), (true, 2), (true, 3), (true, 4), (true, 6), (true, 7), (true, 8)] (by kernel_rfl) (by kernel_rfl) ?_
       simp only [Pl.sel, List.drop_succ_cons, List.drop_zero];repeat (go_big_quiet_step (fail))
       refine wpQuiet_nil ?_;rw [← AFH.out];clear Ac0 Ac1 AFH;refine Pl.one_sel (by kernel_rfl) ?_
       intro Q' hQ' hP';simp only [Pl.sel, List.drop_succ_cons, List.drop_zero];go_wp2_with (fail);refine (put_any (12 + (m : Int)) 4 Wc.heap.size _ _ W8.drew (by omega) (by omega) (by omega) (by first | omega | (simp only [List.length_append, putB_len]; omega)) Abase Ad).mono ?_
       rintro e Aw1 ⟨Av1, rfl, Ag1⟩;have Agg := Bas.gtrans (Bas.gdrew (Bas.grefl W8 _)) Ag1.grow;go_wp2_with (fail);refine hQ' _ _ (fun _ _ => AFW.out _ Agg) ?_
       clear hQ' hP' Q' Agg AFW;refine Pl.tail_sel [(false, 9), (false, 10)] (by kernel_rfl) (by kernel_rfl) ?_
       simp only [Pl.sel, List.drop_succ_cons, List.drop_zero];go_wp2_with (fail);refine (put_any s1 4 Wc.heap.size _ _ Aw1 (by omega) (by omega) (by omega) (by first | omega | (simp only [List.length_append, putB_len]; omega)) (Nat.le_trans Abase Ag1.grow.size) Ag1.own).mono ?_
       rintro e Aw ⟨Av, rfl, Ag2⟩;have Ag := Ag1.trans Ag2;clear Ag1 Ag2;have Bne : Av.ownBlock ≠ some T8 := by
        intro e;rcases Ag.at' with h | ⟨g, h, h2⟩
        ·exact hnl (h ▸ e)
        ·rw [h] at e; cases e;exact absurd (heap_lt k8) (Nat.not_lt.2 h2)
       have Bk : Aw.heap[T8]? = _ := (Ag.grow.block T8 (heap_lt k8) (fun e => hnl e.symm)).trans k8
       have HBA := Bas.hid (Ag.below (HB8.out.drew) (by exact HB8.out.size) (fun g hg => (Row.own_block hO8 hg).1))
       have BO := Ag.own;have Bbase : Wc.heap.size ≤ Aw.drew.heap.size := HBA.out.size;have Bld : Row.Leads Aw (.slice da m dcap) m (D.map (Value.int .u8)) := by
        have h := vb_leads (Vw.VB_apart HDV8.out (Bas.gtrans (Bas.gdrew (Bas.grefl W8 _)) Ag.grow) (fun g hg x hx hne => by
         have h1 := HBLK.out (fun e => hne (List.map_eq_nil_iff.1 e)) x hx
         have h2 := (Row.own_block hO8 hg).1;omega)) dcap hdn
        rw [← HM.out] at h;exact h
       have Blen : Hid (m = D.length) := HM;have Bsrc : ∀ g, Av.ownBlock = some g → ∀ ad len cap, Value.slice da m dcap = .slice (some ad) len cap → D.map (Value.int .u8) ≠ [] → ad.block ≠ g := fun g hg ad len cap he hne => by
        cases he;have h1 := HBLK.out hne _ rfl;have h2 := (Row.own_block BO hg).1;omega
       clear Ag k8 hnl hO8 HB8 Abase Ad HDV8;go_wp2_with (fail);have Bd := Row.owned_keep BO (w' := Aw.drew) (fun _ _ => rfl)
       obtain ⟨BI, BF, Bi, BF0, BFg, BFw, BFb⟩ := Pl.fam_g Aw (Av).ownBlock;have Bc0 := fun i => (Bas.gcell (BFb i) (b := T8) (o := 1) (heap_lt Bk) Bne).trans (cell_of_heap (i := 1) (v := .int .u32 s2) Bk rfl)
       have Bc1 := fun i => (Bas.gcell (BFb i) (b := T8) (o := 2) (heap_lt Bk) Bne).trans (cell_of_heap (i := 2) (v := .slice da m dcap) Bk rfl)
       have BFH := Bas.hid BF0;have BhI : Nonempty BI := ⟨Bi⟩;have BFW := Bas.hid BFw;clear BF0 BFw BFg BFb;refine Pl.region_plan0 Bi [(true, 0), (true, 1), (true, 2), (true, 3), (true, 5), (true, 6), (false, 4), (false, 7), (false, 8)] [7, 8] (by kernel_rfl) (by kernel_rfl) (fun _ _ _ _ e h => ⟨e ▸ h.1, h.2⟩) BFH.out ?_
       refine Pl.head_sel0 [(true, 0), (true, 1), (true, 2), (true, 3), (true, 5), (true, 6)] (by kernel_rfl) (by kernel_rfl) ?_
       simp only [Pl.sel, List.drop_succ_cons, List.drop_zero];repeat (go_big_quiet_step (fail))
       refine wpQuiet_nil ?_;rw [← BFH.out];clear Bc0 Bc1 BFH;refine Pl.one_sel (by kernel_rfl) ?_
       intro Q' hQ' hP';simp only [Pl.sel, List.drop_succ_cons, List.drop_zero];go_wp2_with (fail);refine (put_any s2 4 Wc.heap.size _ _ Aw.drew (by omega) (by omega) (by omega) (by first | omega | (simp only [List.length_append, putB_len]; omega)) Bbase Bd).mono ?_
       rintro e Bw1 ⟨Bv1, rfl, Bg1⟩;have Bgg := Bas.gtrans (Bas.gdrew (Bas.grefl Aw _)) Bg1.grow;have Bld := Row.leads_apart Bld Bgg Bsrc;go_wp2_with (fail);refine hQ' _ _ (fun _ _ => BFW.out _ Bgg) ?_
       clear hQ' hP' Q' Bgg BFW;refine Pl.tail_sel [(false, 7), (false, 8)] (by kernel_rfl) (by kernel_rfl) ?_
       simp only [Pl.sel, List.drop_succ_cons, List.drop_zero];refine Row.append_at rfl _ _ 42 5 rfl (.int .u8 0) 1 1 Tryz.underlying42 info8 rfl (by decide) Wc.heap.size Bv1 _ _ rfl Bg1.own (.slice da m dcap) m _ rfl Bld (by simp [← Blen.out]) (by simp; intros; rfl) (by unfold maxLen; simp only [List.length_append, putB_len]; omega) (by simp only [List.length_append, putB_len]; omega) (Nat.le_trans Bbase Bg1.grow.size) ?_
       intro Bv Bw Bh1 Bh2 _ Bh3;have Bg : Grown Aw.drew Wc.heap.size _ ((ys ++ putB (12 + (m : Int)) 4 ++ putB s1 4) ++ putB s2 4 ++ D) Bv Bw := Bg1.trans ⟨by simpa only [List.map_append, List.length_append, ← Blen.out, Nat.add_assoc] using Bh1, Bh2, Bh3.imp id fun h => ⟨_, h, Nat.le_refl _⟩⟩
       clear Bg1 Bh1 Bh2 Bh3 Bld Blen;have HBB := Bas.hid (Bg.below (HBA.out.drew) (by exact HBA.out.size) (fun g hg => (Row.own_block BO hg).1))
       have HBO := Bas.hid Bg.own;clear Bg BO Bk Bne Bd Bsrc;go_wp2_with (fail);go_roundw
       case rel => exact ⟨j + 1, _, by omega, by go_num, rfl, by rw [HNEW.out]; simpa only [List.append_assoc] using HBO.out, HBB.out⟩
       case measure => simp [intOf]; omega
      ·have hkn3 : j = ns := by omega
       subst hkn3;have hfl : (c.subs.take j).flatMap subB = c.subs.flatMap subB := by rw [HNS.out, List.take_length]
       rw [hfl] at hown;have hil := inB_len_le c HOKC.out;have HINB : Hid (inB c = c.rules.flatMap ruleB ++ c.subs.flatMap subB ++ List.replicate (c.more % 8).toNat 0) := rfl;have hrsl : (c.rules.flatMap ruleB ++ c.subs.flatMap subB).length ≤ 4607 := by
        rw [HINB.out, List.length_append] at hil; omega
       have hm8 : c.more % 8 = ((c.more % 8).toNat : Int) := by have := HOKC.out.2.1; omega
       have hz8 : (c.more % 8).toNat ≤ 7 := by omega
       obtain ⟨⟨of1, of2⟩, ⟨om1, om2⟩, -⟩ := HOKC.out;have HOJ := Bas.hid hown;have HBJ := Bas.hid hb;have kk5 := (HBJ.out.block _ hT5).trans k5;have c50 := cell_of_heap (i := 0) (v := .int .u32 c.first) kk5 rfl;have c53 := cell_of_heap (i := 3) (v := .int .u8 c.more) kk5 rfl;have HM8 := Bas.hid hm8;have HCH : Hid (chainB c = putB c.first 4 ++ putB (16 + ((inB c).length : Int)) 4 ++ putB (c.rules.length : Int) 4 ++ putB (c.subs.length : Int) 4 ++ inB c) := rfl;have HPRE : Hid ((headB n ++ (l.take k).flatMap chainB).length ≤ 8 + 4623 * k) := by
        unfold Hid;have := Row.take_len_le chainB 4623 l k (fun x hx => chainB_len_le x (HOK.out x hx)) (by have := HN.out; omega)
        rw [List.length_append, headB_len]; omega
       clear hown hb hfl hm8 hil;go_wp2_with (at_builtin; refine Row.fence ?_);refine Row.unfence ?_;rw [HM8.out];refine Row.append_zeros rfl _ _ 42 5 5 rfl (.int .u8 0) 1 .u8 .u8 Tryz.underlying42 Tryz.underlying5 info8 rfl rfl Wc.heap.size vj _ _ rfl HOJ.out (c.more % 8).toNat rfl (by unfold maxLen; omega) (by omega) HBJ.out.size ?_
       intro v18 w18 hown18 hg18 _ hat18;have hown18' : w18.ownsRow Wc.heap.size 5 1 v18 (inB c).length ((inB c).map (Value.int .u8)) := by
        rw [HINB.out];simpa only [List.map_append, List.length_append, List.length_replicate, List.map_replicate, List.append_assoc, Nat.add_assoc] using hown18
       have HB18 := Bas.hid (HBJ.out.grown hg18 HBJ.out.size (fun g hg => (Row.own_block HOJ.out hg).1))
       have kk5 := (HB18.out.block _ hT5).trans k5;have c50 := cell_of_heap (i := 0) (v := .int .u32 c.first) kk5 rfl;have HO18 := Bas.hid hown18';have hil2 := inB_len_le c (HOK.out c (List.mem_of_getElem? HCK.out));obtain ⟨IL, hIL⟩ : ∃ IL, IL = (inB c).length := ⟨_, rfl⟩;have HIL := Bas.hid hIL;rw [← hIL] at hil2;obtain ⟨ad18, cp18, rfl⟩ := own_slice hown18';rw [← hIL];have hbO := Row.owned_keep HOc.out (w' := w18) (fun g hg => HB18.out.block g (Nat.lt_trans (hlb g hg) hT5))
       have HBW18 := Bas.hid (HBc.out.trans (HB18.out.mono hsc));have Abase : w.heap.size ≤ w18.heap.size := HBW18.out.size;have hpre := HPRE.out;clear hown18 hown18' hg18 hat18 c53 hIL;go_wp2_with (fail);refine (put_any c.first 4 w.heap.size _ _ w18 (by omega) (by omega) (by omega) (by omega) Abase hbO).mono ?_
       rintro e wP ⟨vP, rfl, gP⟩;go_wp2_with (fail);refine (put_any (16 + (IL : Int)) 4 w.heap.size _ _ wP (by omega) (by omega) (by omega) (by simp only [List.length_append, putB_len]; simp only [List.length_append] at hpre; omega) (Nat.le_trans Abase gP.grow.size) gP.own).mono ?_
       rintro e wQ ⟨vQ, rfl, gQ⟩;have gPQ := gP.trans gQ;have hvin : ∀ g, vb.ownBlock = some g → g < Wc.heap.size := fun g hg => Nat.lt_trans (hlb g hg) hT5
       have kQ : wQ.heap[T5]? = _ := (gPQ.grow.block T5 (Nat.lt_of_lt_of_le hT5 HB18.out.size) (fun e => Nat.lt_irrefl _ (hlb _ e.symm))).trans kk5
       have inQ := Row.owned_keep HO18.out (w' := wQ) (fun g hg => gPQ.grow.block g (Row.own_block HO18.out hg).2 (fun e => Nat.lt_irrefl _ (Nat.lt_of_lt_of_le (hvin _ e.symm) (Row.own_block HO18.out hg).1)))
       have neQ5 : vQ.ownBlock ≠ some T5 := by
        intro e;rcases gPQ.at' with h | ⟨g, h, h2⟩
        ·exact Nat.lt_irrefl _ (hlb _ (h ▸ e))
        ·rw [h] at e; cases e;exact absurd (Nat.lt_of_lt_of_le hT5 HB18.out.size) (Nat.not_lt.2 h2)
       have neQi : ∀ g, Value.ownBlock (.slice ad18 (inB c).length cp18) = some g → vQ.ownBlock ≠ some g := by
        intro g hg e;rcases gPQ.at' with h | ⟨g', h, h2⟩
        ·exact Nat.lt_irrefl _ (Nat.lt_of_lt_of_le (hvin _ (h ▸ e)) (Row.own_block HO18.out hg).1)
        ·rw [h] at e; cases e;exact absurd (Row.own_block HO18.out hg).2 (Nat.not_lt.2 h2)
       have HBQ := Bas.hid (gPQ.below HBW18.out Abase (fun g hg => (Row.own_block hbO hg).1))
       have Bbase : w.heap.size ≤ wQ.drew.heap.size := HBQ.out.size;have BO := gPQ.own;have HINQ := Bas.hid inQ;have HNEI := Bas.hid neQi;rw [← HIL.out] at HINQ HNEI;clear gP gQ gPQ kk5 c50 hbO inQ neQi HB18 HO18 HBW18 Abase HOc;go_wp2_with (fail);have Bd := Row.owned_keep BO (w' := wQ.drew) (fun _ _ => rfl)
       obtain ⟨BI, BF, Bi, BF0, BFg, BFw, BFb⟩ := Pl.fam_g wQ vQ.ownBlock;have Bc0 := fun q => (Bas.gcell (BFb q) (b := T5) (o := 1) (heap_lt kQ) neQ5).trans (cell_of_heap (i := 1) (v := .slice ar i cr) kQ rfl)
       have Bc1 := fun q => (Bas.gcell (BFb q) (b := T5) (o := 2) (heap_lt kQ) neQ5).trans (cell_of_heap (i := 2) (v := .slice as' j cs') kQ rfl)
       have BFH := Bas.hid BF0;have BhI : Nonempty BI := ⟨Bi⟩;have BFW := Bas.hid BFw;clear BF0 BFw BFg BFb;refine Pl.region_plan0 Bi [(true, 0), (true, 1), (true, 2), (true, 3), (true, 5), (true, 6), (true, 7), (true, 9), (false, 4), (false, 8), (false, 10), (false, 11)] [8, 10, 11] (by kernel_rfl) (by kernel_rfl) (fun _ _ _ _ e h => ⟨e ▸ h.1, h.2⟩) BFH.out ?_
       refine Pl.head_sel0 [(true, 0), (true, 1), (true, 2), (true, 3), (true, 5), (true, 6), (true, 7), (true, 9)] (by kernel_rfl) (by kernel_rfl) ?_
       simp only [Pl.sel, List.drop_succ_cons, List.drop_zero];repeat (go_big_quiet_step (fail))
       refine wpQuiet_nil ?_;rw [← BFH.out];clear Bc0 Bc1 BFH;refine Pl.one_sel (by kernel_rfl) ?_
       intro Q' hQ' hP';simp only [Pl.sel, List.drop_succ_cons, List.drop_zero];go_wp2_with (fail);refine (put_any (i : Int) 4 w.heap.size _ _ wQ.drew (by omega) (by omega) (by omega) (by simp only [List.length_append, putB_len]; simp only [List.length_append] at hpre; omega) Bbase Bd).mono ?_
       rintro e Bw1 ⟨Bv1, rfl, Bg1⟩;have Bgg := Bas.gtrans (Bas.gdrew (Bas.grefl wQ _)) Bg1.grow;go_wp2_with (fail);refine hQ' _ _ (fun _ _ => BFW.out _ Bgg) ?_
       clear hQ' hP' Q' Bgg BFW;refine Pl.tail_sel [(false, 8), (false, 10), (false, 11)] (by kernel_rfl) (by kernel_rfl) ?_
       simp only [Pl.sel, List.drop_succ_cons, List.drop_zero];go_wp2_with (fail);refine (put_any (j : Int) 4 w.heap.size _ _ Bw1 (by omega) (by omega) (by omega) (by simp only [List.length_append, putB_len]; simp only [List.length_append] at hpre; omega) (Nat.le_trans Bbase Bg1.grow.size) Bg1.own).mono ?_
       rintro e Bw2 ⟨Bv2, rfl, Bg2⟩;have Bg := Bg1.trans Bg2;have inB2 := Row.owned_keep HINQ.out (w' := Bw2) (fun g hg => Bg.grow.block g (Row.own_block HINQ.out hg).2 (fun e => HNEI.out g hg e.symm))
       clear Bg1 Bg2;go_wp2_with (at_builtin; refine Row.fence ?_);refine Row.unfence ?_;refine Row.append_at rfl _ _ 42 5 rfl (.int .u8 0) 1 1 Tryz.underlying42 info8 rfl (by decide) w.heap.size Bv2 _ _ rfl Bg.own (.slice ad18 IL cp18) IL _ rfl (Row.leads_owned inB2) (by simp [← HIL.out]) (by simp; intros; rfl) (by unfold maxLen; simp only [List.length_append, putB_len]; simp only [List.length_append] at hpre; omega) (by simp only [List.length_append, putB_len]; simp only [List.length_append] at hpre; omega) (Nat.le_trans Bbase Bg.grow.size) ?_
       intro v9 w9 h91 h92 _ h93;have g9 : Grown wQ.drew w.heap.size vQ (headB n ++ (l.take (k + 1)).flatMap chainB) v9 w9 := by
        have hx : headB n ++ (l.take (k + 1)).flatMap chainB = headB n ++ (l.take k).flatMap chainB ++ putB c.first 4 ++ putB (16 + (IL : Int)) 4 ++ putB (i : Int) 4 ++ putB (j : Int) 4 ++ inB c := by
         rw [Row.take_flat chainB l k c HCK.out, HCH.out, ← HIL.out, ← HNR.out, ← HNS.out];simp only [List.append_assoc]
        rw [hx];exact Bg.trans ⟨by simpa only [List.map_append, List.length_append, HIL.out, Nat.add_assoc] using h91, h92, h93.imp id fun h => ⟨_, h, Nat.le_refl _⟩⟩
       have HBF := Bas.hid (g9.below (HBQ.out.drew) (by exact HBQ.out.size) (fun g hg => (Row.own_block BO hg).1))
       have HOF := Bas.hid g9.own;clear g9 Bg h91 h92 h93 inB2 BO kQ neQ5 Bd;go_wp2_with (fail);go_roundw
       case rel => exact ⟨k + 1, _, by omega, by go_num, rfl, HOF.out, HBF.out⟩
       case measure => simp [intOf]; omega
  ·have hkn2 : k = n := by omega
   have hfin : headB n ++ (l.take k).flatMap chainB = writeB l := by
    unfold writeB; rw [hkn2, HN.out, List.take_length]
   rw [hfin] at HO;obtain ⟨ad9, cp9, rfl⟩ := own_slice HO.out;clear hown hb hfin;go_wp2_with (fail);go_ret;exact ⟨_, rfl, HO.out, HB.out⟩
end Ch
namespace Pk
open Ch Ft Go.Maps
theorem own_empty {w : World} {base size g : Nat} {e : TypeId} (hg : w.heap[g]? = some (.cells #[] e (0, 0))) (hbg : base ≤ g) : w.ownsRow base e size (.slice (some ⟨g, 0, none⟩) 0 0) 0 [] :=
 ⟨by simp, .inr ⟨g, 0, #[], rfl, hbg, hg, Nat.le_refl _, Nat.zero_le _, by simp, by simp⟩⟩
section
variable {ops : Array Oper} {C : World → Prop} {K : Act → Prop} {act : Act} {o : Oper} {a b c d : Int}
end
end Pk
namespace Ln
open Ch
section
variable {ops : Array Oper} {C : World → Prop} {K : Act → Prop} {act : Act} {o : Oper} {a b c d : Int}
end
set_option maxRecDepth 100000 in
set_option maxHeartbeats 4000000 in
theorem rnew_any (va : Value) (ids : List Int) (n : Nat) (w : World) (hl : Row.Leads w va n (ids.map (Value.int .i64))) (hn : ids.length = n) (hn2 : n ≤ 4294967296) :
  Calls Tryz.prog 27 #[va] w fun e w' => Below w.heap.size w w' ∧ ∃ v', e = .returned v' ∧ w'.ownsRow w.heap.size 47 2 v' n ((lnNew ids).flatMap glC) := by
 obtain ⟨ad, cp, rfl⟩ := Row.leads_slice hl;have HL := Bas.hid hl;have k1 := Bas.heap_new w (.cells #[] 47);have hb1 := (Below.refl w.heap.size w).alloc (Nat.le_refl _) (.cells #[] 47);have HO1 := Bas.hid (Pk.own_empty (e := 47) (size := 2) k1 (Nat.le_refl _));have HB := Bas.hid hb1;have HN := Bas.hid hn;clear hb1 hl hn k1;go_enter Tryz.func27, Tryz.ntmps27
 go_wp2_with (fail);generalize w.alloc (.cells #[] 47) = W1 at *;go_loopw [3, 4] (fun v vi wr => ∃ i : Nat, i ≤ n ∧ vi = .int .i64 i ∧ wr.ownsRow w.heap.size 47 2 v i ((lnPre ids i).flatMap glC) ∧ Below w.heap.size w wr) (fun _ vi _ => n - (intOf vi).toNat)
 case atStart => exact ⟨0, Nat.zero_le _, rfl, HO1.out, HB.out⟩
 case round =>
  obtain ⟨i, hi, rfl, ho, hB⟩ := hrel;have HO := Bas.hid ho;have HB2 := Bas.hid hB;obtain ⟨a3, cs, rfl⟩ := own_slice ho;by_cases hin : i < n
  ·have e1 : decide ((i : Int) < (n : Int)) = true := by simp; omega
   have e2 : decide (i < n) = true := by simp; omega
   obtain ⟨x, hx⟩ : ∃ x, ids[i]? = some x := ⟨_, List.getElem?_eq_getElem (by rw [HN.out]; exact hin)⟩
   have hlw : Row.Leads wr (.slice ad n cp) n (ids.map (Value.int .i64)) := Row.leads_below HL.out hB;obtain ⟨bo, oo, c2, hv, hc⟩ := St.leads_at hlw (i := i) (u := .int .i64 x) (by rw [List.getElem?_map, hx]; rfl)
   cases hv;have lb := World.block_lt_of_cell? _ _ hc;have HX : Hid (lnPre ids (i + 1) = lnPre ids i ++ [(x, (i : Int))]) := by unfold Hid; rw [lnPre_succ, List.getD_eq_getElem?_getD, hx]; rfl
   clear ho hB hlw hx HO1 HB;go_wp2_with (at_builtin; refine Row.fence ?_);refine Row.unfence ?_;have q2 := Bas.heap_new wr (.cells #[.int .i64 x, .int .i64 i] 47);have hb2 := (Below.refl wr.heap.size wr).alloc (Nat.le_refl _) (.cells #[.int .i64 x, .int .i64 i] 47);have HO3 := Bas.hid (Row.owned_below HO.out hb2);have HB3 := Bas.hid (HB2.out.trans (hb2.mono HB2.out.size));clear hb2 hc lb;generalize wr.alloc (.cells #[.int .i64 x, .int .i64 i] 47) = W2 at *;refine Row.append_any rfl _ _ 39 47 rfl (.agg #[.int .i64 0, .int .i64 0]) 2 16 Tryz.underlying39 infoG rfl (by decide) w.heap.size (.slice a3 i cs) i _ rfl HO3.out (.slice (some ⟨wr.heap.size, 0, none⟩) 1 1) 1 [.int .i64 x, .int .i64 i] rfl (leads_heap q2) rfl (by simp; first | exact ⟨rfl, rfl⟩ | exact rfl) (by unfold maxLen; omega) (by omega) HB3.out.size ?_
   intro v7 w7 ho7 hg7 _;have HO7 : Hid (w7.ownsRow w.heap.size 47 2 v7 (i + 1) ((lnPre ids (i + 1)).flatMap glC)) := by
    unfold Hid; rw [HX.out, List.flatMap_append]; exact ho7
   have HB7 := Bas.hid (HB3.out.grown hg7 HB3.out.size (fun g' hg' => (Row.own_block HO3.out hg').1))
   clear hg7 ho7 q2;go_wp2_with (fail);go_roundw
   case rel => exact ⟨i + 1, by omega, by go_num, HO7.out, HB7.out⟩
   case measure => simp [intOf]; omega
  ·have e1 : decide ((i : Int) < (n : Int)) = false := by simp; omega
   have e3 : ¬ (i : Int) < (n : Int) := by omega
   have HF : Hid (wr.ownsRow w.heap.size 47 2 (.slice a3 i cs) n ((lnNew ids).flatMap glC)) := by
    have hin2 : i = n := by omega
    unfold Hid lnNew; rw [HN.out, ← hin2]; exact ho
   clear ho hB;go_wp2_with (fail);go_ret;exact ⟨HB2.out, _, rfl, HF.out⟩
theorem cleanL_snoc (l : List Gl) (x : Gl) : cleanL (l ++ [x]) = cleanL l ++ (if x.1 = 65535 then [] else [x]) := by
 unfold cleanL;rw [List.filter_append];by_cases h : x.1 = 65535 <;> simp [h]
theorem cleanL_take {xs : List Gl} {i : Nat} {x : Gl} (hx : xs[i]? = some x) : cleanL (xs.take (i + 1)) = cleanL (xs.take i) ++ (if x.1 = 65535 then [] else [x]) := by
 rw [List.take_add_one, hx]; exact cleanL_snoc _ _
theorem cleanL_len (xs : List Gl) : (cleanL xs).length ≤ xs.length := by unfold cleanL; exact List.length_filter_le _ _
set_option maxRecDepth 100000 in
set_option maxHeartbeats 4000000 in
theorem rclean_any (va : Value) (xs : List Gl) (n : Nat) (w : World) (hl : Row.Leads w va n (xs.flatMap glC)) (hn : xs.length = n) (hn2 : n ≤ 4294967296) :
  Calls Tryz.prog 26 #[va] w fun e w' => Below w.heap.size w w' ∧ ∃ v', e = .returned v' ∧ w'.ownsRow w.heap.size 47 2 v' (cleanL xs).length ((cleanL xs).flatMap glC) := by
 obtain ⟨ad, cp, rfl⟩ := Row.leads_slice hl;have HL := Bas.hid hl;have k1 := Bas.heap_new w (.cells #[] 47);have hb1 := (Below.refl w.heap.size w).alloc (Nat.le_refl _) (.cells #[] 47);have HO1 := Bas.hid (Pk.own_empty (e := 47) (size := 2) k1 (Nat.le_refl _));have HB := Bas.hid hb1;have HN := Bas.hid hn;clear hb1 hl hn k1;go_enter Tryz.func26, Tryz.ntmps26
 go_wp2_with (fail);generalize w.alloc (.cells #[] 47) = W1 at *;go_loopw [3, 4] (fun v vi wr => ∃ i : Nat, i ≤ n ∧ vi = .int .i64 i ∧ wr.ownsRow w.heap.size 47 2 v (cleanL (xs.take i)).length ((cleanL (xs.take i)).flatMap glC) ∧ Below w.heap.size w wr) (fun _ vi _ => n - (intOf vi).toNat)
 case atStart => exact ⟨0, Nat.zero_le _, rfl, HO1.out, HB.out⟩
 case round =>
  obtain ⟨i, hi, rfl, ho, hB⟩ := hrel;have HO := Bas.hid ho;have HB2 := Bas.hid hB;obtain ⟨a3, cs, rfl⟩ := own_slice ho;by_cases hin : i < n
  ·have e1 : decide ((i : Int) < (n : Int)) = true := by simp; omega
   have e2 : decide (i < n) = true := by simp; omega
   obtain ⟨⟨x, y⟩, hx⟩ : ∃ x, xs[i]? = some x := ⟨_, List.getElem?_eq_getElem (by rw [HN.out]; exact hin)⟩
   have HX := Bas.hid (cleanL_take hx);obtain ⟨bo, oo, c2, hv, hc⟩ := Row.leads_elem glC_len (Row.leads_below HL.out hB) hx (by omega)
   cases hv;have d0 := hc 0 _ rfl;have d1 := hc 1 _ rfl;simp only [Nat.add_zero] at d0;have lb := World.block_lt_of_cell? _ _ d0;have HCN : Hid ((cleanL (xs.take i)).length ≤ i) := by
    unfold Hid; have := cleanL_len (xs.take i); rw [List.length_take] at this; omega
   generalize hcl : cleanL (xs.take i) = cl at *;generalize hcn : cl.length = cn at *;have HCL := Bas.hid hcn;clear ho hB hx HO1 HB hc hcl hcn;by_cases hxd : x = 65535
   ·subst hxd;go_wp2_with (fail);go_roundw
    case rel => exact ⟨i + 1, by omega, by go_num, by rw [HX.out, if_pos rfl, List.append_nil, HCL.out]; exact HO.out, HB2.out⟩
    case measure => simp [intOf]; omega
   ·have e4 : decide (x = 65535) = false := by simpa using hxd
    have e5 : (x == 65535) = false := by simpa using hxd
    go_wp2_with (at_builtin; refine Row.fence ?_);refine Row.unfence ?_;have q2 := Bas.heap_new wr (.cells #[.int .i64 x, .int .i64 y] 47);have hb2 := (Below.refl wr.heap.size wr).alloc (Nat.le_refl _) (.cells #[.int .i64 x, .int .i64 y] 47);have HO3 := Bas.hid (Row.owned_below HO.out hb2);have HB3 := Bas.hid (HB2.out.trans (hb2.mono HB2.out.size));have hcn2 := HCN.out;clear hb2 d0 d1 lb;generalize wr.alloc (.cells #[.int .i64 x, .int .i64 y] 47) = W2 at *;refine Row.append_any rfl _ _ 39 47 rfl (.agg #[.int .i64 0, .int .i64 0]) 2 16 Tryz.underlying39 infoG rfl (by decide) w.heap.size (.slice a3 cn cs) cn _ rfl HO3.out (.slice (some ⟨wr.heap.size, 0, none⟩) 1 1) 1 [.int .i64 x, .int .i64 y] rfl (leads_heap q2) rfl (by simp; first | exact ⟨rfl, rfl⟩ | exact rfl) (by unfold maxLen; omega) (by omega) HB3.out.size ?_
    intro v7 w7 ho7 hg7 _;have HO7 : Hid (w7.ownsRow w.heap.size 47 2 v7 (cleanL (xs.take (i + 1))).length ((cleanL (xs.take (i + 1))).flatMap glC)) := by
     unfold Hid; rw [HX.out, if_neg hxd, List.flatMap_append, List.length_append, HCL.out]; exact ho7
    have HB7 := Bas.hid (HB3.out.grown hg7 HB3.out.size (fun g' hg' => (Row.own_block HO3.out hg').1))
    clear hg7 ho7 q2 hcn2;go_wp2_with (fail);go_roundw
    case rel => exact ⟨i + 1, by omega, by go_num, HO7.out, HB7.out⟩
    case measure => simp [intOf]; omega
  ·have e1 : decide ((i : Int) < (n : Int)) = false := by simp; omega
   have e3 : ¬ (i : Int) < (n : Int) := by omega
   have HF : Hid (wr.ownsRow w.heap.size 47 2 (.slice a3 (cleanL (xs.take i)).length cs) (cleanL xs).length ((cleanL xs).flatMap glC)) := by
    rw [List.take_of_length_le (by rw [HN.out]; omega)] at ho ⊢
    exact ho
   clear ho hB;go_wp2_with (fail);go_ret;exact ⟨HB2.out, _, rfl, HF.out⟩
set_option maxRecDepth 100000 in
set_option maxHeartbeats 4000000 in
theorem rsame_any (va vb : Value) (xs : List Gl) (n : Nat) (w : World) (hl : Row.Leads w va n (xs.flatMap glC)) (hl2 : Row.Leads w vb n (xs.flatMap glC)) (hn : xs.length = n) (hn2 : n ≤ 4294967296) :
  Calls Tryz.prog 11 #[va, vb] w fun e w' => e = .returned (.bool true) ∧ Below w.heap.size w w' := by
 obtain ⟨ad, cp, rfl⟩ := Row.leads_slice hl;obtain ⟨ad2, cp2, rfl⟩ := Row.leads_slice hl2;have HL := Bas.hid hl;have HL2 := Bas.hid hl2;have HN := Bas.hid hn;have eN : ((n : Int) == (n : Int)) = true := by simp
 clear hl hl2 hn;go_enter Tryz.func11, Tryz.ntmps11
 go_wp2_with (fail);go_loopw [5] (fun vi wr => ∃ i : Nat, i ≤ n ∧ vi = .int .i64 i ∧ Below w.heap.size w wr) (fun vi _ => n - (intOf vi).toNat)
 case atStart => exact ⟨0, Nat.zero_le _, rfl, Below.refl _ _⟩
 case round =>
  obtain ⟨i, hi, rfl, hB⟩ := hrel;have HB2 := Bas.hid hB;by_cases hin : i < n
  ·have e1 : decide ((i : Int) < (n : Int)) = true := by simp; omega
   have e2 : decide (i < n) = true := by simp; omega
   obtain ⟨⟨x, y⟩, hx⟩ : ∃ x, xs[i]? = some x := ⟨_, List.getElem?_eq_getElem (by rw [HN.out]; exact hin)⟩
   obtain ⟨b1, o1, c1, hv, h1⟩ := Row.leads_elem glC_len (Row.leads_below HL.out hB) hx (by omega)
   obtain ⟨b2, o2, c2, hv2, h2⟩ := Row.leads_elem glC_len (Row.leads_below HL2.out hB) hx (by omega)
   cases hv;cases hv2;have d0 := h1 0 _ rfl;have d1 := h1 1 _ rfl;have f0 := h2 0 _ rfl;have f1 := h2 1 _ rfl;simp only [Nat.add_zero] at d0 f0;have l1 : b1 < wr.heap.size := World.block_lt_of_cell? _ _ d0;have l2 : b2 < wr.heap.size := World.block_lt_of_cell? _ _ f0;have g0 : (decide (x = x) && decide (y = y)) = true := by simp
   clear hB hx h1 h2;go_wp2_with (fail);refine' Pl.region_v0 26 [] [0, 1, 2, 3, 4, 5, 6, 7, 8] [] _ (by kernel_rfl) (by kernel_rfl) (by simp) (fun _ _ _ _ e h => ⟨e ▸ h.1, h.2⟩) ?_ ?_
   rotate_left
   ·intro I F hI hF;simp only [Pl.selN, List.nil_append, List.drop_succ_cons, List.drop_zero];have x0 := fun q => hF.cell l1 d0 q
    have x1 := fun q => hF.cell l1 d1 q
    have y0 := fun q => hF.cell l2 f0 q
    have y1 := fun q => hF.cell l2 f1 q
    repeat (first | go_big_quiet_step (fail) | (go_big_quiet_want; refine quiet_neqG _ _ _ rfl rfl rfl ?_; simp only [g0, Bool.not_true, Act.put, List.setIfInBounds_toArray, List.set_cons_zero, List.set_cons_succ]; go_big_quiet_on))
    refine wpQuiet_nil ?_;rfl
   intro w17 hw17;simp only [Pl.selN];have HB17 := Bas.hid (HB2.out.trans (hw17.mono HB2.out.size));clear hw17 d0 d1 f0 f1 l1 l2;go_wp2_with (fail);go_roundw
   case rel => exact ⟨i + 1, by omega, by go_num, HB17.out⟩
   case measure => simp [intOf]; omega
  ·have e1 : decide ((i : Int) < (n : Int)) = false := by simp; omega
   have e3 : ¬ (i : Int) < (n : Int) := by omega
   clear hB;go_wp2_with (fail);go_ret;exact ⟨rfl, HB2.out⟩
end Ln
end Go.Proofs.YtoncnjhhdlpliaaGreat
