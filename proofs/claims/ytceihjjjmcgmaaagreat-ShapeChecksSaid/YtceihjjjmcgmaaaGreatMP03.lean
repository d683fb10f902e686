/- Parts of a proof: texts WidthGet, ChainD, Mod, LnD, First, LkD, StD, LnSet, StGet, LnNew, LnClone, LnGlyphs, PcD, PcOps, PcNew, ShAdv, CoverA, ShChk, PlanC, DrAct, ShRun, ShTab, ShOpen1, LnRaw, LnRev, LnClean1, LnIndex, LnIns, LnDel, LnTurn, RearTake, LnInsert, Swap, CtxD, InsD, LigD, CoverB, MxD, MxE, MxRead. -/
import Derived.Test.YtceihjjjmcgmaaaGreatMP02
import Derived.OwnWalk
import Derived.Laws.ResultCell
import Derived.Laws.Cover3
import Derived.Laws.EntriesVeiled
import Derived.Lib.Overlaps
import Derived.Laws.IdiomCopy
namespace Go.Proofs.YtceihjjjmcgmaaaGreat
open Go.RowKit
namespace Fo
open Vw Wr
def advL (g m : Nat) (d : List Int) (id : Int) : Int := if 0 ≤ id ∧ id < g then be d (4 * (if (m : Int) - 1 < id then (m : Int) - 1 else id)).toNat 2 else 0
theorem isW_below {w w' : World} {base p g m : Nat} {d : List Int} (h : IsW w base p g m d) (hb : Below w.heap.size w w') : IsW w' base p g m d := by
 obtain ⟨h0, gb, cb, h1, h2, h3, h4, h5, h6⟩ := h;exact ⟨h0, gb, cb, h1, h2, (hb.block _ (heap_lt h3)).trans h3, h4, h5, h6.below hb⟩
set_option maxHeartbeats 4000000 in
theorem wadv_any (w : World) (base p g m : Nat) (d : List Int) (id : Int) (h : IsW w base p g m d) (hd : d.length = 4 * m + 2 * (g - m)) (hm1 : 1 ≤ m) (hmg : m ≤ g) (hgb : g ≤ 65535) :
  Calls Tryz.prog 121 #[.pointer (some ⟨p, 0, none⟩), .int .i64 id] w fun e w' => e = .returned (.int .i64 (advL g m d id)) ∧ Below w.heap.size w w' := by
 obtain ⟨-, gb, cb, -, -, k, hcb, hcm, hv⟩ := h;have c0 := cell_of_heap (i := 0) (v := .int .i64 (g : Nat)) k rfl;have c2 := cell_of_heap (i := 2) (v := .int .i64 (m : Nat)) k rfl;have c3 := cell_of_heap (i := 3) (v := .slice (some ⟨gb, 0, none⟩) d.length cb) k rfl;obtain ⟨r, hr⟩ : ∃ r, advL g m d id = r := ⟨_, rfl⟩;rw [hr];have HR := Bas.hid hr;obtain ⟨n, hn⟩ : ∃ n, d.length = n := ⟨_, rfl⟩;have HN := Bas.hid hn;rw [hn] at c3 hcb;have HB0 := Bas.hid (Below.refl w.heap.size w);by_cases h0 : id < 0
 ·have hr0 : r = 0 := by rw [← hr, advL, if_neg (by omega)]
  subst hr0;have e1 : decide (id < 0) = true := decide_eq_true h0;clear hr hn hd k hv;go_enter Tryz.func121, Tryz.ntmps121
  go_wp2_with (fail);go_ret;exact ⟨rfl, HB0.out⟩
 ·by_cases h1 : (g : Int) ≤ id
  ·have hr0 : r = 0 := by rw [← hr, advL, if_neg (by omega)]
   subst hr0;have e1 : decide (id < 0) = false := decide_eq_false h0;have e2 : decide ((g : Int) ≤ id) = true := decide_eq_true h1;have e3 : decide (id ≥ (g : Int)) = true := decide_eq_true h1;clear hr hn hd k hv;go_enter Tryz.func121, Tryz.ntmps121
   go_wp2_with (fail);go_ret;exact ⟨rfl, HB0.out⟩
  ·have e1 : decide (id < 0) = false := decide_eq_false h0;have e2 : decide ((g : Int) ≤ id) = false := decide_eq_false h1;have e3 : decide (id ≥ (g : Int)) = false := decide_eq_false h1;obtain ⟨q, hq⟩ : ∃ q, (if (m : Int) - 1 < id then (m : Int) - 1 else id) = q := ⟨_, rfl⟩
   have hq0 : 0 ≤ q ∧ q ≤ m - 1 := by rw [← hq]; split <;> omega
   obtain ⟨q0, q1⟩ := hq0;have HMIN := Bas.hid (fun (ts : Array TypeId) (t : TypeId) (w : World) => show (Builtin.min_ ts t #[.int .i64 id, .int .i64 ((m : Int) - 1)]).run Tryz.prog w = .ok (.int .i64 q) w by rw [run_min_int2, hq])
   have hre : r = be d (4 * q).toNat 2 := by rw [← hr, advL, if_pos (by omega), hq]
   have HU := Bas.hid (fun w' (hb : Below w.heap.size w w') => hre.symm ▸ u16_ok (some ⟨gb, 0, none⟩) n cb d (4 * q) w' hcb hcm (hv.below hb) hn (by omega) (by omega))
   clear hr hn hd hv hre hq;have hmin := HMIN.out;have lp := heap_lt k;go_enter Tryz.func121, Tryz.ntmps121
   go_wp2_with (fail);refine' Pl.region_v0 30 [] [0, 1, 2, 3, 4, 5, 6, 7, 8, 9, 10, 11, 12, 13] [14] _ (by kernel_rfl) (by kernel_rfl) (by simp) (fun _ _ _ _ e h => ⟨e ▸ h.1, h.2⟩) ?_ ?_
   rotate_left
   ·intro I F hI hF;simp only [Pl.selN, List.nil_append, List.drop_succ_cons, List.drop_zero];have x2 := fun i => hF.cell lp c2 i
    have x3 := fun i => hF.cell lp c3 i
    repeat (go_big_quiet_step ((go_at_call 103; with_reducible exact hF.call (HU.out _ (hF.on HB0.out _)))))
    refine wpQuiet_nil ?_;rfl
   intro u hu;simp only [Pl.selN];go_wp2_with (fail);go_ret;exact ⟨rfl, hu⟩
set_option maxHeartbeats 1000000 in
theorem wface_any (w : World) (base p g m : Nat) (d : List Int) (h : IsW w base p g m d) :
  Calls Tryz.prog 50 #[.pointer (some ⟨p, 0, none⟩)] w fun e w' => e = .returned (.agg #[.int .i64 (g : Nat), .int .i64 1000, .int .i64 (m : Nat)]) ∧ Below w.heap.size w w' := by
 obtain ⟨-, gb, cb, -, -, k, hcb, hcm, hv⟩ := h;have lp := heap_lt k;have k' := (Below.heap_alloc w (.cells #[.int .i64 0, .int .i64 0, .int .i64 0] 196) _ lp).trans k;have c0 := cell_of_heap (i := 0) (v := .int .i64 (g : Nat)) k' rfl;have c1 := cell_of_heap (i := 1) (v := .int .i64 1000) k' rfl;have c2 := cell_of_heap (i := 2) (v := .int .i64 (m : Nat)) k' rfl;have k0 := Bas.heap_new w (.cells #[.int .i64 0, .int .i64 0, .int .i64 0] 196);have HB0 := Bas.hid ((Below.refl w.heap.size w).alloc (Nat.le_refl _) (.cells #[.int .i64 0, .int .i64 0, .int .i64 0] 196));have d0 := cell_of_heap (i := 0) (v := .int .i64 0) k0 rfl;have d1 := cell_of_heap (i := 1) (v := .int .i64 0) k0 rfl;have d2 := cell_of_heap (i := 2) (v := .int .i64 0) k0 rfl;have f0 := fun i => free_of_heap (i := i) k0
 clear k hv;go_enter Tryz.func50, Tryz.ntmps50
 go_wp2_with (fail);have q := Bas.heap_new w (.cells #[.int .i64 (g : Nat), .int .i64 1000, .int .i64 (m : Nat)] 196);have q0 := cell_of_heap (i := 0) (v := .int .i64 (g : Nat)) q rfl;have q1 := cell_of_heap (i := 1) (v := .int .i64 1000) q rfl;have q2 := cell_of_heap (i := 2) (v := .int .i64 (m : Nat)) q rfl;exact bodyPost_ret (v := .agg #[.int .i64 (g : Nat), .int .i64 1000, .int .i64 (m : Nat)]) (by simp [results, Tryz.results50, go_sem]) rfl ⟨rfl, (Below.refl w.heap.size w).alloc (Nat.le_refl _) _⟩
end Fo
namespace Ch
open Vw
structure RuleD where
 type : Int
 value : Int
 enable : Int
 disable : Int
def ruleC (r : RuleD) : List Value := [.int .i64 r.type, .int .i64 r.value, .int .u32 r.enable, .int .u32 r.disable]
def rulesC (l : List RuleD) : List Value := l.flatMap ruleC
theorem cell_of_heap {w : World} {b i : Nat} {cs : Array Value} {t : TypeId} {v : Value} (h : w.heap[b]? = some (.cells cs t (0, 0))) (hi : cs[i]? = some v) : w.cell? ⟨b, i, none⟩ = some v := by
 simp [World.cell?, h, hi]
theorem free_of_heap {w : World} {b i : Nat} {cs : Array Value} {t : TypeId} (h : w.heap[b]? = some (.cells cs t (0, 0))) : w.frozen? ⟨b, i, none⟩ = false := by
 simp [World.frozen?, h]
theorem heap_set {w : World} {b i : Nat} {cs : Array Value} {t : TypeId} (h : w.heap[b]? = some (.cells cs t (0, 0))) (v : Value) : (w.setCell ⟨b, i, none⟩ v).heap[b]? = some (.cells (cs.setIfInBounds i v) t (0, 0)) := by
 simp [World.setCell, Array.getElem?_modify, h]
theorem heap_lt {w : World} {b : Nat} {o : Obj} (h : w.heap[b]? = some o) : b < w.heap.size := (Array.getElem?_eq_some_iff.1 h).1
theorem leads_heap {w : World} {g n c : Nat} {cs : List Value} {t : TypeId} (h : w.heap[g]? = some (.cells cs.toArray t (0, 0))) : Row.Leads w (.slice (some ⟨g, 0, none⟩) n c) n cs :=
 .inr ⟨_, c, rfl, fun j u hu => by rw [Addr.add_lit, Nat.zero_add]; exact cell_of_heap h (by simpa using hu)⟩
theorem own_slice {w : World} {base size : Nat} {e : TypeId} {v : Value} {n : Nat} {xs : List Value} (h : w.ownsRow base e size v n xs) : ∃ ad cp, v = .slice ad n cp := by
 rcases Row.owned_parts h with ⟨rfl, rfl, _⟩ | ⟨_, _, h, _⟩
 ·exact ⟨_, _, rfl⟩
 ·exact ⟨_, _, h⟩
theorem own_ty {w : World} {base : Nat} {v : Value} {n g size : Nat} {xs : List Value} {e t : TypeId} {cs : Array Value} (h : w.ownsRow base e size v n xs) (ho : w.heap[g]? = some (.cells cs t (0, 0))) (hne : e ≠ t) : v.ownBlock ≠ some g := by
 intro e';obtain ⟨_, ⟨rfl, _⟩ | ⟨g', cp, cur, rfl, _, hh, _⟩⟩ := h
 ·cases e'
 ·cases e';rw [hh] at ho;simp at ho;exact hne ho.2
end Ch
structure Mod (S : Nat → Prop) (w w' : World) : Prop where
 os : w'.os = w.os
 tape : w'.tape = w.tape
 output : w'.output = w.output
 size : w.heap.size ≤ w'.heap.size
 block : ∀ k, k < w.heap.size → ¬ S k → w'.heap[k]? = w.heap[k]?
namespace Mod
theorem refl (S : Nat → Prop) (w : World) : Mod S w w := ⟨rfl, rfl, rfl, Nat.le_refl _, fun _ _ _ => rfl⟩
theorem trans {S T : Nat → Prop} {a b c : World} (h : Mod S a b) (k : Mod T b c) (hT : ∀ i, T i → i < a.heap.size → S i) : Mod S a c :=
 ⟨k.os.trans h.os, k.tape.trans h.tape, k.output.trans h.output, Nat.le_trans h.size k.size, fun i hi hs => (k.block i (Nat.lt_of_lt_of_le hi h.size) (fun ht => hs (hT i ht hi))).trans (h.block i hi hs)⟩
theorem of_below {S : Nat → Prop} {a b : World} (h : Below a.heap.size a b) : Mod S a b := ⟨h.os, h.tape, h.output, h.size, fun i hi _ => h.block i hi⟩
theorem of_grown {S : Nat → Prop} {a b : World} {r : Option Nat} (h : a.grownBy b r) (hr : ∀ g, r = some g → S g) : Mod S a b := ⟨h.os, h.tape, h.output, h.size, fun i hi hs => h.block i hi (fun e => hs (hr i e.symm))⟩
theorem set {S : Nat → Prop} {a w : World} (h : Mod S a w) {b o : Nat} (v : Value) (hb : S b ∨ a.heap.size ≤ b) : Mod S a (w.setCell ⟨b, o, none⟩ v) :=
 ⟨h.os, h.tape, h.output, by simpa [World.setCell] using h.size, fun i hi hs => (Below.heap_setCell _ _ _ _ (fun e => by
  have e2 : i = b := e;rcases hb with hb | hb
  ·exact hs (e2 ▸ hb)
  ·omega)).trans (h.block i hi hs)⟩
theorem on {S : Nat → Prop} {a b c : World} (h : Mod S a b) (k : Below b.heap.size b c) : Mod S a c := h.trans (T := fun _ => False) (of_below k) (fun _ h _ => h.elim)
theorem below {S : Nat → Prop} {B : Nat} {a w w' : World} (h : Mod S w w') (ha : Below B a w) (hS : ∀ i, S i → B ≤ i) (hB : B ≤ w.heap.size) : Below B a w' :=
 ⟨h.os.trans ha.os, h.tape.trans ha.tape, h.output.trans ha.output, Nat.le_trans ha.size h.size, fun i hi => (h.block i (Nat.lt_of_lt_of_le hi hB) (fun hs => absurd (hS i hs) (Nat.not_le.2 hi))).trans (ha.block i hi)⟩
theorem heap {S : Nat → Prop} {w w' : World} (h : Mod S w w') {b : Nat} {o : Obj} (hc : w.heap[b]? = some o) (hb : ¬ S b) : w'.heap[b]? = some o := (h.block b (Ch.heap_lt hc) hb).trans hc
theorem owned {S : Nat → Prop} {w w' : World} (h : Mod S w w') {base size n : Nat} {e : TypeId} {v : Value} {xs : List Value} (ho : w.ownsRow base e size v n xs) (hb : ∀ g, v.ownBlock = some g → ¬ S g) : w'.ownsRow base e size v n xs :=
 Row.owned_keep ho fun g hg => h.block g (Row.own_block ho hg).2 (hb g hg)
end Mod
namespace Ln
open Ch
abbrev Gl := Int × Int
def glC (g : Gl) : List Value := [.int .i64 g.1, .int .i64 g.2]
theorem glC_len (g : Gl) : (glC g).length = 2 := rfl
theorem glC_flat (l : List Gl) : (l.flatMap glC).length = l.length * 2 := by
 induction l with
 | nil => rfl
 | cons s l ih => rw [List.flatMap_cons, List.length_append, ih, List.length_cons]; simp [glC]; omega
theorem glC_one (l : List Gl) : ∀ u ∈ l.flatMap glC, u.oneCell' = true := fun v hv => by
 obtain ⟨s, _, hs⟩ := List.mem_flatMap.1 hv;simp [glC] at hs;rcases hs with rfl | rfl <;> rfl
theorem infoG : (Tryz.prog.info? 78).map (fun i => (i.zero, i.size, i.bytes)) = some (some (.agg #[.int .i64 0, .int .i64 0]), 2, 16) := by kernel_rfl
structure LineAt (w : World) (base g : Nat) (sv : Value) (xs : List Gl) : Prop where
 head : w.heap[g]? = some (.cells #[sv] 322 (0, 0))
 own : w.ownsRow base 78 2 sv xs.length (xs.flatMap glC)
 low : base ≤ g
def blk (g : Nat) (sv : Value) (k : Nat) : Prop := k = g ∨ sv.ownBlock = some k
theorem LineAt.lt {w : World} {base g : Nat} {sv : Value} {xs : List Gl} (h : LineAt w base g sv xs) : g < w.heap.size := heap_lt h.head
theorem LineAt.blk_low {w : World} {base g : Nat} {sv : Value} {xs : List Gl} (h : LineAt w base g sv xs) : ∀ k, blk g sv k → base ≤ k ∧ k < w.heap.size := fun k hk => by
 rcases hk with rfl | hk
 ·exact ⟨h.low, h.lt⟩
 ·exact Row.own_block h.own hk
theorem LineAt.mod {S : Nat → Prop} {w w' : World} {base g : Nat} {sv : Value} {xs : List Gl} (h : LineAt w base g sv xs) (hm : Mod S w w') (hS : ∀ k, blk g sv k → ¬ S k) : LineAt w' base g sv xs :=
 ⟨hm.heap h.head (hS g (.inl rfl)), hm.owned h.own fun k hk => hS k (.inr hk), h.low⟩
theorem LineAt.below {w w' : World} {base g : Nat} {sv : Value} {xs : List Gl} (h : LineAt w base g sv xs) (hb : Below w.heap.size w w') : LineAt w' base g sv xs :=
 h.mod (S := fun _ => False) (Mod.of_below hb) (fun _ _ h => h)
theorem LineAt.ne {w : World} {base g : Nat} {sv : Value} {xs : List Gl} (h : LineAt w base g sv xs) : sv.ownBlock ≠ some g := own_ty h.own h.head (by decide)
def LnTo (w : World) (base g : Nat) (sv : Value) (ys : List Gl) (w' : World) : Prop := ∃ sv', LineAt w' base g sv' ys ∧ Mod (blk g sv) w w' ∧ ∀ k, sv'.ownBlock = some k → sv.ownBlock = some k ∨ w.heap.size ≤ k
theorem LnTo.refl {w : World} {base g : Nat} {sv : Value} {xs : List Gl} (h : LineAt w base g sv xs) : LnTo w base g sv xs w := ⟨sv, h, Mod.refl _ _, fun _ h => .inl h⟩
def cleanL (xs : List Gl) : List Gl := xs.filter fun g => decide (g.1 ≠ 65535)
end Ln
namespace Sk
def Asked (R : Nat → Nat → World → Prop) (lo hi mid : Nat) (e : Ending) (w' : World) : Prop :=
 ∃ b, e = .returned (.bool b) ∧ ((b = true ∧ R lo mid w') ∨ (b = false ∧ R (mid + 1) hi w'))
def Found (R : Nat → Nat → World → Prop) (n : Nat) (e : Ending) (w' : World) : Prop := ∃ k : Nat, k ≤ n ∧ e = .returned (.int .i64 k) ∧ R k k w'
set_option maxHeartbeats 1000000 in
theorem first_any (K : Nat) (caps : Array Value) (R : Nat → Nat → World → Prop) (n : Nat) (w : World) (hn : n ≤ 4294967296) (hcf : ∀ args w, (callFunc K args).run Tryz.prog w = .ok (.enter K args) w)
  (hstep : ∀ (lo hi : Nat) (w : World), lo < hi → hi ≤ n → R lo hi w → Calls Tryz.prog K (#[.int .i64 ((lo + (hi - lo) / 2 : Nat) : Int)] ++ caps) w (Asked R lo hi (lo + (hi - lo) / 2))) (h0 : R 0 n w) :
  Calls Tryz.prog 184 #[.int .i64 n, .func (.func K) #[] caps] w (Found R n) := by
 have HS := Bas.hid hstep;clear hstep;go_enter Tryz.func184, Tryz.ntmps184
 go_wp2_with (fail);go_loopw [5, 6] (fun a b wr => ∃ lo hi : Nat, lo ≤ hi ∧ hi ≤ n ∧ a = .int .i64 lo ∧ b = .int .i64 hi ∧ R lo hi wr) (fun a b _ => (intOf b - intOf a).toNat)
 case atStart => exact ⟨0, n, by omega, by omega, rfl, rfl, h0⟩
 case round =>
  obtain ⟨lo, hi, hlh, hhn, rfl, rfl, hR⟩ := hrel;have HR := Bas.hid hR;clear hR h0;by_cases hlt : lo < hi
  ·have C := HS.out lo hi wr hlt hhn HR.out;have e1 : ((lo : Int) + ((hi : Int) - (lo : Int)) / 2) = ((lo + (hi - lo) / 2 : Nat) : Int) := by omega
   have hm1 : lo ≤ lo + (hi - lo) / 2 := by omega
   have hm2 : lo + (hi - lo) / 2 < hi := by omega
   rw [← e1] at C;have HC := Bas.hid C;have HE := Bas.hid e1;clear C e1;go_wp2_with (fail);refine HC.out.mono ?_;rintro e w2 ⟨b, rfl, ⟨rfl, hR2⟩ | ⟨rfl, hR2⟩⟩
   ·have HR2 := Bas.hid hR2;clear hR2;go_wp2_with (fail);go_roundw
    case rel => exact ⟨lo, lo + (hi - lo) / 2, hm1, by omega, rfl, by rw [HE.out], HR2.out⟩
    case measure => simp [intOf]; omega
   ·have HR2 := Bas.hid hR2;clear hR2;go_wp2_with (fail);go_roundw
    case rel => exact ⟨lo + (hi - lo) / 2 + 1, hi, by omega, hhn, by rw [HE.out]; go_num, rfl, HR2.out⟩
    case measure => simp [intOf]; omega
  ·have : lo = hi := by omega
   subst this;go_wp2_with (fail);go_ret;exact ⟨lo, hhn, rfl, HR.out⟩
end Sk
namespace Lk
open Vw Sk Ch
structure PartD where
 first : Int
 last : Int
 vals : List Int
def prC (x : PartD × Value) : List Value := [.int .i64 x.1.first, .int .i64 x.1.last, x.2]
def LkAt (w : World) (v : Value) (ps : List PartD) : Prop :=
 ∃ g fmt vp vs, v = .pointer (some ⟨g, 0, none⟩) ∧ w.heap[g]? = some (.cells #[.int .i64 fmt, vp] 397 (0, 0)) ∧ vs.length = ps.length ∧ Row.Leads w vp ps.length ((ps.zip vs).flatMap prC) ∧
  ∀ (i : Nat) (p : PartD) (u : Value), ps[i]? = some p → vs[i]? = some u → Row.Leads w u p.vals.length (p.vals.map (Value.int .i64))
theorem LkAt.below {w w' : World} {v : Value} {ps : List PartD} (h : LkAt w v ps) (hb : Below w.heap.size w w') : LkAt w' v ps := by
 obtain ⟨g, fmt, vp, vs, h1, h2, h3, h4, h5⟩ := h;exact ⟨g, fmt, vp, vs, h1, (hb.block _ (heap_lt h2)).trans h2, h3, Row.leads_below h4 hb, fun i p u hp hu => Row.leads_below (h5 i p u hp hu) hb⟩
def Lives (a : Nat) (P : World → Prop) (w : World) : Prop := ∀ u : World, (∀ k, a ≤ k → k < w.heap.size → u.heap[k]? = w.heap[k]?) → P u
end Lk
namespace St
open Vw Sk Ch Lk
structure EntD where
 next : Int
 flags : Int
 a : Int
 b : Int
structure MachD where
 classes : Nat
 parts : List PartD
 rows : List (List Int)
 ents : List EntD
def enC (e : EntD) : List Value := [.int .i64 e.next, .int .i64 e.flags, .int .i64 e.a, .int .i64 e.b]
def MachAt (w : World) (v : Value) (M : MachD) : Prop :=
 ∃ g vt vr ve us, v = .pointer (some ⟨g, 0, none⟩) ∧ w.heap[g]? = some (.cells #[.int .i64 M.classes, vt, vr, ve] 479 (0, 0)) ∧ LkAt w vt M.parts ∧ us.length = M.rows.length ∧ Row.Leads w vr M.rows.length us ∧
  (∀ (i : Nat) (r : List Int) (u : Value), M.rows[i]? = some r → us[i]? = some u → Row.Leads w u r.length (r.map (Value.int .i64))) ∧ Row.Leads w ve M.ents.length (M.ents.flatMap enC)
theorem MachAt.below {w w' : World} {v : Value} {M : MachD} (h : MachAt w v M) (hb : Below w.heap.size w w') : MachAt w' v M := by
 obtain ⟨g, vt, vr, ve, us, h1, h2, h3, h4, h5, h6, h7⟩ := h;exact ⟨g, vt, vr, ve, us, h1, (hb.block _ (heap_lt h2)).trans h2, h3.below hb, h4, Row.leads_below h5 hb, fun i r u hr hu => Row.leads_below (h6 i r u hr hu) hb, Row.leads_below h7 hb⟩
end St
namespace Ln
open Ch
theorem own_putN {w : World} {base size g n cp : Nat} {e : TypeId} {xs : List Value} (h : w.ownsRow base e size (.slice (some ⟨g, 0, none⟩) n cp) n xs) (i : Nat) (v : Value) : (w.setCell ⟨g, i, none⟩ v).ownsRow base e size (.slice (some ⟨g, 0, none⟩) n cp) n (xs.set i v) := by
 obtain ⟨h1, ⟨h2, _⟩ | ⟨g', cap, cur, hv, hb, hh, hc, hx, hs, ht⟩⟩ := h
 ·cases h2
 ·cases hv;have q1 := heap_set (i := i) hh v;refine ⟨by simpa using h1, .inr ⟨g, cp, _, rfl, hb, q1, hc, hx, by simpa using hs, ?_⟩⟩
  rw [← ht];simp [List.take_set]
theorem glC_set1 : ∀ (l : List Gl) (k : Nat) (a : Int) (x : Gl), l[k]? = some x → (l.flatMap glC).set (k * 2) (.int .i64 a) = (l.set k (a, x.2)).flatMap glC
 | [], _, _, _, h => by simp at h
 | y :: l, 0, a, x, h => by
  have : y = x := by simpa using h
  subst this;simp [glC]
 | y :: l, k + 1, a, x, h => by
  have ih := glC_set1 l k a x (by simpa using h)
  rw [List.set_cons_succ, List.flatMap_cons, List.flatMap_cons, ← ih, show (k + 1) * 2 = k * 2 + 2 by omega]
  simp [glC]
theorem glC_set2 : ∀ (l : List Gl) (k : Nat) (a : Int) (x : Gl), l[k]? = some x → (l.flatMap glC).set (k * 2 + 1) (.int .i64 a) = (l.set k (x.1, a)).flatMap glC
 | [], _, _, _, h => by simp at h
 | y :: l, 0, a, x, h => by
  have : y = x := by simpa using h
  subst this;simp [glC]
 | y :: l, k + 1, a, x, h => by
  have ih := glC_set2 l k a x (by simpa using h)
  rw [List.set_cons_succ, List.flatMap_cons, List.flatMap_cons, ← ih, show (k + 1) * 2 + 1 = k * 2 + 1 + 2 by omega]
  simp [glC]
end Ln
namespace St
open Vw Sk Ch Lk
theorem leads_at {w : World} {v : Value} {n : Nat} {xs : List Value} {i : Nat} {u : Value} (h : Row.Leads w v n xs) (hu : xs[i]? = some u) : ∃ b o cp, v = .slice (some ⟨b, o, none⟩) n cp ∧ w.cell? ⟨b, o + i, none⟩ = some u := by
 obtain ⟨b, o, cp, rfl, hc⟩ := Row.leads_elem (f := fun x => [x]) (m := 1) (fun _ => rfl) (by simpa using h) hu (by omega)
 exact ⟨b, o, cp, rfl, by simpa using hc 0 u rfl⟩
end St
namespace Ln
open Ch
def lnPre (ids : List Int) (i : Nat) : List Gl := (List.range i).map fun k => (ids.getD k 0, (k : Int))
def lnNew (ids : List Int) : List Gl := lnPre ids ids.length
theorem lnPre_len (ids : List Int) (i : Nat) : (lnPre ids i).length = i := by simp [lnPre]
theorem lnPre_succ (ids : List Int) (i : Nat) : lnPre ids (i + 1) = lnPre ids i ++ [(ids.getD i 0, (i : Int))] := by
 unfold lnPre; rw [List.range_succ, List.map_append]; rfl
theorem line_snoc {w w7 : World} {base g : Nat} {sv v' : Value} {xs : List Gl} {x : Gl} (h : LineAt w base g sv xs) (hg : w.grownBy w7 sv.ownBlock) (ho : w7.ownsRow base 78 2 v' (xs.length + 1) (xs.flatMap glC ++ glC x)) :
  LineAt (w7.setCell ⟨g, 0, none⟩ v') base g v' (xs ++ [x]) := by
 have h7 := (hg.block g h.lt (fun e => h.ne e.symm)).trans h.head
 have k8 := heap_set (i := 0) h7 v';refine ⟨k8, ?_, h.low⟩;rw [List.length_append, List.flatMap_append];exact Row.owned_keep (by simpa using ho) fun k hk => Below.heap_setCell _ _ _ _ (fun e => own_ty ho h7 (by decide) (by rw [hk, e]))
set_option maxRecDepth 100000 in
set_option maxHeartbeats 4000000 in
theorem new_any (va : Value) (ids : List Int) (n : Nat) (w : World) (hl : Row.Leads w va n (ids.map (Value.int .i64))) (hn : ids.length = n) (hn2 : n ≤ 4294967296) :
  Calls Tryz.prog 68 #[va] w fun e w' => e = .returned (.pointer (some ⟨w.heap.size, 0, none⟩)) ∧ Below w.heap.size w w' ∧ ∃ sv, LineAt w' w.heap.size w.heap.size sv (lnNew ids) := by
 obtain ⟨ad, cp, rfl⟩ : ∃ ad cp, va = .slice ad n cp := by
  rcases hl with ⟨rfl, rfl, _⟩ | ⟨ad, cp, rfl, _⟩
  ·exact ⟨none, 0, rfl⟩
  ·exact ⟨_, _, rfl⟩
 have HL := Bas.hid hl;have hb1 := (Below.refl w.heap.size w).alloc (Nat.le_refl _) (.cells #[.slice none 0 0] 322);have HA : Hid (LineAt (w.alloc (.cells #[.slice none 0 0] 322)) w.heap.size w.heap.size (.slice none 0 0) []) := ⟨Bas.heap_new _ _, Row.owned_nil _ _ _ _, Nat.le_refl _⟩;have HB := Bas.hid hb1;have HN := Bas.hid hn;clear hb1 hl hn;go_enter Tryz.func68, Tryz.ntmps68
 go_wp2_with (fail);generalize w.alloc (.cells #[.slice none 0 0] 322) = W1 at *;obtain ⟨G, hG⟩ : ∃ G, w.heap.size = G := ⟨_, rfl⟩;have HG := Bas.hid hG;rw [hG] at HA HB ⊢;clear hG;go_loopw [10] (fun vi wr => ∃ (i : Nat) (sv : Value), i ≤ n ∧ vi = .int .i64 i ∧ LineAt wr G G sv (lnPre ids i) ∧ Below G w wr) (fun vi _ => n - (intOf vi).toNat)
 case atStart => exact ⟨0, _, Nat.zero_le _, rfl, HA.out, HB.out⟩
 case round =>
  obtain ⟨i, sv, hi, rfl, hA, hB⟩ := hrel;have HA2 := Bas.hid hA;have HB2 := Bas.hid hB;by_cases hin : i < n
  ·have e1 : decide ((i : Int) < (n : Int)) = true := by simp; omega
   have e2 : decide (i < n) = true := by simp; omega
   obtain ⟨x, hx⟩ : ∃ x, ids[i]? = some x := ⟨_, List.getElem?_eq_getElem (by rw [HN.out]; exact hin)⟩
   have hlw : Row.Leads wr (.slice ad n cp) n (ids.map (Value.int .i64)) := Row.leads_below HL.out (by rw [HG.out]; exact hB)
   obtain ⟨bo, oo, c2, hv, hc⟩ := St.leads_at hlw (i := i) (u := .int .i64 x) (by rw [List.getElem?_map, hx]; rfl)
   cases hv;obtain ⟨a3, cs, rfl⟩ := own_slice hA.own;have hhead := hA.head;rw [lnPre_len] at hhead HA2;have g0 := cell_of_heap (i := 0) (v := .slice a3 i cs) hhead rfl;have lG := heap_lt hhead;have lb := World.block_lt_of_cell? _ _ hc;have HX : Hid (lnPre ids (i + 1) = lnPre ids i ++ [(x, (i : Int))]) := by unfold Hid; rw [lnPre_succ, List.getD_eq_getElem?_getD, hx]; rfl
   clear hA hB hlw hx hhead HA HB;go_wp2_with (at_builtin; refine Row.fence ?_);refine Row.unfence ?_;have q2 := Bas.heap_new wr (.cells #[.int .i64 x, .int .i64 i] 78);have hb2 := (Below.refl wr.heap.size wr).alloc (Nat.le_refl _) (.cells #[.int .i64 x, .int .i64 i] 78);have HA3 := Bas.hid (HA2.out.below hb2);have hGw : G ≤ wr.heap.size := Nat.le_of_lt lG;have HB3 := Bas.hid (HB2.out.trans (hb2.mono hGw));have hG3 : G ≤ (wr.alloc (.cells #[.int .i64 x, .int .i64 i] 78)).heap.size := Nat.le_trans hGw hb2.size;clear hb2 g0 hc lb;generalize wr.alloc (.cells #[.int .i64 x, .int .i64 i] 78) = W2 at *;have hO := HA3.out.own;rw [lnPre_len] at hO;have HO := Bas.hid hO;clear hO;refine Row.append_any rfl _ _ 248 78 rfl (.agg #[.int .i64 0, .int .i64 0]) 2 16 Tryz.underlying248 infoG rfl (by decide) G (.slice a3 i cs) i _ rfl HO.out (.slice (some ⟨wr.heap.size, 0, none⟩) 1 1) 1 [.int .i64 x, .int .i64 i] rfl (leads_heap q2) rfl (by simp; first | exact ⟨rfl, rfl⟩ | exact rfl) (by unfold maxLen; omega) (by omega) hG3 ?_
   intro v7 w7 ho7 hg7 _;obtain ⟨a7, c7, rfl⟩ := own_slice ho7;have HA8 := Bas.hid (line_snoc (x := (x, (i : Int))) HA3.out hg7 (by rw [lnPre_len]; exact ho7))
   have k7 := (hg7.block G HA3.out.lt (fun e => HA3.out.ne e.symm)).trans HA3.out.head
   have c0 := cell_of_heap (i := 0) k7 rfl;have f0 := free_of_heap (i := 0) k7;have HB7 := Bas.hid (HB3.out.grown hg7 hG3 (fun g' hg' => (Row.own_block HA3.out.own hg').1))
   have HB8 := Bas.hid (HB7.out.setCell (p := ⟨G, 0, none⟩) (Nat.le_refl _) (.slice a7 (i + 1) c7));clear hg7 ho7 q2;go_wp2_with (fail);go_roundw
   case rel => exact ⟨i + 1, _, by omega, by go_num, by rw [HX.out]; exact HA8.out, HB8.out⟩
   case measure => simp [intOf]; omega
  ·have hin2 : i = n := by omega
   have e1 : decide ((i : Int) < (n : Int)) = false := by simp; omega
   have e2 : decide (i < n) = false := by simp; omega
   have e3 : ¬ (i : Int) < (n : Int) := by omega
   have HF : Hid (LineAt wr G G sv (lnNew ids)) := by unfold Hid lnNew; rw [HN.out, ← hin2]; exact hA
   clear hin2 hA hB;go_wp2_with (fail);go_ret;rw [HG.out];exact ⟨rfl, HB2.out, sv, HF.out⟩
theorem own_zero {w : World} {base g : Nat} {e : TypeId} {size : Nat} (hg : w.heap[g]? = some (.cells #[] e (0, 0))) (hb : base ≤ g) : w.ownsRow base e size (.slice (some ⟨g, 0, none⟩) 0 0) 0 [] :=
 ⟨by simp, .inr ⟨g, 0, _, rfl, hb, hg, Nat.le_refl _, by unfold maxLen; omega, by simp, by simp⟩⟩
set_option maxRecDepth 100000 in
theorem clone_any (v : Value) (xs : List Gl) (n : Nat) (w : World) (hl : Row.Leads w v n (xs.flatMap glC)) (hn : xs.length = n) (hn2 : n ≤ 4294967296) :
  Calls Tryz.prog 128 #[v] w fun e w' => Below w.heap.size w w' ∧ ∃ v', e = .returned v' ∧ w'.ownsRow w.heap.size 78 2 v' n (xs.flatMap glC) := by
 have HL := Bas.hid hl;have hqe : ∀ (a : Option Addr) (n c : Nat) (w : World), (Go.binOp .eql 248 (.slice a n c) (.slice none 0 0)).run Tryz.prog w = Result.ok (.bool a.isNone) w := fun a n c w => by
  have h : (Op.equalIn Op.maxDepth 248 (.slice a n c) (.slice none 0 0)).run Tryz.prog w = Result.ok a.isNone w := run_equalIn_slice_nil w (Op.maxDepth - 1) _ _ a n c Tryz.underlying248;simp [go_sem, Go.binOp, Op.equal, h, Result.andThen]
 rcases hl with ⟨rfl, rfl, hx⟩ | ⟨ad, cp, rfl, _⟩
 ·rw [hx];have HO := Bas.hid (Row.owned_nil w w.heap.size 78 2);clear HL hx;go_enter Tryz.func128, Tryz.ntmps128
  go_wp2_with (fail);go_ret;exact ⟨Below.refl _ _, _, rfl, HO.out⟩
 ·have hb1 := (Below.refl w.heap.size w).alloc (Nat.le_refl _) (.cells #[] 78);have HO := Bas.hid (own_zero (size := 2) (Bas.heap_new w (.cells #[] 78)) (Nat.le_refl w.heap.size));have HL1 := Bas.hid (Row.leads_below HL.out hb1);have HB1 := Bas.hid hb1;have hsz := hb1.size;have HFL := Bas.hid (glC_flat xs);have hon := glC_one xs;clear HL hb1;go_enter Tryz.func128, Tryz.ntmps128
  go_wp2_with (at_builtin; refine Row.fence ?_);refine Row.unfence ?_;generalize w.alloc (.cells #[] 78) = W1 at *;refine Row.append_any rfl _ _ 248 78 rfl (.agg #[.int .i64 0, .int .i64 0]) 2 16 Tryz.underlying248 infoG rfl (by decide) w.heap.size (.slice (some ⟨w.heap.size, 0, none⟩) 0 0) 0 [] rfl HO.out (.slice (some ad) n cp) n (xs.flatMap glC) rfl HL1.out (by rw [HFL.out, hn]) hon (by unfold maxLen; omega) (by omega) hsz ?_
  intro v7 w7 ho7 hg7 _;have HO7 := Bas.hid ho7;have HB7 := Bas.hid (HB1.out.grown hg7 hsz (fun g' hg' => by cases hg'; exact Nat.le_refl _))
  clear ho7 hg7;go_wp2_with (fail);go_ret;refine ⟨HB7.out, v7, rfl, ?_⟩;have h := HO7.out;rw [Nat.zero_add, List.nil_append] at h;exact h
theorem glyphs_any (base g : Nat) (sv : Value) (xs : List Gl) (w : World) (h : LineAt w base g sv xs) (hn : xs.length ≤ 4294967296) :
  Calls Tryz.prog 78 #[.pointer (some ⟨g, 0, none⟩)] w fun e w' => Below w.heap.size w w' ∧ ∃ v', e = .returned v' ∧ w'.ownsRow w.heap.size 78 2 v' xs.length (xs.flatMap glC) := by
 have HC := Bas.hid (clone_any sv xs xs.length w (Row.leads_owned h.own) rfl hn);obtain ⟨ad, cp, rfl⟩ := own_slice h.own;have g0 := cell_of_heap (i := 0) (v := .slice ad xs.length cp) h.head rfl;have lg := h.lt;clear h;go_enter Tryz.func78, Tryz.ntmps78
 go_wp2_with (fail);refine HC.out.mono ?_;rintro e w2 ⟨hb, v', rfl, ho⟩;have HB := Bas.hid hb;have HO := Bas.hid ho;clear hb ho HC;go_wp2_with (fail);go_ret;exact ⟨HB.out, v', rfl, HO.out⟩
end Ln
namespace Pc
open Ch
structure Pl where
 a : Int
 x : Int
 y : Int
def plC (p : Pl) : List Value := [.int .i32 p.a, .int .i32 p.x, .int .i32 p.y]
theorem plC_len (p : Pl) : (plC p).length = 3 := rfl
theorem plC_flat (l : List Pl) : (l.flatMap plC).length = l.length * 3 := by
 induction l with
 | nil => rfl
 | cons s l ih => rw [List.flatMap_cons, List.length_append, ih, plC_len, List.length_cons]; omega
theorem plC_one (l : List Pl) : ∀ u ∈ l.flatMap plC, u.oneCell' = true := fun v hv => by
 obtain ⟨s, _, hs⟩ := List.mem_flatMap.1 hv;simp [plC] at hs;rcases hs with rfl | rfl | rfl <;> rfl
theorem infoPl : (Tryz.prog.info? 80).map (fun i => (i.zero, i.size, i.bytes)) = some (some (.agg #[.int .i32 0, .int .i32 0, .int .i32 0]), 3, 12) := by kernel_rfl
def clampI (n : Int) : Int := if n < -2147483648 then -2147483648 else if 2147483647 < n then 2147483647 else n
theorem clampI_bd (n : Int) : -2147483648 ≤ clampI n ∧ clampI n ≤ 2147483647 := by
 unfold clampI; split
 ·omega
 ·split <;> omega
def addI (a n : Int) : Int := clampI (a + clampI n)
theorem addI_bd (a n : Int) : -2147483648 ≤ addI a n ∧ addI a n ≤ 2147483647 := clampI_bd _
def plWf (p : Pl) : Prop := (-2147483648 ≤ p.a ∧ p.a ≤ 2147483647) ∧ (-2147483648 ≤ p.x ∧ p.x ≤ 2147483647) ∧ (-2147483648 ≤ p.y ∧ p.y ≤ 2147483647)
structure PlsAt (w : World) (base g : Nat) (dn : Bool) (sv : Value) (ps : List Pl) : Prop where
 head : w.heap[g]? = some (.cells #[.bool dn, sv] 335 (0, 0))
 own : w.ownsRow base 80 3 sv ps.length (ps.flatMap plC)
 low : base ≤ g
 wf : ∀ p ∈ ps, plWf p
def blk (g : Nat) (sv : Value) (k : Nat) : Prop := k = g ∨ sv.ownBlock = some k
theorem PlsAt.lt {w : World} {base g : Nat} {dn : Bool} {sv : Value} {ps : List Pl} (h : PlsAt w base g dn sv ps) : g < w.heap.size := heap_lt h.head
theorem PlsAt.blk_low {w : World} {base g : Nat} {dn : Bool} {sv : Value} {ps : List Pl} (h : PlsAt w base g dn sv ps) : ∀ k, blk g sv k → base ≤ k ∧ k < w.heap.size := fun k hk => by
 rcases hk with rfl | hk
 ·exact ⟨h.low, h.lt⟩
 ·exact Row.own_block h.own hk
theorem PlsAt.mod {S : Nat → Prop} {w w' : World} {base g : Nat} {dn : Bool} {sv : Value} {ps : List Pl} (h : PlsAt w base g dn sv ps) (hm : Mod S w w') (hS : ∀ k, blk g sv k → ¬ S k) : PlsAt w' base g dn sv ps :=
 ⟨hm.heap h.head (hS g (.inl rfl)), hm.owned h.own fun k hk => hS k (.inr hk), h.low, h.wf⟩
theorem PlsAt.below {w w' : World} {base g : Nat} {dn : Bool} {sv : Value} {ps : List Pl} (h : PlsAt w base g dn sv ps) (hb : Below w.heap.size w w') : PlsAt w' base g dn sv ps :=
 h.mod (S := fun _ => False) (Mod.of_below hb) (fun _ _ h => h)
theorem PlsAt.ne {w : World} {base g : Nat} {dn : Bool} {sv : Value} {ps : List Pl} (h : PlsAt w base g dn sv ps) : sv.ownBlock ≠ some g := own_ty h.own h.head (by decide)
def PlTo (w : World) (base g : Nat) (dn : Bool) (sv : Value) (qs : List Pl) (w' : World) : Prop := PlsAt w' base g dn sv qs ∧ Mod (blk g sv) w w'
def plAt (ps : List Pl) (i : Int) : Option Nat := if 0 ≤ i ∧ i < ps.length then some i.toNat else none
def upd (ps : List Pl) (i : Int) (f : Pl → Pl) : List Pl := match plAt ps i with
 | some k => ps.modify k f
 | none => ps
def along (ps : List Pl) (i n : Int) : List Pl := upd ps i fun p => { p with a := addI p.a n }
theorem upd_len (ps : List Pl) (i : Int) (f : Pl → Pl) : (upd ps i f).length = ps.length := by
 unfold upd; split
 ·rw [List.length_modify]
 ·rfl
set_option maxHeartbeats 1000000 in
theorem clamp_any (n : Int) (w : World) : Calls Tryz.prog 120 #[.int .i64 n] w fun e w' => e = .returned (.int .i32 (clampI n)) ∧ w = w' := by
 obtain ⟨m, hm⟩ : ∃ m, clampI n = m := ⟨_, rfl⟩;rw [hm];have HM := Bas.hid hm;clear hm;by_cases h1 : n < -2147483648
 ·obtain rfl : m = -2147483648 := by rw [← HM.out, clampI, if_pos h1]
  have e1 : decide (n < -2147483648) = true := by simpa using h1
  go_enter Tryz.func120, Tryz.ntmps120
  go_wp2_with (fail);go_ret;exact ⟨rfl, rfl⟩
 have e1 : decide (n < -2147483648) = false := by simpa using h1
 by_cases h2 : 2147483647 < n
 ·obtain rfl : m = 2147483647 := by rw [← HM.out, clampI, if_neg h1, if_pos h2]
  have e2 : decide (2147483647 < n) = true := by simpa using h2
  go_enter Tryz.func120, Tryz.ntmps120
  go_wp2_with (fail);go_ret;exact ⟨rfl, rfl⟩
 obtain rfl : m = n := by rw [← HM.out, clampI, if_neg h1, if_neg h2]
 have e2 : decide (2147483647 < m) = false := by simpa using h2
 go_enter Tryz.func120, Tryz.ntmps120
 go_wp2_with (fail);go_ret;exact ⟨rfl, rfl⟩
set_option maxHeartbeats 1000000 in
theorem add_any (a n : Int) (w : World) (ha : -2147483648 ≤ a ∧ a ≤ 2147483647) : Calls Tryz.prog 126 #[.int .i32 a, .int .i64 n] w fun e w' => e = .returned (.int .i32 (addI a n)) ∧ w = w' := by
 obtain ⟨a0, a1⟩ := ha;obtain ⟨b0, b1⟩ := clampI_bd n;have HA : Hid (addI a n = clampI (a + clampI n)) := rfl;have HC := Bas.hid (fun w' => clamp_any n w')
 obtain ⟨m, hm⟩ : ∃ m, clampI n = m := ⟨_, rfl⟩;rw [hm] at b0 b1 HA HC;rw [HA.out];have HD := Bas.hid (fun w' => clamp_any (a + m) w')
 obtain ⟨r, hr⟩ : ∃ r, clampI (a + m) = r := ⟨_, rfl⟩;rw [hr] at HD ⊢;clear hm hr HA;go_enter Tryz.func126, Tryz.ntmps126
 go_wp2_with (fail);refine (HC.out _).mono ?_;rintro e w' ⟨rfl, rfl⟩;go_wp2_with (fail);refine (HD.out _).mono ?_;rintro e w' ⟨rfl, rfl⟩;go_wp2_with (fail);go_ret;exact ⟨rfl, rfl⟩
theorem flat_set {α : Type} {f : α → List Value} {m : Nat} (hf : ∀ x, (f x).length = m) : ∀ (l : List α) (k q : Nat) (x y : α) (v : Value), l[k]? = some x → q < m → f y = (f x).set q v → (l.flatMap f).set (k * m + q) v = (l.set k y).flatMap f
 | [], _, _, _, _, _, h, _, _ => by simp at h
 | z :: l, 0, q, x, y, v, h, hq, hy => by
  have : z = x := by simpa using h
  subst this;rw [List.set_cons_zero, List.flatMap_cons, List.flatMap_cons, hy, Nat.zero_mul, Nat.zero_add, List.set_append_left _ _ (by rw [hf]; exact hq)]
 | z :: l, k + 1, q, x, y, v, h, hq, hy => by
  have ih := flat_set hf l k q x y v (by simpa using h) hq hy
  rw [List.set_cons_succ, List.flatMap_cons, List.flatMap_cons, ← ih, List.set_append_right _ _ (by rw [hf, Nat.add_mul]; omega), hf]
  congr 2
  rw [Nat.add_mul]; omega
section
variable {w : World} {base g : Nat} {dn : Bool} {sv : Value} {ps : List Pl}
theorem pls_row (h : PlsAt w base g dn sv ps) {k : Nat} {p : Pl} (hx : ps[k]? = some p) :
  ∃ bo cp, sv = .slice (some ⟨bo, 0, none⟩) ps.length cp ∧ bo < w.heap.size ∧ base ≤ bo ∧ bo ≠ g ∧ w.cell? ⟨bo, k * 3, none⟩ = some (.int .i32 p.a) ∧ w.cell? ⟨bo, k * 3 + 1, none⟩ = some (.int .i32 p.x) ∧ w.cell? ⟨bo, k * 3 + 2, none⟩ = some (.int .i32 p.y) ∧ ∀ i, w.frozen? ⟨bo, i, none⟩ = false := by
 have hne := h.ne;have hL := Row.leads_elem plC_len (Row.leads_owned h.own) hx (by omega)
 obtain ⟨hlen, ⟨h2, h3⟩ | ⟨bo, cap, cur, hv, hb, hh, hc, hm, hs, ht⟩⟩ := h.own
 ·have h4 := plC_flat ps;rw [h3] at hlen;have := (List.getElem?_eq_some_iff.1 hx).1;omega
 ·obtain ⟨b2, o2, c2, hv2, hcell⟩ := hL;rw [hv] at hv2;cases hv2;refine ⟨bo, cap, hv, heap_lt hh, hb, fun e => hne (by rw [hv, e]; rfl), by simpa using hcell 0 _ rfl, by simpa using hcell 1 _ rfl, by simpa using hcell 2 _ rfl, fun i => free_of_heap hh⟩
theorem pls_put {bo cp : Nat} (h : PlsAt w base g dn (.slice (some ⟨bo, 0, none⟩) ps.length cp) ps) (hgb : bo ≠ g) {k q : Nat} {p p' : Pl} {v : Value} (hp : ps[k]? = some p) (hq : q < 3) (hv : plC p' = (plC p).set q v) (hw : plWf p') :
  PlTo w base g dn (.slice (some ⟨bo, 0, none⟩) ps.length cp) (ps.set k p') (w.setCell ⟨bo, k * 3 + q, none⟩ v) := by
 refine ⟨⟨(Below.heap_setCell _ _ _ _ (by exact fun e => hgb e.symm)).trans h.head, ?_, h.low, fun r hr => ?_⟩, (Mod.refl _ w).set v (.inl (.inr rfl))⟩
 ·have h2 := Ln.own_putN h.own (k * 3 + q) v;rw [flat_set plC_len ps k q p p' v hp hq hv] at h2;rw [List.length_set];exact h2
 ·rcases List.mem_or_eq_of_mem_set hr with h3 | h3
  ·exact h.wf r h3
  ·rw [h3]; exact hw
theorem plAt_in {i : Int} {k : Nat} (h : plAt ps i = some k) : i = (k : Int) ∧ ∃ p, ps[k]? = some p := by
 unfold plAt at h;split at h
 ·rename_i hi
  cases h;exact ⟨by omega, _, List.getElem?_eq_getElem (by omega)⟩
 ·cases h
theorem plAt_out {i : Int} (h : plAt ps i = none) : i < 0 ∨ (ps.length : Int) ≤ i := by
 unfold plAt at h;split at h
 ·cases h
 ·omega
set_option maxHeartbeats 1000000 in
theorem len_any (w : World) (h : PlsAt w base g dn sv ps) : Calls Tryz.prog 75 #[.pointer (some ⟨g, 0, none⟩)] w fun e w' => e = .returned (.int .i64 ps.length) ∧ w = w' := by
 obtain ⟨a, c, rfl⟩ := own_slice h.own;have c1 := cell_of_heap (i := 1) (v := .slice a ps.length c) h.head rfl;generalize ps.length = n at *;clear h;go_enter Tryz.func75, Tryz.ntmps75
 go_wp2_with (fail);go_ret;exact ⟨rfl, rfl⟩
set_option maxRecDepth 100000 in
set_option maxHeartbeats 2000000 in
theorem at_in (w : World) (h : PlsAt w base g dn sv ps) (i : Int) (k : Nat) (hk : plAt ps i = some k) : ∃ bo cp, sv = .slice (some ⟨bo, 0, none⟩) ps.length cp ∧ bo ≠ g ∧
  Calls Tryz.prog 125 #[.pointer (some ⟨g, 0, none⟩), .int .i64 i] w fun e w' => e = .returned (.pointer (some ⟨bo, k * 3, none⟩)) ∧ w = w' := by
 obtain ⟨rfl, p, hp⟩ := plAt_in hk;obtain ⟨bo, cp, rfl, hlt, hb, hne, -⟩ := pls_row h hp;refine ⟨bo, cp, rfl, hne, ?_⟩;have c1 := cell_of_heap (i := 1) (v := .slice (some ⟨bo, 0, none⟩) ps.length cp) h.head rfl;have hkl := (List.getElem?_eq_some_iff.1 hp).1;clear h hp hk;generalize ps.length = n at *;have e1 : decide ((k : Int) < 0) = false := by simp
 have e2 : decide ((k : Int) ≥ (n : Int)) = false := by simp; omega
 have e3 : decide ((n : Int) ≤ (k : Int)) = false := by simp; omega
 have e4 : decide (n ≤ k) = false := by simp; omega
 have e5 : decide ((k : Int) < (n : Int)) = true := by simp; omega
 go_enter Tryz.func125, Tryz.ntmps125
 go_wp2_with (fail);go_ret;exact ⟨rfl, rfl⟩
set_option maxRecDepth 100000 in
set_option maxHeartbeats 2000000 in
theorem at_out (w : World) (h : PlsAt w base g dn sv ps) (i : Int) (hk : plAt ps i = none) :
  Calls Tryz.prog 125 #[.pointer (some ⟨g, 0, none⟩), .int .i64 i] w fun e w' => e = .returned (.pointer (some ⟨w.heap.size, 0, none⟩)) ∧ w' = w.alloc (.cells #[.int .i32 0, .int .i32 0, .int .i32 0] 80) := by
 have ho := plAt_out hk;obtain ⟨a, c, rfl⟩ := own_slice h.own;have c1 := cell_of_heap (i := 1) (v := .slice a ps.length c) h.head rfl;clear h hk;generalize ps.length = n at *;by_cases hi : i < 0
 ·have e1 : decide (i < 0) = true := by simpa using hi
  go_enter Tryz.func125, Tryz.ntmps125
  go_wp2_with (fail);go_ret;exact ⟨rfl, rfl⟩
 ·have e1 : decide (i < 0) = false := by simpa using hi
  have hni : (n : Int) ≤ i := by omega
  have e2 : decide (i ≥ (n : Int)) = true := by simpa using hni
  have e3 : decide ((n : Int) ≤ i) = true := by simpa using hni
  go_enter Tryz.func125, Tryz.ntmps125
  go_wp2_with (fail);go_ret;exact ⟨rfl, rfl⟩
set_option maxRecDepth 100000 in
set_option maxHeartbeats 2000000 in
theorem along_any (w : World) (h : PlsAt w base g dn sv ps) (i n : Int) : Calls Tryz.prog 76 #[.pointer (some ⟨g, 0, none⟩), .int .i64 i, .int .i64 n] w fun e w' => e = .returned (.tuple #[]) ∧ PlTo w base g dn sv (along ps i n) w' := by
 cases hk : plAt ps i with
 | none =>
  have HA := Bas.hid (at_out w h i hk);have HP : Hid (along ps i n = ps) := by unfold Hid along upd; rw [hk]
  rw [HP.out];have hb := (Below.refl w.heap.size w).alloc (Nat.le_refl _) (.cells #[.int .i32 0, .int .i32 0, .int .i32 0] 80);have HR : Hid (∀ v, PlTo w base g dn sv ps ((w.alloc (.cells #[.int .i32 0, .int .i32 0, .int .i32 0] 80)).setCell ⟨w.heap.size, 0, none⟩ v)) := by
   intro v;have hb2 := hb.setCell (p := ⟨w.heap.size, 0, none⟩) (Nat.le_refl _) v;exact ⟨h.below hb2, Mod.of_below hb2⟩
  have k1 := Bas.heap_new w (.cells #[.int .i32 0, .int .i32 0, .int .i32 0] 80);have HD := Bas.hid (fun w' => add_any 0 n w' (by omega))
  clear h hk hb;go_enter Tryz.func76, Tryz.ntmps76
  go_wp2_with (fail);refine HA.out.mono ?_;rintro e w2 ⟨rfl, rfl⟩;generalize w.alloc (.cells #[.int .i32 0, .int .i32 0, .int .i32 0] 80) = W1 at *;obtain ⟨T1, hT1⟩ : ∃ T, w.heap.size = T := ⟨_, rfl⟩;rw [hT1] at k1 HR ⊢;clear hT1;have c0 := cell_of_heap (i := 0) k1 rfl;have f0 := free_of_heap (i := 0) k1;go_wp2_with (fail);refine (HD.out _).mono ?_;rintro e w3 ⟨rfl, rfl⟩;go_wp2_with (fail)
  go_end0
  exact ⟨rfl, HR.out _⟩
 | some k =>
  obtain ⟨bo, cp, rfl, hne, hA⟩ := at_in w h i k hk;obtain ⟨hik, p, hp⟩ := plAt_in hk;obtain ⟨_, _, hv, hlt, hb, _, c0, _, _, hfr⟩ := pls_row h hp;cases hv;have HA := Bas.hid hA;have hwf := h.wf p (List.mem_of_getElem? hp);have HP : Hid (along ps i n = ps.set k { p with a := addI p.a n }) := by
   unfold Hid along upd;rw [hk];simp only [];refine List.ext_getElem? fun j => ?_
   rw [List.getElem?_modify, List.getElem?_set];by_cases hj : k = j
   ·subst hj;rw [hp, if_pos (List.getElem?_eq_some_iff.1 hp).1]; simp
   ·simp [hj]
  rw [HP.out];have HR := Bas.hid (pls_put h hne (q := 0) (p' := { p with a := addI p.a n }) (v := .int .i32 (addI p.a n)) hp (by omega) rfl ⟨addI_bd _ _, hwf.2⟩)
  have HD := Bas.hid (fun w' => add_any p.a n w' hwf.1)
  have f0 := hfr (k * 3);clear h hk hA hp hik hwf hfr HP;obtain ⟨pa, px, py⟩ := p;simp only [Nat.add_zero] at c0 HR HD;go_enter Tryz.func76, Tryz.ntmps76
  go_wp2_with (fail);refine HA.out.mono ?_;rintro e w2 ⟨rfl, rfl⟩;go_wp2_with (fail);refine (HD.out _).mono ?_;rintro e w3 ⟨rfl, rfl⟩;go_wp2_with (fail)
  go_end0
  exact ⟨rfl, HR.out⟩
end
set_option maxRecDepth 100000 in
theorem clone_any (v : Value) (xs : List Pl) (n : Nat) (w : World) (hl : Row.Leads w v n (xs.flatMap plC)) (hn : xs.length = n) (hn2 : n ≤ 4294967296) :
  Calls Tryz.prog 127 #[v] w fun e w' => Below w.heap.size w w' ∧ ∃ v', e = .returned v' ∧ w'.ownsRow w.heap.size 80 3 v' n (xs.flatMap plC) := by
 have HL := Bas.hid hl;have hqe : ∀ (a : Option Addr) (n c : Nat) (w : World), (Go.binOp .eql 246 (.slice a n c) (.slice none 0 0)).run Tryz.prog w = Result.ok (.bool a.isNone) w := fun a n c w => by
  have h : (Op.equalIn Op.maxDepth 246 (.slice a n c) (.slice none 0 0)).run Tryz.prog w = Result.ok a.isNone w := run_equalIn_slice_nil w (Op.maxDepth - 1) _ _ a n c Tryz.underlying246;simp [go_sem, Go.binOp, Op.equal, h, Result.andThen]
 rcases hl with ⟨rfl, rfl, hx⟩ | ⟨ad, cp, rfl, _⟩
 ·rw [hx];have HO := Bas.hid (Row.owned_nil w w.heap.size 80 3);clear HL hx;go_enter Tryz.func127, Tryz.ntmps127
  go_wp2_with (fail);go_ret;exact ⟨Below.refl _ _, _, rfl, HO.out⟩
 ·have hb1 := (Below.refl w.heap.size w).alloc (Nat.le_refl _) (.cells #[] 80);have HO := Bas.hid (Ln.own_zero (size := 3) (Bas.heap_new w (.cells #[] 80)) (Nat.le_refl w.heap.size));have HL1 := Bas.hid (Row.leads_below HL.out hb1);have HB1 := Bas.hid hb1;have hsz := hb1.size;have HFL := Bas.hid (plC_flat xs);have hon := plC_one xs;clear HL hb1;go_enter Tryz.func127, Tryz.ntmps127
  go_wp2_with (at_builtin; refine Row.fence ?_);refine Row.unfence ?_;generalize w.alloc (.cells #[] 80) = W1 at *;refine Row.append_any rfl _ _ 246 80 rfl (.agg #[.int .i32 0, .int .i32 0, .int .i32 0]) 3 12 Tryz.underlying246 infoPl rfl (by decide) w.heap.size (.slice (some ⟨w.heap.size, 0, none⟩) 0 0) 0 [] rfl HO.out (.slice (some ad) n cp) n (xs.flatMap plC) rfl HL1.out (by rw [HFL.out, hn]) hon (by unfold maxLen; omega) (by omega) hsz ?_
  intro v7 w7 ho7 hg7 _;have HO7 := Bas.hid ho7;have HB7 := Bas.hid (HB1.out.grown hg7 hsz (fun g' hg' => by cases hg'; exact Nat.le_refl _))
  clear ho7 hg7;go_wp2_with (fail);go_ret;refine ⟨HB7.out, v7, rfl, ?_⟩;have h := HO7.out;rw [Nat.zero_add, List.nil_append] at h;exact h
set_option maxHeartbeats 1000000 in
theorem all_any {w : World} {base g : Nat} {dn : Bool} {sv : Value} {ps : List Pl} (h : PlsAt w base g dn sv ps) (hn2 : ps.length ≤ 4294967296) :
  Calls Tryz.prog 77 #[.pointer (some ⟨g, 0, none⟩)] w fun e w' => Below w.heap.size w w' ∧ ∃ v', e = .returned v' ∧ w'.ownsRow w.heap.size 80 3 v' ps.length (ps.flatMap plC) := by
 have HC := Bas.hid (clone_any sv ps ps.length w (Row.leads_owned h.own) rfl hn2);obtain ⟨a, c, rfl⟩ := own_slice h.own;have c1 := cell_of_heap (i := 1) (v := .slice a ps.length c) h.head rfl;clear h hn2;generalize ps.length = n at *;go_enter Tryz.func77, Tryz.ntmps77
 go_wp2_with (fail);refine HC.out.mono ?_;rintro e w2 ⟨hb, v', rfl, ho⟩;have HB := Bas.hid hb;have HO := Bas.hid ho;clear hb ho HC;go_wp2_with (fail);go_ret;exact ⟨HB.out, v', rfl, HO.out⟩
def plNew (adv : List Int) : List Pl := adv.map fun n => ⟨clampI n, 0, 0⟩
theorem plNew_len (adv : List Int) : (plNew adv).length = adv.length := by simp [plNew]
theorem pls_snoc {w w7 : World} {base g : Nat} {dn : Bool} {sv v' : Value} {ps : List Pl} {p : Pl} (h : PlsAt w base g dn sv ps) (hp : plWf p) (hg : w.grownBy w7 sv.ownBlock) (ho : w7.ownsRow base 80 3 v' (ps.length + 1) (ps.flatMap plC ++ plC p)) :
  PlsAt (w7.setCell ⟨g, 1, none⟩ v') base g dn v' (ps ++ [p]) := by
 have h7 := (hg.block g h.lt (fun e => h.ne e.symm)).trans h.head
 have k8 := heap_set (i := 1) h7 v';refine ⟨k8, ?_, h.low, fun q hq => ?_⟩
 ·rw [List.length_append, List.flatMap_append];exact Row.owned_keep (by simpa using ho) fun k hk => Below.heap_setCell _ _ _ _ (fun e => own_ty ho h7 (by decide) (by rw [hk, e]))
 ·rcases List.mem_append.1 hq with hq | hq
  ·exact h.wf q hq
  ·rw [List.mem_singleton] at hq; subst hq; exact hp
set_option maxRecDepth 100000 in
set_option maxHeartbeats 4000000 in
theorem new_any (d : Int) (dn : Bool) (va : Value) (adv : List Int) (n : Nat) (w : World) (hd : (d == 2) = dn) (hl : Row.Leads w va n (adv.map (Value.int .i64))) (hn : adv.length = n) (hn2 : n ≤ 4294967296) :
  Calls Tryz.prog 71 #[.int .i64 d, va] w fun e w' => e = .returned (.pointer (some ⟨w.heap.size, 0, none⟩)) ∧ Below w.heap.size w w' ∧ ∃ sv, PlsAt w' w.heap.size w.heap.size dn sv (plNew adv) := by
 obtain ⟨ad, cp, rfl⟩ : ∃ ad cp, va = .slice ad n cp := by
  rcases hl with ⟨rfl, rfl, _⟩ | ⟨ad, cp, rfl, _⟩
  ·exact ⟨none, 0, rfl⟩
  ·exact ⟨_, _, rfl⟩
 have HL := Bas.hid hl;have hb1 := (Below.refl w.heap.size w).alloc (Nat.le_refl _) (.cells #[.bool dn, .slice none 0 0] 335);have HA : Hid (PlsAt (w.alloc (.cells #[.bool dn, .slice none 0 0] 335)) w.heap.size w.heap.size dn (.slice none 0 0) []) := ⟨Bas.heap_new _ _, Row.owned_nil _ _ _ _, Nat.le_refl _, fun p hp => by cases hp⟩
 have HB := Bas.hid hb1;have HN := Bas.hid hn;clear hb1 hl hn;go_enter Tryz.func71, Tryz.ntmps71
 go_wp2_with (fail);generalize w.alloc (.cells #[.bool dn, .slice none 0 0] 335) = W1 at *;obtain ⟨G, hG⟩ : ∃ G, w.heap.size = G := ⟨_, rfl⟩;have HG := Bas.hid hG;rw [hG] at HA HB ⊢;clear hG hd;go_loopw [14] (fun vi wr => ∃ (i : Nat) (sv : Value), i ≤ n ∧ vi = .int .i64 i ∧ PlsAt wr G G dn sv (plNew (adv.take i)) ∧ Below G w wr) (fun vi _ => n - (intOf vi).toNat)
 case atStart => exact ⟨0, _, Nat.zero_le _, rfl, HA.out, HB.out⟩
 case round =>
  obtain ⟨i, sv, hi, rfl, hA, hB⟩ := hrel;have HA2 := Bas.hid hA;have HB2 := Bas.hid hB;by_cases hin : i < n
  ·have e1 : decide ((i : Int) < (n : Int)) = true := by simp; omega
   have e2 : decide (i < n) = true := by simp; omega
   obtain ⟨x, hx⟩ : ∃ x, adv[i]? = some x := ⟨_, List.getElem?_eq_getElem (by rw [HN.out]; exact hin)⟩
   have hlw : Row.Leads wr (.slice ad n cp) n (adv.map (Value.int .i64)) := Row.leads_below HL.out (by rw [HG.out]; exact hB)
   obtain ⟨bo, oo, c2, hv, hc⟩ := St.leads_at hlw (i := i) (u := .int .i64 x) (by rw [List.getElem?_map, hx]; rfl)
   cases hv;obtain ⟨a3, cs, rfl⟩ := own_slice hA.own;have hPl : (plNew (adv.take i)).length = i := by rw [plNew_len, List.length_take, Nat.min_eq_left (by rw [HN.out]; exact hi)]
   have HPL := Bas.hid hPl;have hhead := hA.head;rw [hPl] at hhead HA2;have g0 := cell_of_heap (i := 1) (v := .slice a3 i cs) hhead rfl;have lG := heap_lt hhead;have lb := World.block_lt_of_cell? _ _ hc;have hne : Value.ownBlock (.slice a3 i cs) ≠ some G := HA2.out.ne;have HX : Hid (plNew (adv.take (i + 1)) = plNew (adv.take i) ++ [⟨clampI x, 0, 0⟩]) := by unfold Hid plNew; rw [List.take_add_one, hx, List.map_append]; rfl
   have HCL := Bas.hid (fun w' => clamp_any x w')
   clear hA hB hlw hx hhead HA HB hPl;go_wp2_with (fail);obtain ⟨I, F, i0, F0, Fg, Fw, Fb⟩ := Pl.fam_g wr (Value.slice a3 i cs).ownBlock;have cc1 := fun j => (Bas.gcell (Fb j) (b := G) (o := 1) lG hne).trans g0
   have FH := Bas.hid F0;have hI : Nonempty I := ⟨i0⟩;have FW := Bas.hid Fw;clear F0 Fw Fg Fb;refine Pl.region_plan0 i0 [(true, 0), (true, 1), (true, 2), (true, 3), (true, 4), (true, 5), (false, 6), (false, 7), (false, 8), (false, 9), (false, 10), (false, 11), (false, 12)] [9, 10, 11, 12] (by kernel_rfl) (by kernel_rfl) (fun _ _ _ _ e h => ⟨e ▸ h.1, h.2⟩) FH.out ?_
   refine Pl.head_sel0 [(true, 0), (true, 1), (true, 2), (true, 3), (true, 4), (true, 5)] (by kernel_rfl) (by kernel_rfl) ?_
   simp only [Pl.sel, List.drop_succ_cons, List.drop_zero];repeat (go_big_quiet_step (fail))
   refine wpQuiet_nil ?_;rw [← FH.out];clear cc1 FH;refine Pl.one_sel (by kernel_rfl) ?_
   intro Q' hQ' hP';simp only [Pl.sel, List.drop_succ_cons, List.drop_zero];go_wp2_with (fail);refine (HCL.out _).mono ?_;rintro e x2 ⟨rfl, rfl⟩;go_wp2_with (fail);refine hQ' _ _ (fun _ _ => FW.out _ (Bas.gdrew (Bas.grefl _ _))) ?_
   clear hQ' hP' Q' HCL;refine Pl.one_sel (by kernel_rfl) ?_
   intro Q' hQ' hP';simp only [Pl.sel, List.drop_succ_cons, List.drop_zero];go_wp2_with (fail);refine hQ' _ _ (fun _ _ => FW.out _ (Bas.gdrew (Bas.grefl _ _))) ?_
   clear hQ' hP' Q';refine Pl.one_sel (by kernel_rfl) ?_
   intro Q' hQ' hP';simp only [Pl.sel, List.drop_succ_cons, List.drop_zero];go_wp2_with (fail);refine hQ' _ _ (fun _ _ => FW.out _ (by first | exact Bas.galloc (Bas.gdrew (Bas.grefl _ _)) _ | exact Bas.gdrew (Bas.galloc (Bas.grefl _ _) _))) ?_
   clear hQ' hP' Q' FW;refine Pl.tail_sel [(false, 9), (false, 10), (false, 11), (false, 12)] (by kernel_rfl) (by kernel_rfl) ?_
   simp only [Pl.sel, List.drop_succ_cons, List.drop_zero];obtain ⟨cl, hcl⟩ : ∃ c, clampI x = c := ⟨_, rfl⟩;have hcw : plWf ⟨cl, 0, 0⟩ := by rw [← hcl]; exact ⟨clampI_bd x, by simp, by simp⟩
   rw [hcl] at HX ⊢;have HCW := Bas.hid hcw;clear hcl hcw g0 hc lb hne;go_wp2_with (at_builtin; refine Row.fence ?_);refine Row.unfence ?_;have q2 : (wr.alloc (.cells #[.int .i32 cl, .int .i32 0, .int .i32 0] 80)).drew.heap[wr.heap.size]? = _ := Bas.heap_new wr (.cells #[.int .i32 cl, .int .i32 0, .int .i32 0] 80);have hb2 := ((Below.refl wr.heap.size wr).alloc (Nat.le_refl _) (.cells #[.int .i32 cl, .int .i32 0, .int .i32 0] 80)).drew;have HA3 := Bas.hid (HA2.out.below hb2);have hGw : G ≤ wr.heap.size := Nat.le_of_lt lG;have HB3 := Bas.hid (HB2.out.trans (hb2.mono hGw));have hG3 : G ≤ (wr.alloc (.cells #[.int .i32 cl, .int .i32 0, .int .i32 0] 80)).drew.heap.size := Nat.le_trans hGw hb2.size;clear hb2;generalize (wr.alloc (.cells #[.int .i32 cl, .int .i32 0, .int .i32 0] 80)).drew = W2 at *;have hO := HA3.out.own;rw [HPL.out] at hO;have HO := Bas.hid hO;clear hO;refine Row.append_any rfl _ _ 246 80 rfl (.agg #[.int .i32 0, .int .i32 0, .int .i32 0]) 3 12 Tryz.underlying246 infoPl rfl (by decide) G (.slice a3 i cs) i _ rfl HO.out (.slice (some ⟨wr.heap.size, 0, none⟩) 1 1) 1 [.int .i32 cl, .int .i32 0, .int .i32 0] rfl (leads_heap q2) rfl (by simp; first | exact ⟨rfl, rfl⟩ | exact rfl) (by unfold maxLen; omega) (by omega) hG3 ?_
   intro v7 w7 ho7 hg7 _;obtain ⟨a7, c7, rfl⟩ := own_slice ho7;have HA8 := Bas.hid (pls_snoc (p := ⟨cl, 0, 0⟩) HA3.out HCW.out hg7 (by rw [HPL.out]; exact ho7))
   have k7 := (hg7.block G HA3.out.lt (fun e => HA3.out.ne e.symm)).trans HA3.out.head
   have c1 := cell_of_heap (i := 1) k7 rfl;have f1 := free_of_heap (i := 1) k7;have HB7 := Bas.hid (HB3.out.grown hg7 hG3 (fun g' hg' => (Row.own_block HA3.out.own hg').1))
   have HB8 := Bas.hid (HB7.out.setCell (p := ⟨G, 1, none⟩) (Nat.le_refl _) (.slice a7 (i + 1) c7));clear hg7 ho7 q2;go_wp2_with (fail);go_roundw
   case rel => exact ⟨i + 1, _, by omega, by go_num, by rw [HX.out]; exact HA8.out, HB8.out⟩
   case measure => simp [intOf]; omega
  ·have hin2 : i = n := by omega
   have e1 : decide ((i : Int) < (n : Int)) = false := by simp; omega
   have e2 : decide (i < n) = false := by simp; omega
   have e3 : ¬ (i : Int) < (n : Int) := by omega
   have HF : Hid (PlsAt wr G G dn sv (plNew adv)) := by
    unfold Hid;rw [List.take_of_length_le (by rw [HN.out]; omega)] at hA
    exact hA
   clear hin2 hA hB;go_wp2_with (fail);go_ret;rw [HG.out];exact ⟨rfl, HB2.out, sv, HF.out⟩
end Pc
namespace Sh
open Fo Ln
theorem infoI : (Tryz.prog.info? 3).map (fun i => (i.zero, i.size, i.bytes)) = some (some (.int .i64 0), 1, 8) := by kernel_rfl
def advsOf (g m : Nat) (d : List Int) (down : Bool) (xs : List Gl) : List Int := xs.map fun x => if down then 1000 else advL g m d x.1
theorem glyph_cells {w : World} {base n : Nat} {sv : Value} {xs : List Gl} (h : w.ownsRow base 78 2 sv n (xs.flatMap glC)) {k : Nat} {x : Gl} (hx : xs[k]? = some x) :
  ∃ bo cp, sv = .slice (some ⟨bo, 0, none⟩) n cp ∧ bo < w.heap.size ∧ w.cell? ⟨bo, k * 2, none⟩ = some (.int .i64 x.1) ∧ w.cell? ⟨bo, k * 2 + 1, none⟩ = some (.int .i64 x.2) := by
 have hL := Row.leads_elem glC_len (Row.leads_owned h) hx (by omega)
 obtain ⟨hlen, ⟨h2, h3⟩ | ⟨bo, cap, cur, hv, hb, hh, hc, hm, hs, ht⟩⟩ := h
 ·have h4 := glC_flat xs;rw [h3] at hlen;have := (List.getElem?_eq_some_iff.1 hx).1;omega
 ·obtain ⟨b2, o2, c2, hv2, hcell⟩ := hL;rw [hv] at hv2;cases hv2;exact ⟨bo, cap, hv, heap_lt hh, by simpa using hcell 0 _ rfl, by simpa using hcell 1 _ rfl⟩
theorem face_em (a b c : Int) (w : World) : (Instr.field 196 (.agg #[.int .i64 a, .int .i64 b, .int .i64 c]) 1).run Tryz.prog w = .ok (.int .i64 b) w := by
 have h := run_underlying (P := Tryz.prog) Tryz.underlying196;simp [Instr.field, h, part, asAgg, go_sem]
theorem own_apart2 {w : World} {base base' : Nat} {e e' : TypeId} {size size' : Nat} {v v' : Value} {n n' : Nat} {xs xs' : List Value} (h : w.ownsRow base e size v n xs) (h' : w.ownsRow base' e' size' v' n' xs') (hne : e ≠ e') : ∀ g, v.ownBlock = some g → v'.ownBlock ≠ some g := by
 intro g hg hg';obtain ⟨_, ⟨rfl, _⟩ | ⟨g1, cp, cur, rfl, _, hh, _⟩⟩ := h
 ·cases hg
 ·cases hg;exact own_ty h' hh (Ne.symm hne) hg'
set_option maxRecDepth 100000 in
set_option maxHeartbeats 8000000 in
theorem advances_any (gf gw : Nat) (f1 f2 f3 f4 f5 : Value) (baseW g m : Nat) (d : List Int) (dir : Int) (dn : Bool) (base gl : Nat) (sv : Value) (xs : List Gl) (w : World) (hf : w.heap[gf]? = some (.cells #[.pointer (some ⟨gw, 0, none⟩), f1, f2, f3, f4, f5] 204 (0, 0))) (hw : IsW w baseW gw g m d) (hd : d.length = 4 * m + 2 * (g - m)) (hm1 : 1 ≤ m) (hmg : m ≤ g) (hgb : g ≤ 65535)
  (hdn : (dir == 2) = dn) (hL : LineAt w base gl sv xs) (hn : xs.length ≤ 4000000) :
  Calls Tryz.prog 72 #[.pointer (some ⟨gf, 0, none⟩), .pointer (some ⟨gl, 0, none⟩), .int .i64 dir] w fun e w' => Below w.heap.size w w' ∧ ∃ v', e = .returned v' ∧ w'.ownsRow w.heap.size 3 1 v' xs.length ((advsOf g m d dn xs).map (Value.int .i64)) := by
 have HG := Bas.hid (glyphs_any base gl sv xs w hL (by omega))
 have HADV := Bas.hid (fun u (hb : Below w.heap.size w u) id => wadv_any u baseW gw g m d id (isW_below hw hb) hd hm1 hmg hgb)
 have HFACE := Bas.hid (fun u (hb : Below w.heap.size w u) => wface_any u baseW gw g m d (isW_below hw hb))
 have HF := Bas.hid hf;have HB0 := Bas.hid (Below.refl w.heap.size w);have lgf := heap_lt hf;obtain ⟨n, hnn⟩ : ∃ n, xs.length = n := ⟨_, rfl⟩;have HN := Bas.hid hnn;rw [hnn] at HG hn ⊢;clear hf hw hL hd hnn;go_enter Tryz.func72, Tryz.ntmps72
 go_wp2_with (fail);refine HG.out.mono ?_;rintro e w2 ⟨hb, v', rfl, ho⟩;obtain ⟨a2, c2, rfl⟩ := own_slice ho;have HO := Bas.hid ho;have HB := Bas.hid hb;clear hb ho HG;go_wp2_with (fail);obtain ⟨wo, hwo⟩ : ∃ wo : World, wo = w2 := ⟨_, rfl⟩;rw [← hwo] at HO HB;rw [← hwo];clear hwo;go_loopw [7, 14] (fun vb vi wr => ∃ (i : Nat) (vB : Value), i ≤ n ∧ vb = vB ∧ vi = .int .i64 i ∧ wr.ownsRow w.heap.size 3 1 vB i ((advsOf g m d dn (xs.take i)).map (Value.int .i64)) ∧ wr.ownsRow w.heap.size 78 2 (.slice a2 n c2) n (xs.flatMap glC) ∧ Below w.heap.size w wr) (fun _ vi _ => n - (intOf vi).toNat)
 case atStart => exact ⟨0, _, Nat.zero_le _, rfl, rfl, Row.owned_nil _ _ _ _, HO.out, HB.out⟩
 case round =>
  obtain ⟨i, vB, hi, hvb, rfl, hrow, hgl, hb⟩ := hrel;subst hvb;have HRW := Bas.hid hrow;have HGL := Bas.hid hgl;have HBR := Bas.hid hb;by_cases hin : i < n
  ·have e1 : decide ((i : Int) < (n : Int)) = true := by simp; omega
   have e2 : decide (i < n) = true := by simp; omega
   obtain ⟨⟨x0, x1⟩, hx⟩ : ∃ x, xs[i]? = some x := ⟨_, List.getElem?_eq_getElem (by rw [HN.out]; exact hin)⟩
   obtain ⟨bo, cp, hv, hlt, p0, p1⟩ := glyph_cells hgl hx;cases hv;obtain ⟨aB, cB, hvB⟩ := own_slice hrow;subst hvB;have HX : Hid ((advsOf g m d dn (xs.take (i + 1))).map (Value.int .i64) = (advsOf g m d dn (xs.take i)).map (Value.int .i64) ++ [.int .i64 (if dn then 1000 else advL g m d x0)]) := by
    unfold Hid advsOf;rw [List.take_add_one, hx];simp
   have hb3 := (Below.refl wr.heap.size wr).alloc (Nat.le_refl _) (.cells #[.int .i64 x0, .int .i64 x1] 78);have k3 := Bas.heap_new wr (.cells #[.int .i64 x0, .int .i64 x1] 78);have HR3 := Bas.hid (Row.owned_below hrow hb3);have HG3 := Bas.hid (Row.owned_below hgl hb3);have HB3 := Bas.hid (Bas.on hb hb3);have kf := (HB3.out.block gf lgf).trans HF.out;simp only at p0 p1;clear hrow hgl hb hx hb3;go_wp2_with (fail);generalize wr.alloc (.cells #[.int .i64 x0, .int .i64 x1] 78) = w3 at *;generalize wr.heap.size = T3 at *;have c0 := cell_of_heap (i := 0) (v := .pointer (some ⟨gw, 0, none⟩)) kf rfl;have q0 := cell_of_heap (i := 0) (v := .int .i64 x0) k3 rfl;have lf3 := heap_lt kf;have lT3 := heap_lt k3;refine' Pl.region_v0 39 [] [0, 1, 2, 3, 4, 5] [6, 7] _ (by kernel_rfl) (by kernel_rfl) (by simp) (fun _ _ _ _ e h => ⟨e ▸ h.1, h.2⟩) ?_ ?_
   rotate_left
   ·intro I F hI hF;simp only [Pl.selN, List.nil_append, List.drop_succ_cons, List.drop_zero];have t0 := fun i => hF.cell lf3 c0 i
    have t1 := fun i => hF.cell lT3 q0 i
    repeat (go_big_quiet_step (fail))
    refine wpQuiet_nil ?_;rfl
   intro w5 hw5;simp only [Pl.selN, List.drop_succ_cons, List.drop_zero];have hb5 := HB3.out.trans (hw5.mono HB3.out.size);go_wp2_with (fail);refine (HADV.out w5 hb5 x0).mono ?_;rintro e w6 ⟨rfl, hb6⟩;have hb56 := hw5.trans (hb6.mono hw5.size);have HR6 := Bas.hid (Row.owned_below HR3.out hb56);have HG6 := Bas.hid (Row.owned_below HG3.out hb56);have HB6 := Bas.hid (hb5.trans (hb6.mono hb5.size));clear hb5 hb6 hb56 hw5 c0 q0 kf k3 HR3 HG3 HB3;have kf := (HB6.out.block gf lgf).trans HF.out;have c0 := cell_of_heap (i := 0) (v := .pointer (some ⟨gw, 0, none⟩)) kf rfl;cases dn with
   | false =>
    simp only [Bool.false_eq_true, if_false] at HX;go_wp2_with (at_builtin; refine Row.fence ?_);refine Row.unfence ?_;have hb7 := (Below.refl w6.heap.size w6).alloc (Nat.le_refl _) (.cells #[.int .i64 (advL g m d x0)] 3);have k7 := Bas.heap_new w6 (.cells #[.int .i64 (advL g m d x0)] 3);have HR7 := Bas.hid (Row.owned_below HR6.out hb7);have HG7 := Bas.hid (Row.owned_below HG6.out hb7);have HB7 := Bas.hid (Bas.on HB6.out hb7);generalize w6.alloc (.cells #[.int .i64 (advL g m d x0)] 3) = w7 at *;refine Row.append_any rfl _ _ 24 3 rfl (.int .i64 0) 1 8 Tryz.underlying24 infoI rfl (by decide) w.heap.size (.slice aB i cB) i _ rfl HR7.out (.slice (some ⟨w6.heap.size, 0, none⟩) 1 1) 1 [.int .i64 (advL g m d x0)] rfl (leads_heap k7) rfl (by simp; rfl) (by unfold maxLen; omega) (by omega) HB7.out.size ?_
    intro v8 w8 h81 h82 _;have HR8 : Hid (w8.ownsRow w.heap.size 3 1 v8 (i + 1) ((advsOf g m d false (xs.take (i + 1))).map (Value.int .i64))) := by unfold Hid; rw [HX.out]; exact h81
    have HG8 := Bas.hid (Row.owned_keep HG7.out fun b hbk => h82.block b (Row.own_block HG7.out hbk).2 (fun e => own_apart2 HG7.out HR7.out (by decide) b hbk e.symm))
    have HB8 := Bas.hid (HB7.out.grown h82 HB7.out.size (fun b hbk => (Row.own_block HR7.out hbk).1))
    clear h81 h82 k7 hb7 HR7 HG7 HB7 c0 kf;go_wp2_with (fail);go_roundw
    case rel => exact ⟨i + 1, v8, by omega, rfl, by go_num, HR8.out, HG8.out, HB8.out⟩
    case measure => simp [intOf]; omega
   | true =>
    simp only [if_true] at HX;go_wp2_with (fail);refine (HFACE.out w6 HB6.out).mono ?_;rintro e wf ⟨rfl, hbf⟩;have HRf := Bas.hid (Row.owned_below HR6.out hbf);have HGf := Bas.hid (Row.owned_below HG6.out hbf);have HBf := Bas.hid (HB6.out.trans (hbf.mono HB6.out.size));clear hbf HR6 HG6 HB6;have HR6 := HRf;have HG6 := HGf;have HB6 := HBf;clear HRf HGf HBf;have hfm := face_em (g : Int) 1000 (m : Int) wf;go_wp2_with (at_builtin; refine Row.fence ?_);refine Row.unfence ?_;have hb7 := (Below.refl wf.heap.size wf).alloc (Nat.le_refl _) (.cells #[.int .i64 1000] 3);have k7 := Bas.heap_new wf (.cells #[.int .i64 1000] 3);have HR7 := Bas.hid (Row.owned_below HR6.out hb7);have HG7 := Bas.hid (Row.owned_below HG6.out hb7);have HB7 := Bas.hid (Bas.on HB6.out hb7);generalize wf.alloc (.cells #[.int .i64 1000] 3) = w7 at *;refine Row.append_any rfl _ _ 24 3 rfl (.int .i64 0) 1 8 Tryz.underlying24 infoI rfl (by decide) w.heap.size (.slice aB i cB) i _ rfl HR7.out (.slice (some ⟨wf.heap.size, 0, none⟩) 1 1) 1 [.int .i64 1000] rfl (leads_heap k7) rfl (by simp; rfl) (by unfold maxLen; omega) (by omega) HB7.out.size ?_
    intro v8 w8 h81 h82 _;have HR8 : Hid (w8.ownsRow w.heap.size 3 1 v8 (i + 1) ((advsOf g m d true (xs.take (i + 1))).map (Value.int .i64))) := by unfold Hid; rw [HX.out]; exact h81
    have HG8 := Bas.hid (Row.owned_keep HG7.out fun b hbk => h82.block b (Row.own_block HG7.out hbk).2 (fun e => own_apart2 HG7.out HR7.out (by decide) b hbk e.symm))
    have HB8 := Bas.hid (HB7.out.grown h82 HB7.out.size (fun b hbk => (Row.own_block HR7.out hbk).1))
    clear h81 h82 k7 hb7 HR7 HG7 HB7 c0 kf;go_wp2_with (fail);go_roundw
    case rel => exact ⟨i + 1, v8, by omega, rfl, by go_num, HR8.out, HG8.out, HB8.out⟩
    case measure => simp [intOf]; omega
  ·obtain rfl : n = i := by omega
   have e1 : decide ((n : Int) < (n : Int)) = false := by simp
   obtain ⟨aB, cB, hvB⟩ := own_slice hrow;subst hvB;have HFR : Hid (wr.ownsRow w.heap.size 3 1 (.slice aB n cB) n ((advsOf g m d dn xs).map (Value.int .i64))) := by
    unfold Hid;rw [List.take_of_length_le (by rw [HN.out]; exact Nat.le_refl _)] at hrow
    exact hrow
   clear hrow hgl hb;go_wp2_with (fail);go_ret;exact ⟨HBR.out, _, rfl, HFR.out⟩
end Sh
namespace Cov
def bitB (w : Int) (n : Nat) : Bool := w / 2 ^ n % 2 == 1
theorem div_pow (w : Int) (k : Nat) : w / 2 ^ k / 2 = w / 2 ^ (k + 1) := by
 rw [Int.pow_succ, Int.ediv_ediv_of_nonneg (Int.le_of_lt (Int.pow_pos (by omega)))]
def isDir (d : Int) : Bool := decide (0 ≤ d) && decide (d ≤ 2)
set_option maxHeartbeats 400000 in
theorem is_any (d : Int) (w : World) :
  Calls Tryz.prog 13 #[.int .i64 d] w fun e w' => e = .returned (.bool (isDir d)) ∧ w = w' := by
 by_cases hd : 0 ≤ d
 ·have hd' : decide (0 ≤ d) = true := by simpa using hd
  go_enter Tryz.func13, Tryz.ntmps13
  go_wp2;go_ret;exact ⟨by simp [isDir, hd], rfl⟩
 ·have hd' : decide (0 ≤ d) = false := by simpa using hd
  go_enter Tryz.func13, Tryz.ntmps13
  go_wp2;go_ret;exact ⟨by simp [isDir]; omega, rfl⟩
theorem is_eq (d : Int) (b : Bool) (hb : isDir d = b) (w : World) :
  Calls Tryz.prog 13 #[.int .i64 d] w fun e w' => e = .returned (.bool b) ∧ w = w' := hb ▸ is_any d w
def fits (v : Bool) (d : Int) : Bool := isDir d && (v == (d == 2))
def runsM (v both : Bool) (d : Int) : Bool := fits v d || both && isDir d
def turnedM (back logical : Bool) (d : Int) : Bool := back != (!logical && d == 1)
set_option maxHeartbeats 400000 in
theorem fits_any (kind : Int) (v back : Bool) (d : Int) (w : World) :
  Calls Tryz.prog 177 #[.agg #[.int .i64 kind, .bool v, .bool back], .int .i64 d] w fun e w' => e = .returned (.bool (fits v d)) ∧ Below w.heap.size w w' := by
 cases hb : isDir d
 all_goals
  go_enter Tryz.func177, Tryz.ntmps177
  go_wp2_with ((go_at_call 13; refine (is_eq _ _ hb _).mono ?_; rintro e w' ⟨rfl, rfl⟩));go_ret;exact ⟨by simp [fits, hb], (Below.refl _ _).alloc (Nat.le_refl _) _⟩
end Cov
namespace Sh
open Cov Fo
def badId (x : Int) : Bool := decide (x < 0) || decide (65535 ≤ x)
def checkN (d : Int) (ids : List Int) : Int := if 0 ≤ d ∧ d ≤ 2 then if 65536 < ids.length then 5 else if ids.any badId then 1 else 0 else 1
theorem check_bad {d : Int} {ids : List Int} (h : 0 ≤ d ∧ d ≤ 2) (hl : ¬ 65536 < ids.length) {i : Nat} {x : Int} (hx : ids[i]? = some x) (hb : badId x = true) : checkN d ids = 1 := by
 unfold checkN;rw [if_pos h, if_neg hl, if_pos (List.any_eq_true.2 ⟨x, List.mem_of_getElem? hx, hb⟩)]
theorem check_ok {d : Int} {ids : List Int} (h : 0 ≤ d ∧ d ≤ 2) (hl : ¬ 65536 < ids.length) (hk : ∀ j x, j < ids.length → ids[j]? = some x → badId x = false) : checkN d ids = 0 := by
 unfold checkN;rw [if_pos h, if_neg hl, if_neg];intro h;obtain ⟨x, hx, hb⟩ := List.any_eq_true.1 h;obtain ⟨j, hj⟩ := List.getElem?_of_mem hx;rw [hk j x (List.getElem?_eq_some_iff.1 hj).1 hj] at hb;cases hb
theorem leads_int {w : World} {a : Option Addr} {n cap : Nat} {ids : List Int} (hl : Row.Leads w (.slice a n cap) n (ids.map (Value.int .i64))) {i : Nat} {x : Int} (hx : ids[i]? = some x) : ∃ b o, a = some ⟨b, o, none⟩ ∧ w.cell? ⟨b, o + i, none⟩ = some (.int .i64 x) := by
 have h2 : Row.Leads w (.slice a n cap) n (ids.flatMap fun x => [Value.int .i64 x]) := by
  rwa [show (ids.flatMap fun x => [Value.int .i64 x]) = ids.map (Value.int .i64) by clear hl hx; induction ids with | nil => rfl | cons y l ih => simp [ih]]
 obtain ⟨b, o, c, hv, hc⟩ := Row.leads_elem (m := 1) (fun _ => rfl) h2 hx (by omega)
 cases hv;exact ⟨b, o, rfl, by simpa using hc 0 _ rfl⟩
set_option maxRecDepth 100000 in
set_option maxHeartbeats 4000000 in
theorem check_any (s1 : Option Addr) (s2 s3 : Nat) (d z : Int) (a : Option Addr) (n cap : Nat) (ids : List Int) (w : World) (hl : Row.Leads w (.slice a n cap) n (ids.map (Value.int .i64))) (hn : ids.length = n) :
  Calls Tryz.prog 6 #[.agg #[.slice s1 s2 s3, .int .i64 d, .int .i32 z, .slice a n cap]] w fun e w' => e = .returned (.int .i64 (checkN d ids)) ∧ Below w.heap.size w w' := by
 have HB := Bas.hid ((Below.refl w.heap.size w).alloc (Nat.le_refl _) (.cells #[.slice s1 s2 s3, .int .i64 d, .int .i32 z, .slice a n cap] 26));have HL := Bas.hid (Row.leads_below hl ((Below.refl w.heap.size w).alloc (Nat.le_refl _) (.cells #[.slice s1 s2 s3, .int .i64 d, .int .i32 z, .slice a n cap] 26)));have HN := Bas.hid hn;obtain ⟨m, hm⟩ : ∃ m, checkN d ids = m := ⟨_, rfl⟩;rw [hm];have HM := Bas.hid hm;clear hl hn hm;by_cases hd0 : d < 0
 ·have d1 : decide (d < 0) = true := by simpa using hd0
  have hdir : isDir d = false := by unfold isDir; simp; omega
  obtain rfl : m = 1 := by rw [← HM.out, checkN, if_neg (by omega)]
  go_enter Tryz.func6, Tryz.ntmps6
  go_wp2_with (fail);refine (is_eq d false hdir _).mono ?_;rintro e w' ⟨rfl, rfl⟩;go_wp2_with (fail);go_ret;exact ⟨rfl, HB.out⟩
 have d1 : decide (d < 0) = false := by simpa using hd0
 by_cases hd2 : 2 < d
 ·have d2 : decide (d > 2) = true := by simpa using hd2
  have d3 : decide (2 < d) = true := by simpa using hd2
  have hdir : isDir d = false := by unfold isDir; simp; omega
  obtain rfl : m = 1 := by rw [← HM.out, checkN, if_neg (by omega)]
  go_enter Tryz.func6, Tryz.ntmps6
  go_wp2_with (fail);refine (is_eq d false hdir _).mono ?_;rintro e w' ⟨rfl, rfl⟩;go_wp2_with (fail);go_ret;exact ⟨rfl, HB.out⟩
 have d2 : decide (d > 2) = false := by simpa using hd2
 have d3 : decide (2 < d) = false := by simpa using hd2
 have hdir : isDir d = true := by unfold isDir; simp; omega
 by_cases hbig : 65536 < n
 ·have b1 : decide ((n : Int) > 65536) = true := by simp; omega
  have b2 : decide ((65536 : Int) < (n : Int)) = true := by simp; omega
  have b3 : decide (65536 < n) = true := by simp; omega
  obtain rfl : m = 5 := by rw [← HM.out, checkN, if_pos (by omega), if_pos (by rw [HN.out]; exact hbig)]
  go_enter Tryz.func6, Tryz.ntmps6
  go_wp2_with (fail);refine (is_eq d true hdir _).mono ?_;rintro e w' ⟨rfl, rfl⟩;go_wp2_with (fail);go_ret;exact ⟨rfl, HB.out⟩
 have b1 : decide ((n : Int) > 65536) = false := by simp; omega
 have b2 : decide ((65536 : Int) < (n : Int)) = false := by simp; omega
 have b3 : decide (65536 < n) = false := by simp; omega
 go_enter Tryz.func6, Tryz.ntmps6
 go_wp2_with (fail);refine (is_eq d true hdir _).mono ?_;rintro e w' ⟨rfl, rfl⟩;go_wp2_with (fail);have k1 := Bas.heap_new w (.cells #[.slice s1 s2 s3, .int .i64 d, .int .i32 z, .slice a n cap] 26);generalize w.alloc (.cells #[.slice s1 s2 s3, .int .i64 d, .int .i32 z, .slice a n cap] 26) = W1 at *;obtain ⟨T1, hT1⟩ : ∃ T, w.heap.size = T := ⟨_, rfl⟩;rw [hT1] at k1 ⊢;clear hT1;have c3 := cell_of_heap (i := 3) (v := .slice a n cap) k1 rfl;go_loopw [16] (fun vi wr => ∃ i : Nat, i ≤ n ∧ vi = .int .i64 i ∧ (∀ j x, j < i → ids[j]? = some x → badId x = false) ∧ wr = W1) (fun vi _ => n - (intOf vi).toNat)
 case atStart => exact ⟨0, Nat.zero_le _, rfl, fun j x hj => by omega, rfl⟩
 case round =>
  obtain ⟨i, hi, rfl, hj, rfl⟩ := hrel;have HJ := Bas.hid hj;clear hj;by_cases hin : i < n
  ·have e1 : decide ((i : Int) < (n : Int)) = true := by simp; omega
   have e2 : decide (i < n) = true := by simp; omega
   obtain ⟨x, hx⟩ : ∃ x, ids[i]? = some x := ⟨_, List.getElem?_eq_getElem (by rw [HN.out]; exact hin)⟩
   obtain ⟨bo, o, rfl, hc⟩ := leads_int HL.out hx;have HX := Bas.hid hx;clear hx;by_cases hx0 : x < 0
   ·have f1 : decide (x < 0) = true := by simpa using hx0
    obtain rfl : m = 1 := by rw [← HM.out]; exact check_bad (by omega) (by rw [HN.out]; exact hbig) HX.out (by unfold badId; rw [f1]; rfl)
    go_wp2_with (fail);go_ret;exact ⟨rfl, HB.out⟩
   ·have f1 : decide (x < 0) = false := by simpa using hx0
    by_cases hx5 : 65535 ≤ x
    ·have f2 : decide (x ≥ 65535) = true := by simpa using hx5
     have f3 : decide (65535 ≤ x) = true := by simpa using hx5
     have f4 : decide (x > 65534) = true := by simp; omega
     have f5 : decide (65534 < x) = true := by simp; omega
     obtain rfl : m = 1 := by rw [← HM.out]; exact check_bad (by omega) (by rw [HN.out]; exact hbig) HX.out (by unfold badId; rw [f3, Bool.or_true])
     go_wp2_with (fail);go_ret;exact ⟨rfl, HB.out⟩
    ·have f2 : decide (x ≥ 65535) = false := by simpa using hx5
     have f3 : decide (65535 ≤ x) = false := by simpa using hx5
     have f4 : decide (x > 65534) = false := by simp; omega
     have f5 : decide (65534 < x) = false := by simp; omega
     have HJ2 : Hid (∀ j y, j < i + 1 → ids[j]? = some y → badId y = false) := fun j y hj hy => by
      by_cases hji : j = i
      ·subst hji;rw [HX.out] at hy;cases hy;unfold badId; rw [f1, f3]; rfl
      ·exact HJ.out j y (by omega) hy
     go_wp2_with (fail);go_roundw
     case rel => exact ⟨i + 1, by omega, by go_num, HJ2.out, trivial⟩
     case measure => simp [intOf]; omega
  ·obtain rfl : n = i := by omega
   have e1 : decide ((n : Int) < (n : Int)) = false := by simp
   obtain rfl : m = 0 := by rw [← HM.out]; exact check_ok (by omega) (by rw [HN.out]; exact hbig) (fun j x hj hx => HJ.out j x (by rw [← HN.out]; exact hj) hx)
   go_wp2_with (fail);go_ret;exact ⟨rfl, HB.out⟩
set_option maxRecDepth 100000 in
set_option maxHeartbeats 4000000 in
theorem rcheck_any (s1 : Option Addr) (s2 s3 : Nat) (d z : Int) (a : Option Addr) (n cap : Nat) (ids : List Int) (w : World) (hl : Row.Leads w (.slice a n cap) n (ids.map (Value.int .i64))) (hn : ids.length = n) :
  Calls Tryz.prog 7 #[.agg #[.slice s1 s2 s3, .int .i64 d, .int .i32 z, .slice a n cap]] w fun e w' => e = .returned (.int .i64 (checkN d ids)) ∧ Below w.heap.size w w' := by
 have HB := Bas.hid ((Below.refl w.heap.size w).alloc (Nat.le_refl _) (.cells #[.slice s1 s2 s3, .int .i64 d, .int .i32 z, .slice a n cap] 26));have HL := Bas.hid (Row.leads_below hl ((Below.refl w.heap.size w).alloc (Nat.le_refl _) (.cells #[.slice s1 s2 s3, .int .i64 d, .int .i32 z, .slice a n cap] 26)));have HN := Bas.hid hn;obtain ⟨m, hm⟩ : ∃ m, checkN d ids = m := ⟨_, rfl⟩;rw [hm];have HM := Bas.hid hm;clear hl hn hm;by_cases hd0 : d < 0
 ·have d1 : decide (d < 0) = true := by simpa using hd0
  obtain rfl : m = 1 := by rw [← HM.out, checkN, if_neg (by omega)]
  go_enter Tryz.func7, Tryz.ntmps7
  go_wp2_with (fail);go_ret;exact ⟨rfl, HB.out⟩
 have d1 : decide (d < 0) = false := by simpa using hd0
 by_cases hd2 : 2 < d
 ·have d2 : decide (d > 2) = true := by simpa using hd2
  have d3 : decide (2 < d) = true := by simpa using hd2
  obtain rfl : m = 1 := by rw [← HM.out, checkN, if_neg (by omega)]
  go_enter Tryz.func7, Tryz.ntmps7
  go_wp2_with (fail);go_ret;exact ⟨rfl, HB.out⟩
 have d2 : decide (d > 2) = false := by simpa using hd2
 have d3 : decide (2 < d) = false := by simpa using hd2
 by_cases hbig : 65536 < n
 ·have b1 : decide ((n : Int) > 65536) = true := by simp; omega
  have b2 : decide ((65536 : Int) < (n : Int)) = true := by simp; omega
  have b3 : decide (65536 < n) = true := by simp; omega
  obtain rfl : m = 5 := by rw [← HM.out, checkN, if_pos (by omega), if_pos (by rw [HN.out]; exact hbig)]
  go_enter Tryz.func7, Tryz.ntmps7
  go_wp2_with (fail);go_ret;exact ⟨rfl, HB.out⟩
 have b1 : decide ((n : Int) > 65536) = false := by simp; omega
 have b2 : decide ((65536 : Int) < (n : Int)) = false := by simp; omega
 have b3 : decide (65536 < n) = false := by simp; omega
 go_enter Tryz.func7, Tryz.ntmps7
 go_wp2_with (fail);have k1 := Bas.heap_new w (.cells #[.slice s1 s2 s3, .int .i64 d, .int .i32 z, .slice a n cap] 26);generalize w.alloc (.cells #[.slice s1 s2 s3, .int .i64 d, .int .i32 z, .slice a n cap] 26) = W1 at *;obtain ⟨T1, hT1⟩ : ∃ T, w.heap.size = T := ⟨_, rfl⟩;rw [hT1] at k1 ⊢;clear hT1;have c3 := cell_of_heap (i := 3) (v := .slice a n cap) k1 rfl;go_loopw [3] (fun vi wr => ∃ i : Nat, i ≤ n ∧ vi = .int .i64 i ∧ (∀ j x, j < i → ids[j]? = some x → badId x = false) ∧ wr = W1) (fun vi _ => n - (intOf vi).toNat)
 case atStart => exact ⟨0, Nat.zero_le _, rfl, fun j x hj => by omega, rfl⟩
 case round =>
  obtain ⟨i, hi, rfl, hj, rfl⟩ := hrel;have HJ := Bas.hid hj;clear hj;by_cases hin : i < n
  ·have e1 : decide ((i : Int) < (n : Int)) = true := by simp; omega
   have e2 : decide (i < n) = true := by simp; omega
   obtain ⟨x, hx⟩ : ∃ x, ids[i]? = some x := ⟨_, List.getElem?_eq_getElem (by rw [HN.out]; exact hin)⟩
   obtain ⟨bo, o, rfl, hc⟩ := leads_int HL.out hx;have HX := Bas.hid hx;clear hx;by_cases hx0 : x < 0
   ·have f1 : decide (x < 0) = true := by simpa using hx0
    obtain rfl : m = 1 := by rw [← HM.out]; exact check_bad (by omega) (by rw [HN.out]; exact hbig) HX.out (by unfold badId; rw [f1]; rfl)
    go_wp2_with (fail);go_ret;exact ⟨rfl, HB.out⟩
   ·have f1 : decide (x < 0) = false := by simpa using hx0
    by_cases hx5 : 65535 ≤ x
    ·have f2 : decide (x ≥ 65535) = true := by simpa using hx5
     have f3 : decide (65535 ≤ x) = true := by simpa using hx5
     have f4 : decide (x > 65534) = true := by simp; omega
     have f5 : decide (65534 < x) = true := by simp; omega
     obtain rfl : m = 1 := by rw [← HM.out]; exact check_bad (by omega) (by rw [HN.out]; exact hbig) HX.out (by unfold badId; rw [f3, Bool.or_true])
     go_wp2_with (fail);go_ret;exact ⟨rfl, HB.out⟩
    ·have f2 : decide (x ≥ 65535) = false := by simpa using hx5
     have f3 : decide (65535 ≤ x) = false := by simpa using hx5
     have f4 : decide (x > 65534) = false := by simp; omega
     have f5 : decide (65534 < x) = false := by simp; omega
     have HJ2 : Hid (∀ j y, j < i + 1 → ids[j]? = some y → badId y = false) := fun j y hj hy => by
      by_cases hji : j = i
      ·subst hji;rw [HX.out] at hy;cases hy;unfold badId; rw [f1, f3]; rfl
      ·exact HJ.out j y (by omega) hy
     go_wp2_with (fail);go_roundw
     case rel => exact ⟨i + 1, by omega, by go_num, HJ2.out, trivial⟩
     case measure => simp [intOf]; omega
  ·obtain rfl : n = i := by omega
   have e1 : decide ((n : Int) < (n : Int)) = false := by simp
   obtain rfl : m = 0 := by rw [← HM.out]; exact check_ok (by omega) (by rw [HN.out]; exact hbig) (fun j x hj hx => HJ.out j x (by rw [← HN.out]; exact hj) hx)
   go_wp2_with (fail);go_ret;exact ⟨rfl, HB.out⟩
end Sh
namespace Pl
section
variable {P : Program} {ops : Array Oper} {md : Region.Mode} {Q : Exit → Act → World → Prop} {S : World → Prop} {late : List Nat}
def planP (md : Region.Mode) (ops : Array Oper) (late : List Nat) (base : Array Bool → Bool) : List Nat → Array Bool → Bool
 | [], listed => base listed
 | i :: r, listed => (Region.ready md ops listed).contains i && Region.free md ops listed i &&
  (match ops[i]? with
   | none => false
   | some o => (valueOp o || callOp o) && (pureOp o || late.all fun j => waitsT md ops ops.size j i)) && planP md ops late base r (listed.setIfInBounds i true)
def walkK (P : Program) (ops : Array Oper) (S : World → Prop) (K : Act → World → Prop) : List Nat → Act → World → Prop
 | [], a, w => K a w
 | i :: r, a, w => ∃ oi v, ops[i]? = some oi ∧ YieldsC P ops S oi v a ∧ walkK P ops S K r (a.put oi.dst v) w
theorem wpAnyF_prefix (base : Array Bool → Bool) (K : Act → World → Prop) (m : Nat) (hsel : Region.noSelect ops = true) (hQ : ∀ c a d v w, Q (.panic c) (Act.put a d v) w → Q (.panic c) a w) (hne : ∃ w, S w)
  (hb : ∀ (listed : Array Bool) (a : Act) (w : World), Closed md ops listed → base listed = true → ((∀ j ∈ late, listed.getD j true = false) → S w) → K a w → wpAnyF P md ops Q S late m listed a w) :
  ∀ (plan : List Nat) (listed : Array Bool) (a : Act) (w : World), Closed md ops listed → planP md ops late base plan listed = true →
   ((∀ j ∈ late, listed.getD j true = false) → S w) → walkK P ops S K plan a w → wpAnyF P md ops Q S late (plan.length + m) listed a w
 | [], listed, a, w, inv, hB, hS, h => by
  rw [List.length_nil, Nat.zero_add];exact hb listed a w inv hB hS h
 | i :: r, listed, a, w, inv, hB, hS, h => by
  obtain ⟨oi, v, ho, hy, hr⟩ := h;simp only [planP, ho, Bool.and_eq_true, Bool.or_eq_true] at hB;obtain ⟨⟨⟨h1, h2⟩, h3, h4⟩, h5⟩ := hB;have hri : i ∈ Region.ready md ops listed := by simpa using h1
  have hiun := (mem_ready.1 hri).1;have key := wpAnyF_prefix base K m hsel hQ hne hb r (listed.setIfInBounds i true) (a.put oi.dst v) w (inv.set hri) h5 (fun hl => hS (fun j hj => by
   by_cases hji : i = j
   ·subst hji; exact hiun
   ·have := hl j hj; rwa [getD_set_ne true hji] at this)) hr
  have hlen : (i :: r).length + m = (r.length + m) + 1 := by rw [List.length_cons]; omega
  rw [hlen];rcases h4 with h4 | h4
  ·exact wpAnyF_first ho (Region.noSelect_spec hsel) hQ _ _ _ _ inv (Region.free_spec ho h2) hri (yields_pure h4 hne hy) (.inl fun _ => trivial) key
  ·have h6 : ∀ j ∈ late, waitsT md ops ops.size j i = true := by simpa [List.all_eq_true] using h4
   have hSw : S w := hS fun j hj => by
    cases hl : listed.getD j true with
    | false => rfl
    | true =>
     exfalso;have hjs : j < listed.size := by
      rw [inv.1];rcases Nat.lt_or_ge j ops.size with h | h
      ·exact h
      ·exfalso;have := h6 j hj;cases hz : ops.size with
       | zero => rw [hz] at this; cases this
       | succ m =>
        rw [hz] at this;unfold waitsT at this;rw [Array.getElem?_eq_none h] at this;cases this
     have hl' : listed.getD j false = true := by simp [hjs] at hl ⊢; exact hl
     exact not_both hiun (waitsT_listed inv _ j hl' (h6 j hj))
   exact wpAnyF_first ho (Region.noSelect_spec hsel) hQ _ _ _ _ inv (Region.free_spec ho h2) hri hy (.inr ⟨rfl, hSw, h6⟩) key
def baseC (md : Region.Mode) (ops : Array Oper) (i j : Nat) (r : List (Bool × Nat)) (listed : Array Bool) : Bool :=
 decide (Region.ready md ops listed = [i, j]) && planB md ops [] ((false, j) :: r) (listed.setIfInBounds i true) && planB md ops [] ((false, i) :: r) (listed.setIfInBounds j true)
theorem region_choice {id : Nat} {a : Act} {w : World} {l : List Oper} {I : Type} {F : I → World} (i0 : I) (c : List Nat) (i j : Nat) (r : List (Bool × Nat)) (hm : P.follows .mixedOrders = true)
  (hB : (Region.noSelect l.toArray && decide (c.length + (r.length + 1 + 1) = l.length) && planP .any l.toArray [] (baseC .any l.toArray i j r) c (Array.replicate l.toArray.size false)) = true)
  (hQ : ∀ c a a' w, Act.defers a = Act.defers a' → Q (.panic c) a w → Q (.panic c) a' w) (h0 : w.drew = F i0)
  (h : walkK P l.toArray (fun w => ∃ i, w = F i) (fun a w => walkM P l.toArray Q (fun w => ∃ i, w = F i) [] ((false, i) :: (false, j) :: r) a w ∧ walkM P l.toArray Q (fun w => ∃ i, w = F i) [] ((false, j) :: (false, i) :: r) a w) c a (F i0)) : (Code.region id l.toArray true).wp P Q a w := by
 simp only [Bool.and_eq_true, decide_eq_true_eq] at hB;obtain ⟨⟨hs, hl⟩, hB⟩ := hB;have hQ' : ∀ c a d v w, Q (.panic c) (Act.put a d v) w → Q (.panic c) a w := fun c a d v w => hQ c _ _ w (put_defers a d v)
 have hne : ∃ w, (fun w => ∃ i, w = F i) w := ⟨F i0, i0, rfl⟩
 refine wp_region_any hm ?_;change wpAny P .any l.toArray Q _ _ a w.drew;rw [h0];have H := wpAnyF_prefix (md := .any) (late := []) (S := fun w => ∃ i, w = F i) (baseC .any l.toArray i j r) _ (r.length + 1 + 1) hs hQ' hne (fun listed a w inv hb hS hK => by
  simp only [baseC, Bool.and_eq_true, decide_eq_true_eq] at hb;obtain ⟨⟨hr, hb1⟩, hb2⟩ := hb;have hSw := hS (fun _ h => by cases h)
  refine ⟨fun h => (by rw [h] at hr; cases hr), fun q hq => ?_⟩
  have hq' := hq;rw [hr] at hq';simp only [List.mem_cons, List.not_mem_nil, or_false] at hq';rcases hq' with rfl | rfl
  ·refine wpOp_mono (fun a' w' h' => ⟨h'.1, ?_⟩) hK.1
   exact wpAnyF_of_plan hs hQ' hne ((false, j) :: r) _ a' w' (inv.set hq) hb1 (fun _ => h'.1 (by simp) hSw) h'.2
  ·refine wpOp_mono (fun a' w' h' => ⟨h'.1, ?_⟩) hK.2
   exact wpAnyF_of_plan hs hQ' hne ((false, i) :: r) _ a' w' (inv.set hq) hb2 (fun _ => h'.1 (by simp) hSw) h'.2) c (Array.replicate l.toArray.size false) a (F i0)
  ⟨by simp, fun j oj _ hl => (by rw [getD_replicate_false] at hl; cases hl)⟩ hB (fun _ => ⟨i0, rfl⟩) h
 have := wpAny_of_F _ _ _ _ H;rw [hl] at this;simpa using this
end
section
variable {P : Program} {ops : Array Oper}
theorem walkK_quiet {I : Type} {F : I → World} (w0 : World) {K : Act → World → Prop} (c : List Nat) (l : List Oper) (a : Act) (hl : fits ops (c.map fun i => (true, i)) l) (hv : valuesB (c.map fun i => (true, i)) l = true)
  (h : wpQuiet P ops (fun w => ∃ i, w = F i) (fun a' => K a' w0) l a) : walkK P ops (fun w => ∃ i, w = F i) K c a w0 := by
 induction c generalizing l a with
 | nil =>
  cases l with
  | nil => exact h
  | cons o l => exact hl.elim
 | cons n c ih =>
  cases l with
  | nil => exact hl.elim
  | cons o l =>
   obtain ⟨ho, hl⟩ := hl;simp only [List.map_cons, valuesB, Bool.and_eq_true, Bool.or_eq_true, Bool.not_eq_true'] at hv;obtain ⟨hv0, hv⟩ := hv;have hq : qOp P ops (fun w => ∃ i, w = F i) n (wpQuiet P ops (fun w => ∃ i, w = F i) (fun a' => K a' w0) l) a := by unfold qOp; simp only [ho]; exact h
   obtain ⟨v, hy, hk⟩ := yieldsIn_of_qOp ho hq;refine ⟨o, v, ho, ?_, ih l _ hl hv hk⟩;rcases hy with ⟨hw, hy⟩ | hy
   ·refine .inl ⟨hw, fun w hS => ?_⟩
    have h1 := hy w hS;have hvo : valueOp o = true := by simpa using hv0
    unfold Oper.quietAt at h1;generalize hr : (execOp a.eval o).run P w = r at h1;cases r with
    | ok n w' =>
     obtain ⟨u, rfl⟩ := value_run hvo hr;obtain ⟨rfl, rfl⟩ := h1;exact ⟨rfl, rfl⟩
    | halt x w' => exact h1.elim
   ·exact .inr hy
theorem headK {I : Type} {F : I → World} {w0 : World} {K : Act → World → Prop} {l : List Oper} {a : Act} (c : List Nat) (hB : okB l (c.map fun i => (true, i)) = true)
  (h : wpQuiet P l.toArray (fun w => ∃ i, w = F i) (fun a' => K a' w0) (sel l (c.map fun i => (true, i))) a) : walkK P l.toArray (fun w => ∃ i, w = F i) K c a w0 :=
 walkK_quiet w0 c _ a (fits_sel hB).1 (fits_sel hB).2 h
end
theorem fam_of (w : World) (Q : World → Prop) (h : Q w.drew) : ∃ (I : Type) (F : I → World) (i0 : I), w.drew = F i0 ∧ (∀ i, Q (F i)) ∧ ∀ u : World, Q u → ∃ j, u = F j :=
 ⟨{ u : World // Q u }, fun i => i.1, ⟨w.drew, h⟩, rfl, fun i => i.2, fun u h => ⟨⟨u, h⟩, rfl⟩⟩
end Pl
namespace Dr
open Ch Lk St Ln
end Dr
namespace Sh
open Fo Ln Pc
structure Bx (w u : World) (T : Nat) (J FO : Obj) : Prop where
 bel : Below T w u
 job : u.heap[T]? = some J
 flt : u.heap[T + 1]? = some FO
theorem Bx.mod {w u u' : World} {T : Nat} {J FO : Obj} {S : Nat → Prop} (h : Bx w u T J FO) (hm : Mod S u u') (hS : ∀ k, S k → T + 2 ≤ k) : Bx w u' T J FO := by
 have l1 := heap_lt h.flt;exact ⟨hm.below h.bel (fun i hi => by have := hS i hi; omega) (by omega), hm.heap h.job (fun hs => by have := hS _ hs; omega), hm.heap h.flt (fun hs => by have := hS _ hs; omega)⟩
theorem Bx.on {w u u' : World} {T : Nat} {J FO : Obj} (h : Bx w u T J FO) (hb : Below u.heap.size u u') : Bx w u' T J FO := h.mod (S := fun _ => False) (Mod.of_below hb) (fun _ h => h.elim)
theorem Bx.old {w u : World} {T : Nat} {J FO o : Obj} {b : Nat} (h : Bx w u T J FO) (hT : w.heap.size = T) (hb : w.heap[b]? = some o) : u.heap[b]? = some o := (h.bel.block b (by have := heap_lt hb; omega)).trans hb
theorem Bx.lt {w u : World} {T : Nat} {J FO : Obj} (h : Bx w u T J FO) : T + 2 ≤ u.heap.size := heap_lt h.flt
theorem infoOut : (Tryz.prog.info? 82).map (fun i => (i.zero, i.size, i.bytes)) = some (some (.agg #[.int .i64 0, .int .i64 0, .int .i32 0, .int .i32 0, .int .i32 0]), 5, 32) := by kernel_rfl
def outC (o : Gl × Pl) : List Value := [.int .i64 o.1.1, .int .i64 o.1.2, .int .i32 o.2.a, .int .i32 o.2.x, .int .i32 o.2.y]
def alongN (t : Int) (i : Nat) (ps : List Pl) : List Pl := (List.range i).foldl (fun q (k : Nat) => along q (k : Int) t) ps
theorem alongN_succ (t : Int) (i : Nat) (ps : List Pl) : alongN t (i + 1) ps = along (alongN t i ps) (i : Int) t := by
 unfold alongN; rw [List.range_succ, List.foldl_append]; rfl
theorem alongN_len (t : Int) (i : Nat) (ps : List Pl) : (alongN t i ps).length = ps.length := by
 induction i with
 | zero => rfl
 | succ i ih => rw [alongN_succ]; unfold along; rw [upd_len, ih]
theorem place_cells {w : World} {base n : Nat} {sv : Value} {ps : List Pl} (h : w.ownsRow base 80 3 sv n (ps.flatMap plC)) {k : Nat} {p : Pl} (hx : ps[k]? = some p) :
  ∃ bo cp, sv = .slice (some ⟨bo, 0, none⟩) n cp ∧ bo < w.heap.size ∧ w.cell? ⟨bo, k * 3, none⟩ = some (.int .i32 p.a) ∧ w.cell? ⟨bo, k * 3 + 1, none⟩ = some (.int .i32 p.x) ∧ w.cell? ⟨bo, k * 3 + 2, none⟩ = some (.int .i32 p.y) := by
 have hL := Row.leads_elem plC_len (Row.leads_owned h) hx (by omega)
 obtain ⟨hlen, ⟨h2, h3⟩ | ⟨bo, cap, cur, hv, hb, hh, hc, hm, hs, ht⟩⟩ := h
 ·have h4 := plC_flat ps;rw [h3] at hlen;have := (List.getElem?_eq_some_iff.1 hx).1;omega
 ·obtain ⟨b2, o2, c2, hv2, hcell⟩ := hL;rw [hv] at hv2;cases hv2;exact ⟨bo, cap, hv, heap_lt hh, by simpa using hcell 0 _ rfl, by simpa using hcell 1 _ rfl, by simpa using hcell 2 _ rfl⟩
abbrev jobO (s1 : Option Addr) (s2 s3 : Nat) (d z : Int) (a : Option Addr) (n cap : Nat) : Obj := .cells #[.slice s1 s2 s3, .int .i64 d, .int .i32 z, .slice a n cap] 26
abbrev fltO : Obj := .cells #[.int .i64 0, .int .i64 0, .int .i64 0] 74
abbrev zeroV : Value := .agg #[.int .i64 0, .int .i64 0, .int .i64 0]
theorem lnTo_keep {u u' : World} {B lg Tb : Nat} {lsv : Value} {xs : List Gl} (hL : LineAt u B lg lsv xs) (hT : u.heap[Tb]? = some fltO) (hm : Mod (Ln.blk lg lsv) u u') : u'.heap[Tb]? = some fltO :=
 hm.heap hT (fun h => by
  rcases h with rfl | h
  ·rw [hL.head] at hT; cases hT
  ·exact own_ty hL.own hT (by decide) h)
theorem both_keep {u u' : World} {B lg B2 pg Tb : Nat} {dn : Bool} {lsv psv : Value} {xs : List Gl} {ps : List Pl} (hL : LineAt u B lg lsv xs) (hP : PlsAt u B2 pg dn psv ps) (hT : u.heap[Tb]? = some fltO) (hm : Mod (fun k => Ln.blk lg lsv k ∨ Pc.blk pg psv k) u u') : u'.heap[Tb]? = some fltO :=
 hm.heap hT (fun h => by
  rcases h with (rfl | h) | (rfl | h)
  ·rw [hL.head] at hT; cases hT
  ·exact own_ty hL.own hT (by decide) h
  ·rw [hP.head] at hT; cases hT
  ·exact own_ty hP.own hT (by decide) h)
theorem line_one {u u' : World} {B lg Tb : Nat} {lsv : Value} {xs : List Gl} (hL : LineAt u B lg lsv xs) (hT : u.heap[Tb]? = some fltO) (hm : Mod (fun k => k = Tb) u u') : LineAt u' B lg lsv xs :=
 hL.mod hm (fun k hk e => by
  subst e;rcases hk with rfl | h
  ·rw [hL.head] at hT; cases hT
  ·exact own_ty hL.own hT (by decide) h)
theorem pls_one {u u' : World} {B pg Tb : Nat} {dn : Bool} {psv : Value} {ps : List Pl} (hL : PlsAt u B pg dn psv ps) (hT : u.heap[Tb]? = some fltO) (hm : Mod (fun k => k = Tb) u u') : PlsAt u' B pg dn psv ps :=
 hL.mod hm (fun k hk e => by
  subst e;rcases hk with rfl | h
  ·rw [hL.head] at hT; cases hT
  ·exact own_ty hL.own hT (by decide) h)
theorem flt_set {u : World} {Tb : Nat} (hT : u.heap[Tb]? = some fltO) : ((((u.setCell ⟨Tb, 0, none⟩ (.int .i64 0)).setCell ⟨Tb, 1, none⟩ (.int .i64 0)).setCell ⟨Tb, 2, none⟩ (.int .i64 0)).heap[Tb]? = some fltO) ∧ Mod (fun k => k = Tb) u (((u.setCell ⟨Tb, 0, none⟩ (.int .i64 0)).setCell ⟨Tb, 1, none⟩ (.int .i64 0)).setCell ⟨Tb, 2, none⟩ (.int .i64 0)) := by
 have h1 := heap_set (i := 0) hT (.int .i64 0);have h2 := heap_set (i := 1) h1 (.int .i64 0);have h3 := heap_set (i := 2) h2 (.int .i64 0);exact ⟨h3, (((Mod.refl (fun k => k = Tb) u).set _ (.inl rfl)).set _ (.inl rfl)).set _ (.inl rfl)⟩
set_option maxRecDepth 100000 in
set_option maxHeartbeats 16000000 in
theorem shape_ok (gf gw : Nat) (fv vm vk va vt : Value) (baseW g m : Nat) (dd : List Int) (s1 : Option Addr) (s2 s3 : Nat) (d z : Int) (a : Option Addr) (n cap : Nat) (ids : List Int) (ys : List Gl) (ps1 : List Pl) (t : Int) (dn : Bool) (SetP : Value → World → Prop) (w : World)
  (hf : w.heap[gf]? = some (.cells #[.pointer (some ⟨gw, 0, none⟩), fv, vm, vk, va, vt] 204 (0, 0))) (hw : IsW w baseW gw g m dd) (hd : dd.length = 4 * m + 2 * (g - m)) (hm1 : 1 ≤ m) (hmg : m ≤ g) (hgb : g ≤ 65535)
  (hl : Row.Leads w (.slice a n cap) n (ids.map (Value.int .i64))) (hn : ids.length = n) (hck : checkN d ids = 0) (hn2 : n ≤ 65536) (hdn : (d == 2) = dn) (hys : ys.length ≤ 4000000) (hps : ps1.length = ys.length)
  (hSB : ∀ sv u u', SetP sv u → Below u.heap.size u u' → SetP sv u')
  (hS : ∀ u, Below w.heap.size w u → Calls Tryz.prog 69 #[.slice s1 s2 s3, fv] u fun e u' => ∃ sv, e = .returned sv ∧ SetP sv u' ∧ Below u.heap.size u u')
  (hM : ∀ u B lg lsv stv, Below w.heap.size w u → w.heap.size ≤ B → LineAt u B lg lsv (lnNew ids) → SetP stv u → Calls Tryz.prog 70 #[vm, .pointer (some ⟨lg, 0, none⟩), stv, .int .i64 d, .int .i64 (32 * (n : Int) + 1024)] u fun e u' => e = .returned zeroV ∧ LnTo u B lg lsv ys u')
  (hK : ∀ u B lg lsv B2 pg psv, Below w.heap.size w u → w.heap.size ≤ B → w.heap.size ≤ B2 → LineAt u B lg lsv ys → PlsAt u B2 pg dn psv (plNew (advsOf g m dd dn ys)) → Calls Tryz.prog 73 #[vk, .pointer (some ⟨lg, 0, none⟩), .pointer (some ⟨pg, 0, none⟩), .int .i64 d, va] u fun e u' => e = .returned zeroV ∧ LineAt u' B lg lsv ys ∧ PlsAt u' B2 pg dn psv ps1 ∧ Mod (fun k => Ln.blk lg lsv k ∨ Pc.blk pg psv k) u u')
  (hT : ∀ u, Below w.heap.size w u → Calls Tryz.prog 74 #[vt, .int .i64 d, .int .i32 z] u fun e u' => e = .returned (.int .i64 t) ∧ Below u.heap.size u u') :
  Calls Tryz.prog 29 #[.pointer (some ⟨gf, 0, none⟩), .agg #[.slice s1 s2 s3, .int .i64 d, .int .i32 z, .slice a n cap]] w fun e w' => ∃ v, e = .returned (.tuple #[v, zeroV]) ∧ Below w.heap.size w w' ∧ w'.ownsRow w.heap.size 82 5 v ys.length ((ys.zip (alongN t ys.length ps1)).flatMap outC) := by
 obtain ⟨T, hT0⟩ : ∃ T, w.heap.size = T := ⟨_, rfl⟩;have hbx : Bx w ((w.alloc (jobO s1 s2 s3 d z a n cap)).alloc fltO) T (jobO s1 s2 s3 d z a n cap) fltO := by
  have hb1 := ((Below.refl w.heap.size w).alloc (Nat.le_refl _) (jobO s1 s2 s3 d z a n cap));have hb2 := hb1.alloc hb1.size fltO;refine ⟨hT0 ▸ hb2, ?_, ?_⟩
  ·rw [← hT0];exact (Below.heap_alloc _ _ _ (by rw [World.size_alloc]; omega)).trans (Bas.heap_new _ _)
  ·rw [← hT0, ← World.size_alloc w (jobO s1 s2 s3 d z a n cap)];exact Bas.heap_new _ _
 have HT0 := Bas.hid hT0;rw [hT0] at hS hM hK hT ⊢;obtain ⟨N, hN⟩ : ∃ N, ys.length = N := ⟨_, rfl⟩;have HNY := Bas.hid hN;have HNP : Hid (ps1.length = N) := hps.trans hN;rw [hN] at hys ⊢;obtain ⟨qs, hqs⟩ : ∃ qs, alongN t N ps1 = qs := ⟨_, rfl⟩;have HQL : Hid (qs.length = N) := by unfold Hid; rw [← hqs, alongN_len]; exact HNP.out
 have HQS := Bas.hid hqs;rw [hqs];have HF := Bas.hid hf;have HW := Bas.hid hw;have HDD := Bas.hid hd;have HL := Bas.hid hl;have HN := Bas.hid hn;have HCK := Bas.hid hck;have HDN := Bas.hid hdn;have HSB := Bas.hid hSB;have HS := Bas.hid hS;have HM := Bas.hid hM;have HK := Bas.hid hK;have HTV := Bas.hid hT;have HBX := Bas.hid hbx;have lf : gf < T := by rw [← hT0]; exact heap_lt hf
 clear hf hw hd hl hn hck hdn hSB hS hM hK hT hbx hT0 hps hN hqs;go_enter Tryz.func29, Tryz.ntmps29
 go_wp2_with (fail);rw [HT0.out];generalize (w.alloc (jobO s1 s2 s3 d z a n cap)).alloc fltO = W2 at *;have j0 := cell_of_heap (i := 0) (v := .slice s1 s2 s3) HBX.out.job rfl;have j1 := cell_of_heap (i := 1) (v := .int .i64 d) HBX.out.job rfl;have j2 := cell_of_heap (i := 2) (v := .int .i32 z) HBX.out.job rfl;have j3 := cell_of_heap (i := 3) (v := .slice a n cap) HBX.out.job rfl;have lT := heap_lt HBX.out.job;have HCH := Bas.hid (check_any s1 s2 s3 d z a n cap ids W2 (Row.leads_below HL.out (by rw [HT0.out]; exact HBX.out.bel)) HN.out)
 rw [HCK.out] at HCH;go_wp2_with (fail);refine HCH.out.mono ?_;rintro e w3 ⟨rfl, hb3⟩;have HB3 := Bas.hid (HBX.out.on hb3);clear hb3 j0 j1 j2 j3 lT HCH HBX;have j3 := cell_of_heap (i := 3) (v := .slice a n cap) HB3.out.job rfl;have lT := heap_lt HB3.out.job;have HLN := Bas.hid (new_any (.slice a n cap) ids n w3 (Row.leads_below HL.out (by rw [HT0.out]; exact HB3.out.bel)) HN.out (by omega))
 go_wp2_with (fail);refine HLN.out.mono ?_;rintro e w4 ⟨rfl, hb4, lsv, hL4⟩;have HLA4 := Bas.hid hL4;have HB4 := Bas.hid (HB3.out.on hb4);have hLB := HB3.out.lt;generalize w3.heap.size = LB at *;clear hb4 hL4 j3 lT HB3 HLN;have j0 := cell_of_heap (i := 0) (v := .slice s1 s2 s3) HB4.out.job rfl;have lT := heap_lt HB4.out.job;have kf4 := HB4.out.old HT0.out HF.out;have f1 := cell_of_heap (i := 1) (v := fv) kf4 rfl;have lf4 := heap_lt kf4;clear kf4;go_wp2_with (fail);refine' Pl.region_v0 119 [] [0, 1, 2, 3, 4, 5] [6, 7] _ (by kernel_rfl) (by kernel_rfl) (by simp) (fun _ _ _ _ e h => ⟨e ▸ h.1, h.2⟩) ?_ ?_
 rotate_left
 ·intro I F hI hF;simp only [Pl.selN, List.nil_append, List.drop_succ_cons, List.drop_zero];have t0 := fun i => hF.cell lT j0 i
  have t1 := fun i => hF.cell lf4 f1 i
  repeat (go_big_quiet_step (fail))
  refine wpQuiet_nil ?_;rfl
 intro w5 hw5;simp only [Pl.selN, List.drop_succ_cons, List.drop_zero];have HB5 := Bas.hid (HB4.out.on hw5);have HLA5 := Bas.hid (HLA4.out.below hw5);clear hw5 HB4 HLA4 j0 lT f1 lf4;go_wp2_with (fail);refine (HS.out w5 HB5.out.bel).mono ?_;rintro e w6 ⟨stv, rfl, hsp, hb6⟩;have HB6 := Bas.hid (HB5.out.on hb6);have HLA6 := Bas.hid (HLA5.out.below hb6);have HSP := Bas.hid hsp;clear hb6 HB5 HLA5 hsp;go_wp2_with (fail);obtain ⟨RI, RF, Ri, RF0, RFk, RFw⟩ := Pl.fam_of w6 (fun u => u.heap[T]? = some (jobO s1 s2 s3 d z a n cap) ∧ u.heap[gf]? = some (.cells #[.pointer (some ⟨gw, 0, none⟩), fv, vm, vk, va, vt] 204 (0, 0))) ⟨HB6.out.job, HB6.out.old HT0.out HF.out⟩
 have RFH := Bas.hid RF0;have RhI : Nonempty RI := ⟨Ri⟩;have RFW := Bas.hid RFw;have t1 := fun i => cell_of_heap (i := 1) (v := .int .i64 d) (RFk i).1 rfl
 have t3 := fun i => cell_of_heap (i := 3) (v := .slice a n cap) (RFk i).1 rfl
 have t2 := fun i => cell_of_heap (i := 2) (v := vm) (RFk i).2 rfl
 clear RF0 RFw RFk;refine Pl.region_choice Ri [0, 1, 2, 3, 4, 5, 6, 7, 8, 9, 10, 11, 12] 13 14 [(false, 15)] (by kernel_rfl) (by kernel_rfl) (fun _ _ _ _ e h => ⟨e ▸ h.1, h.2⟩) RFH.out ?_
 refine Pl.headK [0, 1, 2, 3, 4, 5, 6, 7, 8, 9, 10, 11, 12] (by kernel_rfl) ?_
 simp only [Pl.sel, List.drop_succ_cons, List.drop_zero, List.map_cons, List.map_nil];repeat (go_big_quiet_step (fail))
 refine wpQuiet_nil ?_;rw [← RFH.out];clear t1 t2 t3;refine ⟨?ord1, ?ord2⟩
 case' ord1 =>
  refine Pl.one_sel (by kernel_rfl) ?_
  intro Q' hQ' hP';simp only [Pl.sel, List.drop_succ_cons, List.drop_zero];go_wp2_with (fail);have hbd := Bas.below_drewN (Below.refl w6.heap.size w6) 1;have HB7 := Bas.hid (HB6.out.on hbd);have HLA7 := Bas.hid (HLA6.out.below hbd);have HM7 := Bas.hid (HM.out _ LB LB lsv stv HB7.out.bel (by omega) HLA7.out (HSB.out _ _ _ HSP.out hbd))
  clear hbd HLA6 HB6 HSP;refine HM7.out.mono ?_;rintro e w8 ⟨rfl, lsv8, hL8, hm8, hq8⟩;have HB8 := Bas.hid (HB7.out.mod hm8 (fun k hk => Nat.le_trans hLB (HLA7.out.blk_low k hk).1))
  have hb9 := (Below.refl w8.heap.size w8).alloc (Nat.le_refl _) fltO;have HX := Bas.hid (HB8.out.on hb9);have HLA := Bas.hid (hL8.below hb9);have HKF : Hid ((w8.alloc fltO).heap[w8.heap.size]? = some fltO ∧ T + 2 ≤ w8.heap.size) := ⟨Bas.heap_new _ _, HB8.out.lt⟩;clear hL8 hm8 hq8 HM7 HLA7 HB7 hb9;go_wp2_with (fail);refine hQ' _ _ (fun _ _ => RFW.out _ ⟨HB8.out.job, HB8.out.old HT0.out HF.out⟩) ?_
  clear hQ' hP' Q';refine Pl.one_sel (by kernel_rfl) ?_
  intro Q' hQ' hP';simp only [Pl.sel, List.drop_succ_cons, List.drop_zero];go_wp2_with (fail);refine hQ' _ _ (fun _ _ => RFW.out _ ⟨HX.out.job, HX.out.old HT0.out HF.out⟩) ?_
  clear hQ' hP' Q' HB8;generalize w8.alloc fltO = W at *;generalize w8.heap.size = Tb at *
 case' ord2 =>
  have hb9 := ((Below.refl w6.heap.size w6).alloc (Nat.le_refl _) fltO).drew;have HB7 := Bas.hid (HB6.out.on hb9);have HLA7 := Bas.hid (HLA6.out.below hb9);have HM7 := Bas.hid (HM.out _ LB LB lsv stv HB7.out.bel (by omega) HLA7.out (HSB.out _ _ _ HSP.out hb9))
  have HK7 : Hid ((w6.alloc fltO).drew.heap[w6.heap.size]? = some fltO ∧ T + 2 ≤ w6.heap.size) := ⟨Bas.heap_new _ _, HB6.out.lt⟩;clear hb9 HLA6 HB6 HSP;refine Pl.one_sel (by kernel_rfl) ?_
  intro Q' hQ' hP';simp only [Pl.sel, List.drop_succ_cons, List.drop_zero];go_wp2_with (fail);refine hQ' _ _ (fun _ _ => RFW.out _ ⟨HB7.out.job, HB7.out.old HT0.out HF.out⟩) ?_
  clear hQ' hP' Q';refine Pl.one_sel (by kernel_rfl) ?_
  intro Q' hQ' hP';simp only [Pl.sel, List.drop_succ_cons, List.drop_zero];generalize (w6.alloc fltO).drew = W7 at *;generalize w6.heap.size = Tb at *;go_wp2_with (fail);refine HM7.out.mono ?_;rintro e W ⟨rfl, lsv8, hL8, hm8, hq8⟩;have HX := Bas.hid (HB7.out.mod hm8 (fun k hk => Nat.le_trans hLB (HLA7.out.blk_low k hk).1))
  have HLA := Bas.hid hL8;have HKF : Hid (W.heap[Tb]? = some fltO ∧ T + 2 ≤ Tb) := ⟨lnTo_keep HLA7.out HK7.out.1 hm8, HK7.out.2⟩;clear hL8 hm8 hq8 HM7 HLA7 HB7 HK7;go_wp2_with (fail);refine hQ' _ _ (fun _ _ => RFW.out _ ⟨HX.out.job, HX.out.old HT0.out HF.out⟩) ?_
  clear hQ' hP' Q'
 all_goals
  refine Pl.one_sel (by kernel_rfl) ?_
  intro Q' hQ' hP';simp only [Pl.sel, List.drop_succ_cons, List.drop_zero];have z0 := cell_of_heap (i := 0) (v := .int .i64 0) HKF.out.1 rfl;have z1 := cell_of_heap (i := 1) (v := .int .i64 0) HKF.out.1 rfl;have z2 := cell_of_heap (i := 2) (v := .int .i64 0) HKF.out.1 rfl;have y0 := free_of_heap (i := 0) HKF.out.1;have y1 := free_of_heap (i := 1) HKF.out.1;have y2 := free_of_heap (i := 2) HKF.out.1;have lb := heap_lt HKF.out.1;go_wp2_with (fail);have hfs := flt_set HKF.out.1;have HX10 := Bas.hid (HX.out.mod hfs.2 (fun k hk => by subst hk; exact HKF.out.2))
  have HLA10 := Bas.hid (line_one HLA.out HKF.out.1 hfs.2);have hk10 := hfs.1;clear hfs z0 z1 z2 y0 y1 y2 lb HX HLA;generalize ((W.setCell ⟨Tb, 0, none⟩ (.int .i64 0)).setCell ⟨Tb, 1, none⟩ (.int .i64 0)).setCell ⟨Tb, 2, none⟩ (.int .i64 0) = W10 at *;refine hQ' _ _ (fun _ _ => RFW.out _ ⟨HX10.out.job, HX10.out.old HT0.out HF.out⟩) ?_
  clear hQ' hP' Q' RFW RFH RhI Ri HKF;simp only [Pl.walkM];have c0 := cell_of_heap (i := 0) (v := .int .i64 0) hk10 rfl;have lb := heap_lt hk10;clear hk10;go_wp2_with (fail);clear c0 lb;have j1 := cell_of_heap (i := 1) (v := .int .i64 d) HX10.out.job rfl;have lT := heap_lt HX10.out.job;refine' Pl.region_v1 119 [] [0, 1, 2, 3, 4, 5] 6 58 [7, 8] _ (fun v u => u.ownsRow W10.heap.size 3 1 v ys.length ((advsOf g m dd dn ys).map (Value.int .i64))) (by kernel_rfl) (by kernel_rfl) (by simp) (fun _ _ _ _ e h => ⟨e ▸ h.1, h.2⟩) ?_ ?_ ?_ ?_
  rotate_left
  ·intro I F hI hF;simp only [Pl.selN, List.nil_append, List.drop_succ_cons, List.drop_zero];have t0 := fun i => hF.cell lT j1 i
   repeat (go_big_quiet_step (fail))
   refine wpQuiet_nil ?_;rfl
  ·exact fun _ _ _ h _ hu' => Row.owned_below h hu'
  ·simp only [Pl.selN, List.drop_succ_cons, List.drop_zero, List.mem_singleton, forall_eq];intro u hu
   go_simp
   simp only [Pl.valsAt];have HU := HX10.out.on hu;refine (advances_any gf gw fv vm vk va vt baseW g m dd d dn LB LB lsv8 ys u (HU.old HT0.out HF.out) (isW_below HW.out (HT0.out ▸ HU.bel)) HDD.out hm1 hmg hgb HDN.out (HLA10.out.below hu) (by rw [HNY.out]; exact hys)).mono ?_
   rintro e w'' ⟨hb, v', rfl, ho⟩;exact .inl ⟨_, rfl, hb, Row.owned_base ho hu.size⟩
  intro v u hu hv;simp only [Pl.selN, List.drop_succ_cons, List.drop_zero, Act.put, List.setIfInBounds_toArray, List.set_cons_zero, List.set_cons_succ];have HX11 := Bas.hid (HX10.out.on hu);have HLA11 := Bas.hid (HLA10.out.below hu);have HNW := Bas.hid (new_any d dn v (advsOf g m dd dn ys) ys.length u HDN.out (Row.leads_owned hv) (by simp [advsOf]) (by rw [HNY.out]; omega))
  clear hu hv HX10 HLA10 j1 lT;go_wp2_with (fail);refine HNW.out.mono ?_;rintro e w12 ⟨rfl, hb12, psv, hP12⟩;have HX12 := Bas.hid (HX11.out.on hb12);have HLA12 := Bas.hid (HLA11.out.below hb12);have HPA12 := Bas.hid hP12;have hLP := HX11.out.lt;have HNB : Hid (∀ k, Pc.blk u.heap.size psv k → ¬ Ln.blk LB lsv8 k) := fun k hk hl => by
   have h1 := (hP12.blk_low k hk).1;have h2 := (HLA11.out.blk_low k hl).2;omega
  generalize u.heap.size = PB at *;clear hb12 hP12 HX11 HLA11 HNW;go_wp2_with (fail);obtain ⟨RI, RF, Ri, RF0, RFk, RFw⟩ := Pl.fam_of w12 (fun u => u.heap[T]? = some (jobO s1 s2 s3 d z a n cap) ∧ u.heap[gf]? = some (.cells #[.pointer (some ⟨gw, 0, none⟩), fv, vm, vk, va, vt] 204 (0, 0))) ⟨HX12.out.job, HX12.out.old HT0.out HF.out⟩
  have RFH := Bas.hid RF0;have RhI : Nonempty RI := ⟨Ri⟩;have RFW := Bas.hid RFw;have t1 := fun i => cell_of_heap (i := 1) (v := .int .i64 d) (RFk i).1 rfl
  have t2 := fun i => cell_of_heap (i := 3) (v := vk) (RFk i).2 rfl
  have t3 := fun i => cell_of_heap (i := 4) (v := va) (RFk i).2 rfl
  clear RF0 RFw RFk;refine Pl.region_choice Ri [0, 1, 2, 3, 4, 5, 6, 7, 8, 9, 10, 11] 12 13 [(false, 14)] (by kernel_rfl) (by kernel_rfl) (fun _ _ _ _ e h => ⟨e ▸ h.1, h.2⟩) RFH.out ?_
  refine Pl.headK [0, 1, 2, 3, 4, 5, 6, 7, 8, 9, 10, 11] (by kernel_rfl) ?_
  simp only [Pl.sel, List.drop_succ_cons, List.drop_zero, List.map_cons, List.map_nil];repeat (go_big_quiet_step (fail))
  refine wpQuiet_nil ?_;rw [← RFH.out];clear t1 t2 t3;apply And.intro
  case' left =>
   refine Pl.one_sel (by kernel_rfl) ?_
   intro Q' hQ' hP';simp only [Pl.sel, List.drop_succ_cons, List.drop_zero];go_wp2_with (fail);have hbd := Bas.below_drewN (Below.refl w12.heap.size w12) 1;have HB13 := Bas.hid (HX12.out.on hbd);have HL13 := Bas.hid (HLA12.out.below hbd);have HP13 := Bas.hid (HPA12.out.below hbd);have HK13 := Bas.hid (HK.out _ LB LB lsv8 PB PB psv HB13.out.bel (by omega) (by omega) HL13.out HP13.out)
   clear hbd HLA12 HPA12 HX12;refine HK13.out.mono ?_;rintro e w14 ⟨rfl, hL14, hP14, hm14⟩;have HB14 := Bas.hid (HB13.out.mod hm14 (fun k hk => by
    rcases hk with hk | hk
    ·exact Nat.le_trans hLB (HL13.out.blk_low k hk).1
    ·exact Nat.le_trans hLP (HP13.out.blk_low k hk).1))
   have hb9 := (Below.refl w14.heap.size w14).alloc (Nat.le_refl _) fltO;have HX := Bas.hid (HB14.out.on hb9);have HLA := Bas.hid (hL14.below hb9);have HPA := Bas.hid (hP14.below hb9);have HKF : Hid ((w14.alloc fltO).heap[w14.heap.size]? = some fltO ∧ T + 2 ≤ w14.heap.size) := ⟨Bas.heap_new _ _, HB14.out.lt⟩;clear hL14 hP14 hm14 HK13 HL13 HP13 HB13 hb9;go_wp2_with (fail);refine hQ' _ _ (fun _ _ => RFW.out _ ⟨HB14.out.job, HB14.out.old HT0.out HF.out⟩) ?_
   clear hQ' hP' Q';refine Pl.one_sel (by kernel_rfl) ?_
   intro Q' hQ' hP';simp only [Pl.sel, List.drop_succ_cons, List.drop_zero];go_wp2_with (fail);refine hQ' _ _ (fun _ _ => RFW.out _ ⟨HX.out.job, HX.out.old HT0.out HF.out⟩) ?_
   clear hQ' hP' Q' HB14;generalize w14.alloc fltO = V at *;generalize w14.heap.size = Ub at *
  case' right =>
   have hb9 := ((Below.refl w12.heap.size w12).alloc (Nat.le_refl _) fltO).drew;have HB13 := Bas.hid (HX12.out.on hb9);have HL13 := Bas.hid (HLA12.out.below hb9);have HP13 := Bas.hid (HPA12.out.below hb9);have HK13 := Bas.hid (HK.out _ LB LB lsv8 PB PB psv HB13.out.bel (by omega) (by omega) HL13.out HP13.out)
   have HK7 : Hid ((w12.alloc fltO).drew.heap[w12.heap.size]? = some fltO ∧ T + 2 ≤ w12.heap.size) := ⟨Bas.heap_new _ _, HX12.out.lt⟩;clear hb9 HLA12 HPA12 HX12;refine Pl.one_sel (by kernel_rfl) ?_
   intro Q' hQ' hP';simp only [Pl.sel, List.drop_succ_cons, List.drop_zero];go_wp2_with (fail);refine hQ' _ _ (fun _ _ => RFW.out _ ⟨HB13.out.job, HB13.out.old HT0.out HF.out⟩) ?_
   clear hQ' hP' Q';refine Pl.one_sel (by kernel_rfl) ?_
   intro Q' hQ' hP';simp only [Pl.sel, List.drop_succ_cons, List.drop_zero];generalize (w12.alloc fltO).drew = W13 at *;generalize w12.heap.size = Ub at *;go_wp2_with (fail);refine HK13.out.mono ?_;rintro e V ⟨rfl, hL14, hP14, hm14⟩;have HX := Bas.hid (HB13.out.mod hm14 (fun k hk => by
    rcases hk with hk | hk
    ·exact Nat.le_trans hLB (HL13.out.blk_low k hk).1
    ·exact Nat.le_trans hLP (HP13.out.blk_low k hk).1))
   have HLA := Bas.hid hL14;have HPA := Bas.hid hP14;have HKF : Hid (V.heap[Ub]? = some fltO ∧ T + 2 ≤ Ub) := ⟨both_keep HL13.out HP13.out HK7.out.1 hm14, HK7.out.2⟩;clear hL14 hP14 hm14 HK13 HL13 HP13 HB13 HK7;go_wp2_with (fail);refine hQ' _ _ (fun _ _ => RFW.out _ ⟨HX.out.job, HX.out.old HT0.out HF.out⟩) ?_
   clear hQ' hP' Q'
  all_goals
   refine Pl.one_sel (by kernel_rfl) ?_
   intro Q' hQ' hP';simp only [Pl.sel, List.drop_succ_cons, List.drop_zero];have z0 := cell_of_heap (i := 0) (v := .int .i64 0) HKF.out.1 rfl;have z1 := cell_of_heap (i := 1) (v := .int .i64 0) HKF.out.1 rfl;have z2 := cell_of_heap (i := 2) (v := .int .i64 0) HKF.out.1 rfl;have y0 := free_of_heap (i := 0) HKF.out.1;have y1 := free_of_heap (i := 1) HKF.out.1;have y2 := free_of_heap (i := 2) HKF.out.1;have lb := heap_lt HKF.out.1;go_wp2_with (fail);have hfs := flt_set HKF.out.1;have HX15 := Bas.hid (HX.out.mod hfs.2 (fun k hk => by subst hk; exact HKF.out.2))
   have HLA15 := Bas.hid (line_one HLA.out HKF.out.1 hfs.2);have HPA15 := Bas.hid (pls_one HPA.out HKF.out.1 hfs.2);have hk15 := hfs.1;clear hfs z0 z1 z2 y0 y1 y2 lb HX HLA HPA;generalize ((V.setCell ⟨Ub, 0, none⟩ (.int .i64 0)).setCell ⟨Ub, 1, none⟩ (.int .i64 0)).setCell ⟨Ub, 2, none⟩ (.int .i64 0) = W15 at *;refine hQ' _ _ (fun _ _ => RFW.out _ ⟨HX15.out.job, HX15.out.old HT0.out HF.out⟩) ?_
   clear hQ' hP' Q' RFW RFH RhI Ri HKF;simp only [Pl.walkM];have c0 := cell_of_heap (i := 0) (v := .int .i64 0) hk15 rfl;have lb := heap_lt hk15;clear hk15;go_wp2_with (fail);clear c0 lb;have j1 := cell_of_heap (i := 1) (v := .int .i64 d) HX15.out.job rfl;have j2 := cell_of_heap (i := 2) (v := .int .i32 z) HX15.out.job rfl;have lT := heap_lt HX15.out.job;have kf4 := HX15.out.old HT0.out HF.out;have f5 := cell_of_heap (i := 5) (v := vt) kf4 rfl;have lf4 := heap_lt kf4;clear kf4;refine' Pl.region_v0 119 [] [0, 1, 2, 3, 4, 5, 6, 7] [8, 9] _ (by kernel_rfl) (by kernel_rfl) (by simp) (fun _ _ _ _ e h => ⟨e ▸ h.1, h.2⟩) ?_ ?_
   rotate_left
   ·intro I F hI hF;simp only [Pl.selN, List.nil_append, List.drop_succ_cons, List.drop_zero];have t0 := fun i => hF.cell lT j1 i
    have t1 := fun i => hF.cell lT j2 i
    have t2 := fun i => hF.cell lf4 f5 i
    repeat (go_big_quiet_step (fail))
    refine wpQuiet_nil ?_;rfl
   intro w16 hw16;simp only [Pl.selN, List.drop_succ_cons, List.drop_zero];have HX16 := Bas.hid (HX15.out.on hw16);have HLA16 := Bas.hid (HLA15.out.below hw16);have HPA16 := Bas.hid (HPA15.out.below hw16);clear hw16 HX15 HLA15 HPA15 j1 j2 lT f5 lf4;go_wp2_with (fail);refine (HTV.out w16 HX16.out.bel).mono ?_;rintro e w17 ⟨rfl, hb17⟩;have HX17 := Bas.hid (HX16.out.on hb17);have HLA17 := Bas.hid (HLA16.out.below hb17);have HPA17 := Bas.hid (HPA16.out.below hb17);have HLE := Bas.hid (len_any w17 HPA17.out);rw [HNP.out] at HLE;clear hb17 HX16 HLA16 HPA16;go_wp2_with (fail);refine HLE.out.mono ?_;rintro e w18 ⟨rfl, rfl⟩;clear HLE;go_wp2_with (fail);obtain ⟨wo, hwo⟩ : ∃ wo : World, wo = w17 := ⟨_, rfl⟩;rw [← hwo] at HX17 HLA17 HPA17;rw [← hwo];clear hwo;go_loopw [89] (fun vi wr => ∃ i : Nat, i ≤ N ∧ vi = .int .i64 i ∧ PlsAt wr PB PB dn psv (alongN t i ps1) ∧ Bx w wr T (jobO s1 s2 s3 d z a n cap) fltO ∧ LineAt wr LB LB lsv8 ys) (fun vi _ => N - (intOf vi).toNat)
   case atStart => exact ⟨0, Nat.zero_le _, rfl, HPA17.out, HX17.out, HLA17.out⟩
   case round =>
    obtain ⟨i, hi, rfl, hP, hB, hLi⟩ := hrel;have HPi := Bas.hid hP;have HBi := Bas.hid hB;have HLi := Bas.hid hLi;clear hP hB hLi;by_cases hin : i < N
    ·have e1 : decide ((i : Int) < (N : Int)) = true := by simp; omega
     have HAL := Bas.hid (along_any wr HPi.out (i : Int) t);rw [← alongN_succ] at HAL;go_wp2_with (fail);refine HAL.out.mono ?_;rintro e w20 ⟨rfl, hP20, hm20⟩;have HB20 := Bas.hid (HBi.out.mod hm20 (fun k hk => Nat.le_trans hLP (HPi.out.blk_low k hk).1))
     have HL20 := Bas.hid (HLi.out.mod hm20 (fun k hk hk2 => HNB.out k hk2 hk))
     have HP20 := Bas.hid hP20;clear hP20 hm20 HAL HPi HBi HLi;go_wp2_with (fail);go_roundw
     case rel => exact ⟨i + 1, by omega, by go_num, HP20.out, HB20.out, HL20.out⟩
     case measure => simp [intOf]; omega
    ·obtain rfl : N = i := by omega
     have e1 : decide ((N : Int) < (N : Int)) = false := by simp
     rw [HQS.out] at HPi;have HALL := Bas.hid (all_any HPi.out (by rw [HQL.out]; omega))
     rw [HQL.out] at HALL;go_wp2_with (fail);refine HALL.out.mono ?_;rintro e w21 ⟨hb21, v21, rfl, ho21⟩;have HB21 := Bas.hid (HBi.out.on hb21);have HL21 := Bas.hid (HLi.out.below hb21);obtain ⟨a21, c21, rfl⟩ := own_slice ho21;have HR21 := Bas.hid (Row.owned_base ho21 HBi.out.lt);have HGL := Bas.hid (glyphs_any LB LB lsv8 ys w21 HL21.out (by rw [HNY.out]; omega))
     rw [HNY.out] at HGL;clear hb21 ho21 HALL HBi HLi HPi;go_wp2_with (fail);refine HGL.out.mono ?_;rintro e w22 ⟨hb22, v22, rfl, ho22⟩;obtain ⟨a22, c22, rfl⟩ := own_slice ho22;have HB22 := Bas.hid (HB21.out.on hb22);have HR22 := Bas.hid (Row.owned_below HR21.out hb22);have HG22 := Bas.hid (Row.owned_base ho22 HB21.out.lt);clear hb22 ho22 HGL HB21 HL21 HR21;go_wp2_with (fail);obtain ⟨wo2, hwo⟩ : ∃ wo : World, wo = w22 := ⟨_, rfl⟩;rw [← hwo] at HB22 HR22 HG22;rw [← hwo];clear hwo;go_loopw [14, 102] (fun vb vi wr => ∃ (i : Nat) (vB : Value), i ≤ N ∧ vb = vB ∧ vi = .int .i64 i ∧ wr.ownsRow (T + 2) 82 5 vB i (((ys.zip qs).take i).flatMap outC) ∧ wr.ownsRow (T + 2) 80 3 (.slice a21 N c21) N (qs.flatMap plC) ∧ wr.ownsRow (T + 2) 78 2 (.slice a22 N c22) N (ys.flatMap glC) ∧ Bx w wr T (jobO s1 s2 s3 d z a n cap) fltO) (fun _ vi _ => N - (intOf vi).toNat)
     case atStart => exact ⟨0, _, Nat.zero_le _, rfl, rfl, Row.owned_nil _ _ _ _, HR22.out, HG22.out, HB22.out⟩
     case round =>
      obtain ⟨i, vB, hi, hvb, rfl, hrow, hpl, hgl, hb⟩ := hrel;subst hvb;have HRW := Bas.hid hrow;have HPW := Bas.hid hpl;have HGW := Bas.hid hgl;have HBW := Bas.hid hb;by_cases hin : i < N
      ·have e1 : decide ((i : Int) < (N : Int)) = true := by simp; omega
       have e2 : decide (i < N) = true := by simp; omega
       obtain ⟨⟨x0, x1⟩, hx⟩ : ∃ x, ys[i]? = some x := ⟨_, List.getElem?_eq_getElem (by rw [HNY.out]; exact hin)⟩
       obtain ⟨⟨q0, q1, q2⟩, hq⟩ : ∃ q, qs[i]? = some q := ⟨_, List.getElem?_eq_getElem (by rw [HQL.out]; exact hin)⟩
       obtain ⟨bo, cp, hv, hlt, p0, p1⟩ := glyph_cells hgl hx;cases hv;obtain ⟨bo2, cp2, hv2, hlt2, m0, m1, m2⟩ := place_cells hpl hq;cases hv2;obtain ⟨aB, cB, hvB⟩ := own_slice hrow;subst hvB;have HX : Hid (((ys.zip qs).take (i + 1)).flatMap outC = ((ys.zip qs).take i).flatMap outC ++ [.int .i64 x0, .int .i64 x1, .int .i32 q0, .int .i32 q1, .int .i32 q2]) := by
        unfold Hid;rw [List.take_add_one, (List.getElem?_zip_eq_some (z := ((x0, x1), ({ a := q0, x := q1, y := q2 } : Pl)))).2 ⟨hx, hq⟩];simp [outC]
       have hb3 := (Below.refl wr.heap.size wr).alloc (Nat.le_refl _) (.cells #[.int .i64 x0, .int .i64 x1] 78);have k3 := Bas.heap_new wr (.cells #[.int .i64 x0, .int .i64 x1] 78);have HR3 := Bas.hid (Row.owned_below hrow hb3);have HP3 := Bas.hid (Row.owned_below hpl hb3);have HG3 := Bas.hid (Row.owned_below hgl hb3);have HB3 := Bas.hid (hb.on hb3);have mm0 := (hb3.cell hlt2).trans m0;have mm1 := (hb3.cell hlt2).trans m1;have mm2 := (hb3.cell hlt2).trans m2;have hlt3 := Nat.lt_of_lt_of_le hlt2 hb3.size;simp only at p0 p1;clear hrow hgl hpl hb hx hq hb3 m0 m1 m2;go_wp2_with (fail);clear p0 p1 hlt hlt2;generalize wr.alloc (.cells #[.int .i64 x0, .int .i64 x1] 78) = w3 at *;generalize wr.heap.size = T3 at *;have q0' := cell_of_heap (i := 0) (v := .int .i64 x0) k3 rfl;have q1' := cell_of_heap (i := 1) (v := .int .i64 x1) k3 rfl;have lT3 := heap_lt k3;refine' Pl.region_v0 119 [0] [1, 2, 3, 4, 5, 6] [7, 8, 9] _ (by kernel_rfl) (by kernel_rfl) (by simp) (fun _ _ _ _ e h => ⟨e ▸ h.1, h.2⟩) ?_ ?_
       rotate_left
       ·intro I F hI hF;simp only [Pl.selN, List.cons_append, List.nil_append, List.drop_succ_cons, List.drop_zero];have t0 := fun i => hF.cell lT3 q0' i
        have t1 := fun i => hF.cell lT3 q1' i
        have t2 := fun i => hF.cell hlt3 mm0 i
        have t3 := fun i => hF.cell hlt3 mm1 i
        have t4 := fun i => hF.cell hlt3 mm2 i
        repeat (go_big_quiet_step (fail))
        refine wpQuiet_nil ?_;rfl
       intro w5 hw5;simp only [Pl.selN, List.drop_succ_cons, List.drop_zero];have HR5 := Bas.hid (Row.owned_below HR3.out hw5);have HP5 := Bas.hid (Row.owned_below HP3.out hw5);have HG5 := Bas.hid (Row.owned_below HG3.out hw5);have HB5 := Bas.hid (HB3.out.on hw5);clear hw5 HR3 HP3 HG3 HB3 q0' q1' lT3 hlt3 mm0 mm1 mm2 k3;go_wp2_with (at_builtin; refine Row.fence ?_);refine Row.unfence ?_;have hb7 := (Below.refl w5.heap.size w5).alloc (Nat.le_refl _) (.cells #[.int .i64 x0, .int .i64 x1, .int .i32 q0, .int .i32 q1, .int .i32 q2] 82);have k7 := Bas.heap_new w5 (.cells #[.int .i64 x0, .int .i64 x1, .int .i32 q0, .int .i32 q1, .int .i32 q2] 82);have HR7 := Bas.hid (Row.owned_below HR5.out hb7);have HP7 := Bas.hid (Row.owned_below HP5.out hb7);have HG7 := Bas.hid (Row.owned_below HG5.out hb7);have HB7 := Bas.hid (HB5.out.on hb7);generalize w5.alloc (.cells #[.int .i64 x0, .int .i64 x1, .int .i32 q0, .int .i32 q1, .int .i32 q2] 82) = w7 at *;refine Row.append_any rfl _ _ 72 82 rfl (.agg #[.int .i64 0, .int .i64 0, .int .i32 0, .int .i32 0, .int .i32 0]) 5 32 Tryz.underlying72 infoOut rfl (by decide) (T + 2) (.slice aB i cB) i _ rfl HR7.out (.slice (some ⟨w5.heap.size, 0, none⟩) 1 1) 1 [.int .i64 x0, .int .i64 x1, .int .i32 q0, .int .i32 q1, .int .i32 q2] rfl (leads_heap k7) rfl (by simp; first | done | exact ⟨rfl, rfl, rfl, rfl, rfl⟩) (by unfold maxLen; omega) (by omega) HB7.out.lt ?_
       intro v8 w8 h81 h82 _;have HR8 : Hid (w8.ownsRow (T + 2) 82 5 v8 (i + 1) (((ys.zip qs).take (i + 1)).flatMap outC)) := by unfold Hid; rw [HX.out]; exact h81
       have HG8 := Bas.hid (Row.owned_keep HG7.out fun b hbk => h82.block b (Row.own_block HG7.out hbk).2 (fun e => own_apart2 HG7.out HR7.out (by decide) b hbk e.symm))
       have HP8 := Bas.hid (Row.owned_keep HP7.out fun b hbk => h82.block b (Row.own_block HP7.out hbk).2 (fun e => own_apart2 HP7.out HR7.out (by decide) b hbk e.symm))
       have HB8 := Bas.hid (HB7.out.mod (Mod.of_grown (S := fun k => T + 2 ≤ k) h82 (fun b hbk => (Row.own_block HR7.out hbk).1)) (fun k hk => hk))
       clear h81 h82 k7 hb7 HR7 HG7 HB7 HP7;go_wp2_with (fail);go_roundw
       case rel => exact ⟨i + 1, v8, by omega, rfl, by go_num, HR8.out, HP8.out, HG8.out, HB8.out⟩
       case measure => simp [intOf]; omega
      ·obtain rfl : N = i := by omega
       have e1 : decide ((N : Int) < (N : Int)) = false := by simp
       obtain ⟨aB, cB, hvB⟩ := own_slice hrow;subst hvB;have HFR : Hid (wr.ownsRow (T + 2) 82 5 (.slice aB N cB) N ((ys.zip qs).flatMap outC)) := by
        unfold Hid;rw [List.take_of_length_le (by rw [List.length_zip, HNY.out, HQL.out]; omega)] at hrow
        exact hrow
       have y0 := free_of_heap (i := 0) HBW.out.flt;have y1 := free_of_heap (i := 1) HBW.out.flt;have y2 := free_of_heap (i := 2) HBW.out.flt;have z0 := cell_of_heap (i := 0) (v := .int .i64 0) HBW.out.flt rfl;have z1 := cell_of_heap (i := 1) (v := .int .i64 0) HBW.out.flt rfl;have z2 := cell_of_heap (i := 2) (v := .int .i64 0) HBW.out.flt rfl;have lb := heap_lt HBW.out.flt;clear hrow hpl hgl hb;go_wp2_with (fail);have hfs := flt_set HBW.out.flt;have hbl : Below T w _ := hfs.2.below HBW.out.bel (fun k hk => by subst hk; omega) (by have := HBW.out.lt; omega)
       have hrw := hfs.2.owned HFR.out (fun k hk e => by have := (Row.own_block HFR.out hk).1; omega)
       have k0 := cell_of_heap (i := 0) (v := .int .i64 0) hfs.1 rfl;have k1 := cell_of_heap (i := 1) (v := .int .i64 0) hfs.1 rfl;have k2 := cell_of_heap (i := 2) (v := .int .i64 0) hfs.1 rfl;generalize ((wr.setCell ⟨T + 1, 0, none⟩ (.int .i64 0)).setCell ⟨T + 1, 1, none⟩ (.int .i64 0)).setCell ⟨T + 1, 2, none⟩ (.int .i64 0) = WE at *;refine bodyPost_ret (v := .tuple #[.slice aB N cB, zeroV]) (by simp [results, Tryz.results29, go_sem, k0, k1, k2]) rfl ⟨_, rfl, hbl, Row.owned_base hrw (by omega)⟩
end Sh
namespace Sh
open Fo Vw Wr
set_option maxRecDepth 100000 in
theorem tab_feat (a : Option Addr) (len cap : Nat) (bs : List Int) (P : List PartD) (s : ByteArray) (v0 fv : Value) (hP : 1 ≤ P.length) (hs : ∀ p ∈ P, p.tag ≠ s) (w : World) (hl : len ≤ cap) (hc : cap ≤ maxLen) (hv : VB w a bs) (hbl : bs.length = len) (hF : IsFont bs P) :
  Calls Tryz.prog 53 #[.slice a len cap, .string s, v0, fv] w fun e w' => e = .returned v0 ∧ Below w.heap.size w w' := by
 have HN := Bas.hid (find_no a len cap bs P s hP hs w hl hc hv hbl hF);clear hv hF hs hP hbl hl hc;go_enter Tryz.func53, Tryz.ntmps53
 go_wp2_with (fail);refine HN.out.mono ?_;rintro e w2 ⟨rfl, hb⟩;have HB := Bas.hid hb;have hb3 := (Below.refl w2.heap.size w2).alloc (Nat.le_refl _) (.cells #[.slice none 0 0] 190);have hb4 := hb3.setCell (p := ⟨w2.heap.size, 0, none⟩) (Nat.le_refl _) (.slice none 0 0);have HB4 := Bas.hid (hb.trans (hb4.mono hb.size));clear hb hb3 hb4 HN;go_wp2_with (fail);go_ret;exact ⟨rfl, by first | exact HB4.out | exact HB.out.trans (((Below.refl w2.heap.size w2).alloc (Nat.le_refl _) _).mono HB.out.size)⟩
set_option maxRecDepth 100000 in
theorem tab_morx (a : Option Addr) (len cap : Nat) (bs : List Int) (P : List PartD) (s : ByteArray) (v0 fv : Value) (hP : 1 ≤ P.length) (hs : ∀ p ∈ P, p.tag ≠ s) (w : World) (hl : len ≤ cap) (hc : cap ≤ maxLen) (hv : VB w a bs) (hbl : bs.length = len) (hF : IsFont bs P) :
  Calls Tryz.prog 57 #[.slice a len cap, .string s, v0, fv] w fun e w' => e = .returned v0 ∧ Below w.heap.size w w' := by
 have HN := Bas.hid (find_no a len cap bs P s hP hs w hl hc hv hbl hF);clear hv hF hs hP hbl hl hc;go_enter Tryz.func57, Tryz.ntmps57
 go_wp2_with (fail);refine HN.out.mono ?_;rintro e w2 ⟨rfl, hb⟩;have HB := Bas.hid hb;have hb3 := (Below.refl w2.heap.size w2).alloc (Nat.le_refl _) (.cells #[.slice none 0 0] 190);have hb4 := hb3.setCell (p := ⟨w2.heap.size, 0, none⟩) (Nat.le_refl _) (.slice none 0 0);have HB4 := Bas.hid (hb.trans (hb4.mono hb.size));clear hb hb3 hb4 HN;go_wp2_with (fail);go_ret;exact ⟨rfl, by first | exact HB4.out | exact HB.out.trans (((Below.refl w2.heap.size w2).alloc (Nat.le_refl _) _).mono HB.out.size)⟩
set_option maxRecDepth 100000 in
theorem tab_kerx (a : Option Addr) (len cap : Nat) (bs : List Int) (P : List PartD) (s : ByteArray) (v0 fv : Value) (hP : 1 ≤ P.length) (hs : ∀ p ∈ P, p.tag ≠ s) (w : World) (hl : len ≤ cap) (hc : cap ≤ maxLen) (hv : VB w a bs) (hbl : bs.length = len) (hF : IsFont bs P) :
  Calls Tryz.prog 60 #[.slice a len cap, .string s, v0, fv] w fun e w' => e = .returned v0 ∧ Below w.heap.size w w' := by
 have HN := Bas.hid (find_no a len cap bs P s hP hs w hl hc hv hbl hF);clear hv hF hs hP hbl hl hc;go_enter Tryz.func60, Tryz.ntmps60
 go_wp2_with (fail);refine HN.out.mono ?_;rintro e w2 ⟨rfl, hb⟩;have HB := Bas.hid hb;have hb3 := (Below.refl w2.heap.size w2).alloc (Nat.le_refl _) (.cells #[.slice none 0 0] 190);have hb4 := hb3.setCell (p := ⟨w2.heap.size, 0, none⟩) (Nat.le_refl _) (.slice none 0 0);have HB4 := Bas.hid (hb.trans (hb4.mono hb.size));clear hb hb3 hb4 HN;go_wp2_with (fail);go_ret;exact ⟨rfl, by first | exact HB4.out | exact HB.out.trans (((Below.refl w2.heap.size w2).alloc (Nat.le_refl _) _).mono HB.out.size)⟩
set_option maxRecDepth 100000 in
theorem tab_ankr (a : Option Addr) (len cap : Nat) (bs : List Int) (P : List PartD) (s : ByteArray) (v0 fv : Value) (hP : 1 ≤ P.length) (hs : ∀ p ∈ P, p.tag ≠ s) (w : World) (hl : len ≤ cap) (hc : cap ≤ maxLen) (hv : VB w a bs) (hbl : bs.length = len) (hF : IsFont bs P) :
  Calls Tryz.prog 63 #[.slice a len cap, .string s, v0, fv] w fun e w' => e = .returned v0 ∧ Below w.heap.size w w' := by
 have HN := Bas.hid (find_no a len cap bs P s hP hs w hl hc hv hbl hF);clear hv hF hs hP hbl hl hc;go_enter Tryz.func63, Tryz.ntmps63
 go_wp2_with (fail);refine HN.out.mono ?_;rintro e w2 ⟨rfl, hb⟩;have HB := Bas.hid hb;have hb3 := (Below.refl w2.heap.size w2).alloc (Nat.le_refl _) (.cells #[.slice none 0 0] 190);have hb4 := hb3.setCell (p := ⟨w2.heap.size, 0, none⟩) (Nat.le_refl _) (.slice none 0 0);have HB4 := Bas.hid (hb.trans (hb4.mono hb.size));clear hb hb3 hb4 HN;go_wp2_with (fail);go_ret;exact ⟨rfl, by first | exact HB4.out | exact HB.out.trans (((Below.refl w2.heap.size w2).alloc (Nat.le_refl _) _).mono HB.out.size)⟩
set_option maxRecDepth 100000 in
theorem tab_trak (a : Option Addr) (len cap : Nat) (bs : List Int) (P : List PartD) (s : ByteArray) (v0 fv : Value) (hP : 1 ≤ P.length) (hs : ∀ p ∈ P, p.tag ≠ s) (w : World) (hl : len ≤ cap) (hc : cap ≤ maxLen) (hv : VB w a bs) (hbl : bs.length = len) (hF : IsFont bs P) :
  Calls Tryz.prog 66 #[.slice a len cap, .string s, v0, fv] w fun e w' => e = .returned v0 ∧ Below w.heap.size w w' := by
 have HN := Bas.hid (find_no a len cap bs P s hP hs w hl hc hv hbl hF);clear hv hF hs hP hbl hl hc;go_enter Tryz.func66, Tryz.ntmps66
 go_wp2_with (fail);refine HN.out.mono ?_;rintro e w2 ⟨rfl, hb⟩;have HB := Bas.hid hb;have hb3 := (Below.refl w2.heap.size w2).alloc (Nat.le_refl _) (.cells #[.slice none 0 0] 190);have hb4 := hb3.setCell (p := ⟨w2.heap.size, 0, none⟩) (Nat.le_refl _) (.slice none 0 0);have HB4 := Bas.hid (hb.trans (hb4.mono hb.size));clear hb hb3 hb4 HN;go_wp2_with (fail);go_ret;exact ⟨rfl, by first | exact HB4.out | exact HB.out.trans (((Below.refl w2.heap.size w2).alloc (Nat.le_refl _) _).mono HB.out.size)⟩
def tagOf (s : List UInt8) : ByteArray := ⟨s.toArray⟩
def noTab (P : List PartD) : Prop := ∀ p ∈ P, p.tag ≠ tagOf [102, 101, 97, 116] ∧ p.tag ≠ tagOf [109, 111, 114, 120] ∧ p.tag ≠ tagOf [107, 101, 114, 120] ∧ p.tag ≠ tagOf [97, 110, 107, 114] ∧ p.tag ≠ tagOf [116, 114, 97, 107]
def OpenD (w : World) (gf gw : Nat) (w' : World) : Prop := ∃ gm gk ga gt, w'.heap[gf]? = some (.cells #[.pointer (some ⟨gw, 0, none⟩), .slice none 0 0, .pointer (some ⟨gm, 0, none⟩), .pointer (some ⟨gk, 0, none⟩), .pointer (some ⟨ga, 0, none⟩), .pointer (some ⟨gt, 0, none⟩)] 204 (0, 0)) ∧ w.heap.size ≤ gm ∧ w.heap.size ≤ gk ∧ w.heap.size ≤ ga ∧ w.heap.size ≤ gt ∧
 w'.heap[gm]? = some (.cells #[.slice none 0 0] 214 (0, 0)) ∧ w'.heap[gk]? = some (.cells #[.slice none 0 0] 220 (0, 0)) ∧ w'.heap[ga]? = some (.cells #[.pointer none, .slice none 0 0] 226 (0, 0)) ∧ w'.heap[gt]? = some (.cells #[.slice none 0 0, .slice none 0 0, .slice none 0 0, .slice none 0 0] 233 (0, 0)) ∧ Mod (fun k => k = gf) w w'
set_option maxRecDepth 100000 in
set_option maxHeartbeats 16000000 in
theorem open1_any (bB bF bG gf gw : Nat) (a : Option Addr) (len cap : Nat) (bs : List Int) (P : List PartD) (w : World) (h1 : w.heap[bB]? = some (.cells #[.slice a len cap] 47 (0, 0))) (h2 : w.heap[bF]? = some (.cells #[.pointer (some ⟨gf, 0, none⟩)] 124 (0, 0))) (h3 : w.heap[gf]? = some (.cells #[.pointer (some ⟨gw, 0, none⟩), .slice none 0 0, .pointer none, .pointer none, .pointer none, .pointer none] 204 (0, 0)))
  (hP : 1 ≤ P.length) (hs : noTab P) (hl : len ≤ cap) (hc : cap ≤ maxLen) (hbl : bs.length = len) (hF : IsFont bs P) (hvg : ∀ u, (∀ k, k < w.heap.size → k ≠ gf → u.heap[k]? = w.heap[k]?) → VB u a bs) :
  Calls Tryz.prog 52 #[.pointer (some ⟨bB, 0, none⟩), .pointer (some ⟨bF, 0, none⟩), .pointer (some ⟨bG, 0, none⟩)] w fun e w' => e = .returned (.tuple #[]) ∧ OpenD w gf gw w' := by
 have hmf : ∀ (fn : Fn) (first cap : Array Value) (w : World), (Instr.makeFunc fn first cap).run Tryz.prog w = .ok (.func fn first cap) w := fun _ _ _ _ => rfl
 have hnBf : bB ≠ gf := fun e => by rw [e, h3] at h1; cases h1
 have hnFf : bF ≠ gf := fun e => by rw [e, h3] at h2; cases h2
 have H1 := Bas.hid h1;have H2 := Bas.hid h2;have H3 := Bas.hid h3;have HVG := Bas.hid hvg;have HF := Bas.hid hF;have HS := Bas.hid hs;have c1 := cell_of_heap (i := 0) (v := .slice a len cap) h1 rfl;have c2 := cell_of_heap (i := 0) (v := .pointer (some ⟨gf, 0, none⟩)) h2 rfl;have l1 := heap_lt h1;have l2 := heap_lt h2;have HM0 : Hid (Mod (fun k => k = gf) w w) := Mod.refl _ _
 have hlt3 := heap_lt h3;clear h1 h2 h3 hF hs hvg;go_enter Tryz.func52, Tryz.ntmps52
 go_wp2_with (fail);refine' Pl.region_v1 39 [] [0, 1] 2 5 [3, 4, 5] _ (fun v _ => v = .slice none 0 0) (by kernel_rfl) (by kernel_rfl) (by simp) (fun _ _ _ _ e h => ⟨e ▸ h.1, h.2⟩) ?_ ?_ ?_ ?_
 rotate_left
 ·intro I F hI hF;simp only [Pl.selN, List.nil_append, List.drop_succ_cons, List.drop_zero];have t0 := fun i => hF.cell l1 c1 i
  have t1 := fun i => hF.cell l2 c2 i
  repeat (go_big_quiet_step (fail))
  refine wpQuiet_nil ?_;rfl
 ·exact fun _ _ _ h _ _ => h
 ·simp only [Pl.selN, List.drop_succ_cons, List.drop_zero, List.mem_singleton, forall_eq];intro u hu
  go_simp
  simp only [Pl.valsAt];refine (tab_feat a len cap bs P _ (.slice none 0 0) _ hP (fun p hp => (HS.out p hp).1) u hl hc (HVG.out u fun k hk _ => hu.block k hk) hbl HF.out).mono ?_
  rintro e w'' ⟨rfl, hb⟩;exact .inl ⟨_, rfl, hb, rfl⟩
 intro v u0 hu0 hv;subst hv;simp only [Pl.selN, List.drop_succ_cons, List.drop_zero, Act.put, List.setIfInBounds_toArray, List.set_cons_zero, List.set_cons_succ];have hm0 : Mod (fun k => k = gf) w u0 := Mod.of_below hu0
 have HG0 := Bas.hid ((hu0.block _ hlt3).trans H3.out);have g1 := cell_of_heap (i := 1) (v := .slice none 0 0) HG0.out rfl;have g2 := free_of_heap (i := 1) HG0.out;have g3 := heap_lt HG0.out;have HM1 : Hid (Mod (fun k => k = gf) w (u0.setCell ⟨gf, 1, none⟩ (.slice none 0 0))) := hm0.set _ (.inl rfl)
 have HG1 : Hid ((u0.setCell ⟨gf, 1, none⟩ (.slice none 0 0)).heap[gf]? = some (.cells #[.pointer (some ⟨gw, 0, none⟩), .slice none 0 0, .pointer none, .pointer none, .pointer none, .pointer none] 204 (0, 0))) := by unfold Hid; have k := heap_set (i := 1) HG0.out (.slice none 0 0); exact k
 clear hm0 hu0 c1 c2 l1 l2;go_wp2_with (fail);clear g1 g2 g3;generalize u0.setCell ⟨gf, 1, none⟩ (.slice none 0 0) = w1 at *;have HB0 := Bas.hid ((HM1.out.heap H1.out hnBf));have HP0 := Bas.hid ((HM1.out.heap H2.out hnFf));obtain ⟨RI, RF, Ri, RF0, RFk, RFw⟩ := Pl.fam_of w1 (fun u => u.heap[bB]? = some (.cells #[.slice a len cap] 47 (0, 0)) ∧ u.heap[bF]? = some (.cells #[.pointer (some ⟨gf, 0, none⟩)] 124 (0, 0))) ⟨HB0.out, HP0.out⟩
 have RFH := Bas.hid RF0;have RhI : Nonempty RI := ⟨Ri⟩;have RFW := Bas.hid RFw;have t1 := fun i => cell_of_heap (i := 0) (v := .slice a len cap) (RFk i).1 rfl
 have t2 := fun i => cell_of_heap (i := 0) (v := .pointer (some ⟨gf, 0, none⟩)) (RFk i).2 rfl
 clear RF0 RFw RFk;refine Pl.region_plan0 Ri [(true, 0), (true, 1), (true, 2), (true, 4), (false, 3), (false, 5), (true, 6), (true, 7), (false, 8)] [8] (by kernel_rfl) (by kernel_rfl) (fun _ _ _ _ e h => ⟨e ▸ h.1, h.2⟩) RFH.out ?_
 refine Pl.head_sel0 [(true, 0), (true, 1), (true, 2), (true, 4)] (by kernel_rfl) (by kernel_rfl) ?_
 simp only [Pl.sel, List.drop_succ_cons, List.drop_zero];repeat (go_big_quiet_step (fail))
 refine wpQuiet_nil ?_;rw [← RFH.out];clear t1 t2;refine Pl.one_sel (by kernel_rfl) ?_
 intro Q' hQ' hP';simp only [Pl.sel, List.drop_succ_cons, List.drop_zero];go_wp2_with (fail);obtain ⟨gm, hgm⟩ : ∃ x, w1.heap.size = x := ⟨_, rfl⟩;have hb0 : Below w1.heap.size w1 (w1.alloc (.cells #[.slice none 0 0] 214)).drew := ((Below.refl w1.heap.size w1).alloc (Nat.le_refl _) (.cells #[.slice none 0 0] 214)).drew;have HK0 : Hid ((w1.alloc (.cells #[.slice none 0 0] 214)).drew.heap[gm]? = some (.cells #[.slice none 0 0] 214 (0, 0)) ∧ w.heap.size ≤ gm) := by rw [← hgm]; exact ⟨Bas.heap_new _ _, HM1.out.size⟩
 have HMA0 := Bas.hid (HM1.out.on hb0);have HGA0 := Bas.hid ((hb0.block _ (heap_lt HG1.out)).trans HG1.out);clear hb0;refine hQ' _ _ (fun _ _ => RFW.out _ ⟨HMA0.out.heap H1.out hnBf, HMA0.out.heap H2.out hnFf⟩) ?_
 clear hQ' hP' Q';refine Pl.one_sel (by kernel_rfl) ?_
 intro Q' hQ' hP';simp only [Pl.sel, List.drop_succ_cons, List.drop_zero];rw [hgm];generalize (w1.alloc (.cells #[.slice none 0 0] 214)).drew = x0 at *;clear hgm HB0 HP0;go_wp2_with (fail);refine (tab_morx a len cap bs P _ (.pointer (some ⟨gm, 0, none⟩)) _ hP (fun p hp => (HS.out p hp).2.1) x0 hl hc (HVG.out x0 fun k hk hn => HMA0.out.block k hk hn) hbl HF.out).mono ?_
 rintro e y0 ⟨rfl, hb0⟩;have HMB0 := Bas.hid (HMA0.out.on hb0);have HGB0 := Bas.hid ((hb0.block _ (heap_lt HGA0.out)).trans HGA0.out);have HKC0 := Bas.hid ((hb0.block _ (heap_lt HK0.out.1)).trans HK0.out.1);clear hb0;go_wp2_with (fail);refine hQ' _ _ (fun _ _ => RFW.out _ ⟨HMB0.out.heap H1.out hnBf, HMB0.out.heap H2.out hnFf⟩) ?_
 clear hQ' hP' Q' RFW RFH HMA0 HGA0;refine Pl.head_sel0 [(true, 6), (true, 7)] (by kernel_rfl) (by kernel_rfl) ?_
 simp only [Pl.sel, List.drop_succ_cons, List.drop_zero];repeat (go_big_quiet_step (fail))
 refine wpQuiet_nil ?_;refine Pl.tail_sel [(false, 8)] (by kernel_rfl) (by kernel_rfl) ?_
 simp only [Pl.sel, List.drop_succ_cons, List.drop_zero];clear RhI Ri;have g1 := cell_of_heap (i := 2) (v := .pointer none) HGB0.out rfl;have g2 := free_of_heap (i := 2) HGB0.out;have g3 := heap_lt HGB0.out;have HM2 : Hid (Mod (fun k => k = gf) w (y0.setCell ⟨gf, 2, none⟩ (.pointer (some ⟨gm, 0, none⟩)))) := HMB0.out.set _ (.inl rfl)
 have HG2 : Hid ((y0.setCell ⟨gf, 2, none⟩ (.pointer (some ⟨gm, 0, none⟩))).heap[gf]? = some (.cells #[.pointer (some ⟨gw, 0, none⟩), .slice none 0 0, .pointer (some ⟨gm, 0, none⟩), .pointer none, .pointer none, .pointer none] 204 (0, 0))) := by unfold Hid; have k := heap_set (i := 2) HGB0.out (.pointer (some ⟨gm, 0, none⟩)); exact k
 have HKB0 : Hid ((y0.setCell ⟨gf, 2, none⟩ (.pointer (some ⟨gm, 0, none⟩))).heap[gm]? = some (.cells #[.slice none 0 0] 214 (0, 0))) := (Below.heap_setCell _ _ _ _ (fun e => by have h := HKC0.out; rw [show gm = gf from e, HGB0.out] at h; cases h)).trans HKC0.out
 clear HKC0 HMB0 HGB0 ;go_wp2_with (fail);clear g1 g2 g3;generalize y0.setCell ⟨gf, 2, none⟩ (.pointer (some ⟨gm, 0, none⟩)) = w2 at *;have HB1 := Bas.hid ((HM2.out.heap H1.out hnBf));have HP1 := Bas.hid ((HM2.out.heap H2.out hnFf));obtain ⟨RI, RF, Ri, RF0, RFk, RFw⟩ := Pl.fam_of w2 (fun u => u.heap[bB]? = some (.cells #[.slice a len cap] 47 (0, 0)) ∧ u.heap[bF]? = some (.cells #[.pointer (some ⟨gf, 0, none⟩)] 124 (0, 0))) ⟨HB1.out, HP1.out⟩
 have RFH := Bas.hid RF0;have RhI : Nonempty RI := ⟨Ri⟩;have RFW := Bas.hid RFw;have t1 := fun i => cell_of_heap (i := 0) (v := .slice a len cap) (RFk i).1 rfl
 have t2 := fun i => cell_of_heap (i := 0) (v := .pointer (some ⟨gf, 0, none⟩)) (RFk i).2 rfl
 clear RF0 RFw RFk;refine Pl.region_plan0 Ri [(true, 0), (true, 1), (true, 2), (true, 4), (false, 3), (false, 5), (true, 6), (true, 7), (false, 8)] [8] (by kernel_rfl) (by kernel_rfl) (fun _ _ _ _ e h => ⟨e ▸ h.1, h.2⟩) RFH.out ?_
 refine Pl.head_sel0 [(true, 0), (true, 1), (true, 2), (true, 4)] (by kernel_rfl) (by kernel_rfl) ?_
 simp only [Pl.sel, List.drop_succ_cons, List.drop_zero];repeat (go_big_quiet_step (fail))
 refine wpQuiet_nil ?_;rw [← RFH.out];clear t1 t2;refine Pl.one_sel (by kernel_rfl) ?_
 intro Q' hQ' hP';simp only [Pl.sel, List.drop_succ_cons, List.drop_zero];go_wp2_with (fail);obtain ⟨gk, hgk⟩ : ∃ x, w2.heap.size = x := ⟨_, rfl⟩;have hb1 : Below w2.heap.size w2 (w2.alloc (.cells #[.slice none 0 0] 220)).drew := ((Below.refl w2.heap.size w2).alloc (Nat.le_refl _) (.cells #[.slice none 0 0] 220)).drew;have HK1 : Hid ((w2.alloc (.cells #[.slice none 0 0] 220)).drew.heap[gk]? = some (.cells #[.slice none 0 0] 220 (0, 0)) ∧ w.heap.size ≤ gk) := by rw [← hgk]; exact ⟨Bas.heap_new _ _, HM2.out.size⟩
 have HMA1 := Bas.hid (HM2.out.on hb1);have HGA1 := Bas.hid ((hb1.block _ (heap_lt HG2.out)).trans HG2.out);have HKA0 : Hid ((w2.alloc (.cells #[.slice none 0 0] 220)).drew.heap[gm]? = some (.cells #[.slice none 0 0] 214 (0, 0))) := (hb1.block _ (heap_lt HKB0.out)).trans HKB0.out;clear hb1;refine hQ' _ _ (fun _ _ => RFW.out _ ⟨HMA1.out.heap H1.out hnBf, HMA1.out.heap H2.out hnFf⟩) ?_
 clear hQ' hP' Q';refine Pl.one_sel (by kernel_rfl) ?_
 intro Q' hQ' hP';simp only [Pl.sel, List.drop_succ_cons, List.drop_zero];rw [hgk];generalize (w2.alloc (.cells #[.slice none 0 0] 220)).drew = x1 at *;clear hgk HB1 HP1;go_wp2_with (fail);refine (tab_kerx a len cap bs P _ (.pointer (some ⟨gk, 0, none⟩)) _ hP (fun p hp => (HS.out p hp).2.2.1) x1 hl hc (HVG.out x1 fun k hk hn => HMA1.out.block k hk hn) hbl HF.out).mono ?_
 rintro e y1 ⟨rfl, hb1⟩;have HMB1 := Bas.hid (HMA1.out.on hb1);have HGB1 := Bas.hid ((hb1.block _ (heap_lt HGA1.out)).trans HGA1.out);have HKC1 := Bas.hid ((hb1.block _ (heap_lt HK1.out.1)).trans HK1.out.1);have HKC0 := Bas.hid ((hb1.block _ (heap_lt HKA0.out)).trans HKA0.out);clear hb1;go_wp2_with (fail);refine hQ' _ _ (fun _ _ => RFW.out _ ⟨HMB1.out.heap H1.out hnBf, HMB1.out.heap H2.out hnFf⟩) ?_
 clear hQ' hP' Q' RFW RFH HMA1 HGA1;refine Pl.head_sel0 [(true, 6), (true, 7)] (by kernel_rfl) (by kernel_rfl) ?_
 simp only [Pl.sel, List.drop_succ_cons, List.drop_zero];repeat (go_big_quiet_step (fail))
 refine wpQuiet_nil ?_;refine Pl.tail_sel [(false, 8)] (by kernel_rfl) (by kernel_rfl) ?_
 simp only [Pl.sel, List.drop_succ_cons, List.drop_zero];clear RhI Ri;have g1 := cell_of_heap (i := 3) (v := .pointer none) HGB1.out rfl;have g2 := free_of_heap (i := 3) HGB1.out;have g3 := heap_lt HGB1.out;have HM3 : Hid (Mod (fun k => k = gf) w (y1.setCell ⟨gf, 3, none⟩ (.pointer (some ⟨gk, 0, none⟩)))) := HMB1.out.set _ (.inl rfl)
 have HG3 : Hid ((y1.setCell ⟨gf, 3, none⟩ (.pointer (some ⟨gk, 0, none⟩))).heap[gf]? = some (.cells #[.pointer (some ⟨gw, 0, none⟩), .slice none 0 0, .pointer (some ⟨gm, 0, none⟩), .pointer (some ⟨gk, 0, none⟩), .pointer none, .pointer none] 204 (0, 0))) := by unfold Hid; have k := heap_set (i := 3) HGB1.out (.pointer (some ⟨gk, 0, none⟩)); exact k
 have HKB0 : Hid ((y1.setCell ⟨gf, 3, none⟩ (.pointer (some ⟨gk, 0, none⟩))).heap[gm]? = some (.cells #[.slice none 0 0] 214 (0, 0))) := (Below.heap_setCell _ _ _ _ (fun e => by have h := HKC0.out; rw [show gm = gf from e, HGB1.out] at h; cases h)).trans HKC0.out
 have HKB1 : Hid ((y1.setCell ⟨gf, 3, none⟩ (.pointer (some ⟨gk, 0, none⟩))).heap[gk]? = some (.cells #[.slice none 0 0] 220 (0, 0))) := (Below.heap_setCell _ _ _ _ (fun e => by have h := HKC1.out; rw [show gk = gf from e, HGB1.out] at h; cases h)).trans HKC1.out
 clear HKC0 HKC1 HMB1 HGB1 HKA0;go_wp2_with (fail);clear g1 g2 g3;generalize y1.setCell ⟨gf, 3, none⟩ (.pointer (some ⟨gk, 0, none⟩)) = w3 at *;have HB2 := Bas.hid ((HM3.out.heap H1.out hnBf));have HP2 := Bas.hid ((HM3.out.heap H2.out hnFf));obtain ⟨RI, RF, Ri, RF0, RFk, RFw⟩ := Pl.fam_of w3 (fun u => u.heap[bB]? = some (.cells #[.slice a len cap] 47 (0, 0)) ∧ u.heap[bF]? = some (.cells #[.pointer (some ⟨gf, 0, none⟩)] 124 (0, 0))) ⟨HB2.out, HP2.out⟩
 have RFH := Bas.hid RF0;have RhI : Nonempty RI := ⟨Ri⟩;have RFW := Bas.hid RFw;have t1 := fun i => cell_of_heap (i := 0) (v := .slice a len cap) (RFk i).1 rfl
 have t2 := fun i => cell_of_heap (i := 0) (v := .pointer (some ⟨gf, 0, none⟩)) (RFk i).2 rfl
 clear RF0 RFw RFk;refine Pl.region_plan0 Ri [(true, 0), (true, 1), (true, 2), (true, 4), (false, 3), (false, 5), (true, 6), (true, 7), (false, 8)] [8] (by kernel_rfl) (by kernel_rfl) (fun _ _ _ _ e h => ⟨e ▸ h.1, h.2⟩) RFH.out ?_
 refine Pl.head_sel0 [(true, 0), (true, 1), (true, 2), (true, 4)] (by kernel_rfl) (by kernel_rfl) ?_
 simp only [Pl.sel, List.drop_succ_cons, List.drop_zero];repeat (go_big_quiet_step (fail))
 refine wpQuiet_nil ?_;rw [← RFH.out];clear t1 t2;refine Pl.one_sel (by kernel_rfl) ?_
 intro Q' hQ' hP';simp only [Pl.sel, List.drop_succ_cons, List.drop_zero];go_wp2_with (fail);obtain ⟨ga, hga⟩ : ∃ x, w3.heap.size = x := ⟨_, rfl⟩;have hb2 : Below w3.heap.size w3 (w3.alloc (.cells #[.pointer none, .slice none 0 0] 226)).drew := ((Below.refl w3.heap.size w3).alloc (Nat.le_refl _) (.cells #[.pointer none, .slice none 0 0] 226)).drew;have HK2 : Hid ((w3.alloc (.cells #[.pointer none, .slice none 0 0] 226)).drew.heap[ga]? = some (.cells #[.pointer none, .slice none 0 0] 226 (0, 0)) ∧ w.heap.size ≤ ga) := by rw [← hga]; exact ⟨Bas.heap_new _ _, HM3.out.size⟩
 have HMA2 := Bas.hid (HM3.out.on hb2);have HGA2 := Bas.hid ((hb2.block _ (heap_lt HG3.out)).trans HG3.out);have HKA0 : Hid ((w3.alloc (.cells #[.pointer none, .slice none 0 0] 226)).drew.heap[gm]? = some (.cells #[.slice none 0 0] 214 (0, 0))) := (hb2.block _ (heap_lt HKB0.out)).trans HKB0.out;have HKA1 : Hid ((w3.alloc (.cells #[.pointer none, .slice none 0 0] 226)).drew.heap[gk]? = some (.cells #[.slice none 0 0] 220 (0, 0))) := (hb2.block _ (heap_lt HKB1.out)).trans HKB1.out;clear hb2;refine hQ' _ _ (fun _ _ => RFW.out _ ⟨HMA2.out.heap H1.out hnBf, HMA2.out.heap H2.out hnFf⟩) ?_
 clear hQ' hP' Q';refine Pl.one_sel (by kernel_rfl) ?_
 intro Q' hQ' hP';simp only [Pl.sel, List.drop_succ_cons, List.drop_zero];rw [hga];generalize (w3.alloc (.cells #[.pointer none, .slice none 0 0] 226)).drew = x2 at *;clear hga HB2 HP2;go_wp2_with (fail);refine (tab_ankr a len cap bs P _ (.pointer (some ⟨ga, 0, none⟩)) _ hP (fun p hp => (HS.out p hp).2.2.2.1) x2 hl hc (HVG.out x2 fun k hk hn => HMA2.out.block k hk hn) hbl HF.out).mono ?_
 rintro e y2 ⟨rfl, hb2⟩;have HMB2 := Bas.hid (HMA2.out.on hb2);have HGB2 := Bas.hid ((hb2.block _ (heap_lt HGA2.out)).trans HGA2.out);have HKC2 := Bas.hid ((hb2.block _ (heap_lt HK2.out.1)).trans HK2.out.1);have HKC0 := Bas.hid ((hb2.block _ (heap_lt HKA0.out)).trans HKA0.out);have HKC1 := Bas.hid ((hb2.block _ (heap_lt HKA1.out)).trans HKA1.out);clear hb2;go_wp2_with (fail);refine hQ' _ _ (fun _ _ => RFW.out _ ⟨HMB2.out.heap H1.out hnBf, HMB2.out.heap H2.out hnFf⟩) ?_
 clear hQ' hP' Q' RFW RFH HMA2 HGA2;refine Pl.head_sel0 [(true, 6), (true, 7)] (by kernel_rfl) (by kernel_rfl) ?_
 simp only [Pl.sel, List.drop_succ_cons, List.drop_zero];repeat (go_big_quiet_step (fail))
 refine wpQuiet_nil ?_;refine Pl.tail_sel [(false, 8)] (by kernel_rfl) (by kernel_rfl) ?_
 simp only [Pl.sel, List.drop_succ_cons, List.drop_zero];clear RhI Ri;have g1 := cell_of_heap (i := 4) (v := .pointer none) HGB2.out rfl;have g2 := free_of_heap (i := 4) HGB2.out;have g3 := heap_lt HGB2.out;have HM4 : Hid (Mod (fun k => k = gf) w (y2.setCell ⟨gf, 4, none⟩ (.pointer (some ⟨ga, 0, none⟩)))) := HMB2.out.set _ (.inl rfl)
 have HG4 : Hid ((y2.setCell ⟨gf, 4, none⟩ (.pointer (some ⟨ga, 0, none⟩))).heap[gf]? = some (.cells #[.pointer (some ⟨gw, 0, none⟩), .slice none 0 0, .pointer (some ⟨gm, 0, none⟩), .pointer (some ⟨gk, 0, none⟩), .pointer (some ⟨ga, 0, none⟩), .pointer none] 204 (0, 0))) := by unfold Hid; have k := heap_set (i := 4) HGB2.out (.pointer (some ⟨ga, 0, none⟩)); exact k
 have HKB0 : Hid ((y2.setCell ⟨gf, 4, none⟩ (.pointer (some ⟨ga, 0, none⟩))).heap[gm]? = some (.cells #[.slice none 0 0] 214 (0, 0))) := (Below.heap_setCell _ _ _ _ (fun e => by have h := HKC0.out; rw [show gm = gf from e, HGB2.out] at h; cases h)).trans HKC0.out
 have HKB1 : Hid ((y2.setCell ⟨gf, 4, none⟩ (.pointer (some ⟨ga, 0, none⟩))).heap[gk]? = some (.cells #[.slice none 0 0] 220 (0, 0))) := (Below.heap_setCell _ _ _ _ (fun e => by have h := HKC1.out; rw [show gk = gf from e, HGB2.out] at h; cases h)).trans HKC1.out
 have HKB2 : Hid ((y2.setCell ⟨gf, 4, none⟩ (.pointer (some ⟨ga, 0, none⟩))).heap[ga]? = some (.cells #[.pointer none, .slice none 0 0] 226 (0, 0))) := (Below.heap_setCell _ _ _ _ (fun e => by have h := HKC2.out; rw [show ga = gf from e, HGB2.out] at h; cases h)).trans HKC2.out
 clear HKC0 HKC1 HKC2 HMB2 HGB2 HKA0 HKA1;go_wp2_with (fail);clear g1 g2 g3;generalize y2.setCell ⟨gf, 4, none⟩ (.pointer (some ⟨ga, 0, none⟩)) = w4 at *;have HB3 := Bas.hid ((HM4.out.heap H1.out hnBf));have HP3 := Bas.hid ((HM4.out.heap H2.out hnFf));obtain ⟨RI, RF, Ri, RF0, RFk, RFw⟩ := Pl.fam_of w4 (fun u => u.heap[bB]? = some (.cells #[.slice a len cap] 47 (0, 0)) ∧ u.heap[bF]? = some (.cells #[.pointer (some ⟨gf, 0, none⟩)] 124 (0, 0))) ⟨HB3.out, HP3.out⟩
 have RFH := Bas.hid RF0;have RhI : Nonempty RI := ⟨Ri⟩;have RFW := Bas.hid RFw;have t1 := fun i => cell_of_heap (i := 0) (v := .slice a len cap) (RFk i).1 rfl
 have t2 := fun i => cell_of_heap (i := 0) (v := .pointer (some ⟨gf, 0, none⟩)) (RFk i).2 rfl
 clear RF0 RFw RFk;refine Pl.region_plan0 Ri [(true, 0), (true, 1), (true, 2), (false, 3), (false, 4), (true, 5), (true, 6), (false, 7)] [7] (by kernel_rfl) (by kernel_rfl) (fun _ _ _ _ e h => ⟨e ▸ h.1, h.2⟩) RFH.out ?_
 refine Pl.head_sel0 [(true, 0), (true, 1), (true, 2)] (by kernel_rfl) (by kernel_rfl) ?_
 simp only [Pl.sel, List.drop_succ_cons, List.drop_zero];repeat (go_big_quiet_step (fail))
 refine wpQuiet_nil ?_;rw [← RFH.out];clear t1 t2;refine Pl.one_sel (by kernel_rfl) ?_
 intro Q' hQ' hP';simp only [Pl.sel, List.drop_succ_cons, List.drop_zero];go_wp2_with (fail);obtain ⟨gt, hgt⟩ : ∃ x, w4.heap.size = x := ⟨_, rfl⟩;have hb3 : Below w4.heap.size w4 (w4.alloc (.cells #[.slice none 0 0, .slice none 0 0, .slice none 0 0, .slice none 0 0] 233)).drew := ((Below.refl w4.heap.size w4).alloc (Nat.le_refl _) (.cells #[.slice none 0 0, .slice none 0 0, .slice none 0 0, .slice none 0 0] 233)).drew;have HK3 : Hid ((w4.alloc (.cells #[.slice none 0 0, .slice none 0 0, .slice none 0 0, .slice none 0 0] 233)).drew.heap[gt]? = some (.cells #[.slice none 0 0, .slice none 0 0, .slice none 0 0, .slice none 0 0] 233 (0, 0)) ∧ w.heap.size ≤ gt) := by rw [← hgt]; exact ⟨Bas.heap_new _ _, HM4.out.size⟩
 have HMA3 := Bas.hid (HM4.out.on hb3);have HGA3 := Bas.hid ((hb3.block _ (heap_lt HG4.out)).trans HG4.out);have HKA0 : Hid ((w4.alloc (.cells #[.slice none 0 0, .slice none 0 0, .slice none 0 0, .slice none 0 0] 233)).drew.heap[gm]? = some (.cells #[.slice none 0 0] 214 (0, 0))) := (hb3.block _ (heap_lt HKB0.out)).trans HKB0.out;have HKA1 : Hid ((w4.alloc (.cells #[.slice none 0 0, .slice none 0 0, .slice none 0 0, .slice none 0 0] 233)).drew.heap[gk]? = some (.cells #[.slice none 0 0] 220 (0, 0))) := (hb3.block _ (heap_lt HKB1.out)).trans HKB1.out;have HKA2 : Hid ((w4.alloc (.cells #[.slice none 0 0, .slice none 0 0, .slice none 0 0, .slice none 0 0] 233)).drew.heap[ga]? = some (.cells #[.pointer none, .slice none 0 0] 226 (0, 0))) := (hb3.block _ (heap_lt HKB2.out)).trans HKB2.out;clear hb3;refine hQ' _ _ (fun _ _ => RFW.out _ ⟨HMA3.out.heap H1.out hnBf, HMA3.out.heap H2.out hnFf⟩) ?_
 clear hQ' hP' Q';refine Pl.one_sel (by kernel_rfl) ?_
 intro Q' hQ' hP';simp only [Pl.sel, List.drop_succ_cons, List.drop_zero];rw [hgt];generalize (w4.alloc (.cells #[.slice none 0 0, .slice none 0 0, .slice none 0 0, .slice none 0 0] 233)).drew = x3 at *;clear hgt HB3 HP3;go_wp2_with (fail);refine (tab_trak a len cap bs P _ (.pointer (some ⟨gt, 0, none⟩)) _ hP (fun p hp => (HS.out p hp).2.2.2.2) x3 hl hc (HVG.out x3 fun k hk hn => HMA3.out.block k hk hn) hbl HF.out).mono ?_
 rintro e y3 ⟨rfl, hb3⟩;have HMB3 := Bas.hid (HMA3.out.on hb3);have HGB3 := Bas.hid ((hb3.block _ (heap_lt HGA3.out)).trans HGA3.out);have HKC3 := Bas.hid ((hb3.block _ (heap_lt HK3.out.1)).trans HK3.out.1);have HKC0 := Bas.hid ((hb3.block _ (heap_lt HKA0.out)).trans HKA0.out);have HKC1 := Bas.hid ((hb3.block _ (heap_lt HKA1.out)).trans HKA1.out);have HKC2 := Bas.hid ((hb3.block _ (heap_lt HKA2.out)).trans HKA2.out);clear hb3;go_wp2_with (fail);refine hQ' _ _ (fun _ _ => RFW.out _ ⟨HMB3.out.heap H1.out hnBf, HMB3.out.heap H2.out hnFf⟩) ?_
 clear hQ' hP' Q' RFW RFH HMA3 HGA3;refine Pl.head_sel0 [(true, 5), (true, 6)] (by kernel_rfl) (by kernel_rfl) ?_
 simp only [Pl.sel, List.drop_succ_cons, List.drop_zero];repeat (go_big_quiet_step (fail))
 refine wpQuiet_nil ?_;refine Pl.tail_sel [(false, 7)] (by kernel_rfl) (by kernel_rfl) ?_
 simp only [Pl.sel, List.drop_succ_cons, List.drop_zero];clear RhI Ri;have g1 := cell_of_heap (i := 5) (v := .pointer none) HGB3.out rfl;have g2 := free_of_heap (i := 5) HGB3.out;have g3 := heap_lt HGB3.out;have HM5 : Hid (Mod (fun k => k = gf) w (y3.setCell ⟨gf, 5, none⟩ (.pointer (some ⟨gt, 0, none⟩)))) := HMB3.out.set _ (.inl rfl)
 have HG5 : Hid ((y3.setCell ⟨gf, 5, none⟩ (.pointer (some ⟨gt, 0, none⟩))).heap[gf]? = some (.cells #[.pointer (some ⟨gw, 0, none⟩), .slice none 0 0, .pointer (some ⟨gm, 0, none⟩), .pointer (some ⟨gk, 0, none⟩), .pointer (some ⟨ga, 0, none⟩), .pointer (some ⟨gt, 0, none⟩)] 204 (0, 0))) := by unfold Hid; have k := heap_set (i := 5) HGB3.out (.pointer (some ⟨gt, 0, none⟩)); exact k
 have HKB0 : Hid ((y3.setCell ⟨gf, 5, none⟩ (.pointer (some ⟨gt, 0, none⟩))).heap[gm]? = some (.cells #[.slice none 0 0] 214 (0, 0))) := (Below.heap_setCell _ _ _ _ (fun e => by have h := HKC0.out; rw [show gm = gf from e, HGB3.out] at h; cases h)).trans HKC0.out
 have HKB1 : Hid ((y3.setCell ⟨gf, 5, none⟩ (.pointer (some ⟨gt, 0, none⟩))).heap[gk]? = some (.cells #[.slice none 0 0] 220 (0, 0))) := (Below.heap_setCell _ _ _ _ (fun e => by have h := HKC1.out; rw [show gk = gf from e, HGB3.out] at h; cases h)).trans HKC1.out
 have HKB2 : Hid ((y3.setCell ⟨gf, 5, none⟩ (.pointer (some ⟨gt, 0, none⟩))).heap[ga]? = some (.cells #[.pointer none, .slice none 0 0] 226 (0, 0))) := (Below.heap_setCell _ _ _ _ (fun e => by have h := HKC2.out; rw [show ga = gf from e, HGB3.out] at h; cases h)).trans HKC2.out
 have HKB3 : Hid ((y3.setCell ⟨gf, 5, none⟩ (.pointer (some ⟨gt, 0, none⟩))).heap[gt]? = some (.cells #[.slice none 0 0, .slice none 0 0, .slice none 0 0, .slice none 0 0] 233 (0, 0))) := (Below.heap_setCell _ _ _ _ (fun e => by have h := HKC3.out; rw [show gt = gf from e, HGB3.out] at h; cases h)).trans HKC3.out
 clear HKC0 HKC1 HKC2 HKC3 HMB3 HGB3 HKA0 HKA1 HKA2;go_wp2_with (fail);clear g1 g2 g3;generalize y3.setCell ⟨gf, 5, none⟩ (.pointer (some ⟨gt, 0, none⟩)) = w5 at *
 go_end0
 exact ⟨rfl, gm, gk, ga, gt, HG5.out, HK0.out.2, HK1.out.2, HK2.out.2, HK3.out.2, HKB0.out, HKB1.out, HKB2.out, HKB3.out, HM5.out⟩
end Sh
namespace Ln
open Ch
theorem setCells_size (b : Nat) : ∀ (vs : List Value) (o : Nat) (w : World), (w.setCells b o vs).heap.size = w.heap.size
 | [], _, _ => rfl
 | v :: r, o, w => by rw [World.setCells, setCells_size b r]; simp [World.setCell]
theorem setCells_other (b k : Nat) (hk : k ≠ b) : ∀ (vs : List Value) (o : Nat) (w : World), (w.setCells b o vs).heap[k]? = w.heap[k]?
 | [], _, _ => rfl
 | v :: r, o, w => by rw [World.setCells, setCells_other b k hk r]; exact Below.heap_setCell _ _ _ _ (by exact hk)
theorem setCells_heap (b : Nat) (t : TypeId) : ∀ (vs : List Value) (o : Nat) (w : World) (cur : List Value), w.heap[b]? = some (.cells cur.toArray t (0, 0)) → o + vs.length ≤ cur.length →
  (w.setCells b o vs).heap[b]? = some (.cells (cur.take o ++ vs ++ cur.drop (o + vs.length)).toArray t (0, 0))
 | [], o, w, cur, h, _ => by simpa [World.setCells] using h
 | v :: r, o, w, cur, h, hl => by
  simp only [List.length_cons] at hl;have h1 := heap_set (i := o) h v;rw [List.setIfInBounds_toArray] at h1;have ih := setCells_heap b t r (o + 1) _ _ h1 (by rw [List.length_set]; omega)
  have e1 : (cur.set o v).take o = cur.take o := by rw [List.take_set, List.set_eq_of_length_le (by simp; omega)]
  have e2 : (cur.set o v)[o]? = some v := by rw [List.getElem?_set_self (by omega)]
  have e3 : (cur.set o v).drop (o + 1 + r.length) = cur.drop (o + 1 + r.length) := List.drop_set_of_lt (by omega)
  rw [World.setCells, ih, List.take_add_one, e1, e2, e3];simp only [Option.toList_some, List.append_assoc, List.cons_append, List.nil_append, List.length_cons];rw [show o + 1 + r.length = o + (r.length + 1) by omega]
theorem setCells_frame (b : Nat) (vs : List Value) (o : Nat) (w : World) : (w.setCells b o vs).os = w.os ∧ (w.setCells b o vs).tape = w.tape ∧ (w.setCells b o vs).output = w.output := by
 induction vs generalizing o w with
 | nil => exact ⟨rfl, rfl, rfl⟩
 | cons v r ih => rw [World.setCells]; exact ih _ _
theorem setCells_grown {a w : World} {b : Nat} (h : a.grownBy w (some b)) (o : Nat) (vs : List Value) : a.grownBy (w.setCells b o vs) (some b) := by
 obtain ⟨h1, h2, h3⟩ := setCells_frame b vs o w;exact Bas.gtrans h ⟨h1, h2, h3, by rw [setCells_size]; exact Nat.le_refl _, fun k _ hk => setCells_other b k (fun e => hk (by rw [e])) vs o w⟩
def RawAt (w : World) (b : Nat) (cur : List Value) : Prop := w.heap[b]? = some (.cells cur.toArray 78 (0, 0))
theorem RawAt.cell {w : World} {b : Nat} {cur : List Value} (h : RawAt w b cur) {j : Nat} {v : Value} (hv : cur[j]? = some v) : w.cell? ⟨b, j, none⟩ = some v := cell_of_heap h (by simpa using hv)
theorem RawAt.free {w : World} {b : Nat} {cur : List Value} (h : RawAt w b cur) (j : Nat) : w.frozen? ⟨b, j, none⟩ = false := free_of_heap h
theorem RawAt.set {w : World} {b : Nat} {cur : List Value} (h : RawAt w b cur) (o : Nat) (vs : List Value) (hl : o + vs.length ≤ cur.length) : RawAt (w.setCells b o vs) b (cur.take o ++ vs ++ cur.drop (o + vs.length)) := setCells_heap b _ vs o w cur h hl
theorem RawAt.owned {w : World} {base b n cp : Nat} {cur : List Value} (h : RawAt w b cur) (hb : base ≤ b) (hn : n ≤ cp) (hc : cp ≤ maxLen) (hl : cur.length = cp * 2) (xs : List Value) (hx : cur.take (n * 2) = xs) : w.ownsRow base 78 2 (.slice (some ⟨b, 0, none⟩) n cp) n xs := by
 subst hx;refine ⟨by rw [List.length_take]; omega, .inr ⟨b, cp, cur.toArray, rfl, hb, h, hn, hc, by simpa using hl, by simp⟩⟩
theorem raw_of_owned {w : World} {base n : Nat} {sv : Value} {xs : List Value} (h : w.ownsRow base 78 2 sv n xs) (hn : 0 < n) : ∃ b cp cur, sv = .slice (some ⟨b, 0, none⟩) n cp ∧ base ≤ b ∧ RawAt w b cur ∧ n ≤ cp ∧ cp ≤ maxLen ∧ cur.length = cp * 2 ∧ cur.take (n * 2) = xs := by
 obtain ⟨_, ⟨_, h0⟩ | ⟨g, cap, cur, hv, hb, hh, hc, hm, hs, ht⟩⟩ := h
 ·omega
 ·exact ⟨g, cap, cur.toList, hv, hb, by simpa [RawAt] using hh, hc, hm, by simpa using hs, ht⟩
theorem zeroCells_len (z : Array Value) (k : Nat) : (Builtin.zeroCells z k).toList.length = k * z.size := by simp [Builtin.zeroCells]
theorem zeroG_one (n : Nat) : ∀ v ∈ (Builtin.zeroCells (Value.agg #[.int .i64 0, .int .i64 0]).cells n).toList, v.oneCell' = true := by
 intro v hv;simp only [Builtin.zeroCells, Array.toList_map, List.mem_map, Array.mem_toList_iff, Array.mem_range] at hv;obtain ⟨i, _, rfl⟩ := hv;have hc : (Value.agg #[.int .i64 0, .int .i64 0]).cells = #[.int .i64 0, .int .i64 0] := rfl;rw [hc];have : i % 2 = 0 ∨ i % 2 = 1 := by omega
 rcases this with h | h <;> simp [h] <;> rfl
theorem run_clear_gl (w : World) (ty : TypeId) (b off k cap : Nat) (hc : ∀ j, j < k * 2 → (w.cell? ⟨b, off + j, none⟩).isSome = true) (hf : ∀ j, j < k * 2 → w.frozen? ⟨b, off + j, none⟩ = false) :
  (Builtin.clear_ #[248] ty #[.slice (some ⟨b, off, none⟩) k cap]).run Tryz.prog w = .ok (.tuple #[]) (w.setCells b off (Builtin.zeroCells (Value.agg #[.int .i64 0, .int .i64 0]).cells k).toList) := by
 obtain ⟨i, hi, hz, hsz, hby⟩ := info_parts infoG;have hlen : (Builtin.zeroCells (Value.agg #[.int .i64 0, .int .i64 0]).cells k).toList.length = k * 2 := zeroCells_len _ _;have hst := run_storeCells_cells (P := Tryz.prog) b off (Builtin.zeroCells (Value.agg #[.int .i64 0, .int .i64 0]).cells k).toList 0 w (by rw [hlen]; simpa using hc) (by rw [hlen]; simpa using hf) (zeroG_one _)
 cases k with
 | zero => simp [Builtin.clear_, run_underlying Tryz.underlying248, Builtin.zeroCells, World.setCells]
 | succ k =>
  simp only [Nat.add_zero] at hst;simp [Builtin.clear_, run_underlying Tryz.underlying248, zeroValue, typeInfo, hi, hz, hst]
theorem own_put2 {w : World} {base g n cp k : Nat} {xs : List Gl} (h : w.ownsRow base 78 2 (.slice (some ⟨g, 0, none⟩) n cp) n (xs.flatMap glC)) (hk : k < xs.length) (a b : Int) :
  ((w.setCell ⟨g, k * 2, none⟩ (.int .i64 a)).setCell ⟨g, k * 2 + 1, none⟩ (.int .i64 b)).ownsRow base 78 2 (.slice (some ⟨g, 0, none⟩) n cp) n ((xs.set k (a, b)).flatMap glC) := by
 obtain ⟨x, hx⟩ : ∃ x, xs[k]? = some x := ⟨_, List.getElem?_eq_getElem hk⟩;have h1 := own_putN h (k * 2) (.int .i64 a);rw [glC_set1 xs k a x hx] at h1;have h2 := own_putN h1 (k * 2 + 1) (.int .i64 b);rw [glC_set2 (xs.set k (a, x.2)) k b (a, x.2) (by rw [List.getElem?_set_self hk])] at h2
 simpa using h2
theorem own_cells {w : World} {base n : Nat} {sv : Value} {xs : List Gl} (h : w.ownsRow base 78 2 sv n (xs.flatMap glC)) {k : Nat} {x : Gl} (hx : xs[k]? = some x) :
  ∃ bo cp, sv = .slice (some ⟨bo, 0, none⟩) n cp ∧ bo < w.heap.size ∧ base ≤ bo ∧ w.cell? ⟨bo, k * 2, none⟩ = some (.int .i64 x.1) ∧ w.cell? ⟨bo, k * 2 + 1, none⟩ = some (.int .i64 x.2) ∧ ∀ i, w.frozen? ⟨bo, i, none⟩ = false := by
 have hL := Row.leads_elem glC_len (Row.leads_owned h) hx (by omega)
 obtain ⟨hlen, ⟨h2, h3⟩ | ⟨bo, cap, cur, hv, hb, hh, hc, hm, hs, ht⟩⟩ := h
 ·have h4 := glC_flat xs;rw [h3] at hlen;have := (List.getElem?_eq_some_iff.1 hx).1;omega
 ·obtain ⟨b2, o2, c2, hv2, hcell⟩ := hL;rw [hv] at hv2;cases hv2;exact ⟨bo, cap, hv, heap_lt hh, hb, by simpa using hcell 0 _ rfl, by simpa using hcell 1 _ rfl, fun i => free_of_heap hh⟩
def RevTo (xs ys : List Gl) (i : Nat) : Prop := ys.length = xs.length ∧ ∀ k, k < xs.length → ys[k]? = xs[if k < i ∨ xs.length ≤ k + i then xs.length - 1 - k else k]?
theorem revTo_zero (xs : List Gl) : RevTo xs xs 0 := ⟨rfl, fun k hk => by rw [if_neg (by omega)]⟩
theorem revTo_succ {xs ys : List Gl} {i j : Nat} (h : RevTo xs ys i) (hij : i < j) (hj : j + i + 1 = xs.length) {a b : Gl} (ha : ys[i]? = some a) (hb : ys[j]? = some b) : RevTo xs ((ys.set i b).set j a) (i + 1) := by
 obtain ⟨h1, h2⟩ := h;refine ⟨by simpa using h1, fun k hk => ?_⟩
 have hi2 := h2 i (by omega)
 have hj2 := h2 j (by omega)
 rw [if_neg (by omega)] at hi2 hj2
 by_cases hkj : k = j
 ·subst hkj;rw [List.getElem?_set_self (by simp; omega), if_pos (by omega), ← ha, hi2]
  congr 1; omega
 ·rw [List.getElem?_set_ne (by omega)]
  by_cases hki : k = i
  ·subst hki;rw [List.getElem?_set_self (by omega), if_pos (by omega), ← hb, hj2]
   congr 1; omega
  ·rw [List.getElem?_set_ne (by omega), h2 k hk]
   by_cases hc : k < i ∨ xs.length ≤ k + i
   ·rw [if_pos hc, if_pos (by omega)]
   ·rw [if_neg hc, if_neg (by omega)]
theorem revTo_end {xs ys : List Gl} {i : Nat} (h : RevTo xs ys i) (hi : xs.length ≤ i + i + 1) : ys = xs.reverse := by
 obtain ⟨h1, h2⟩ := h;apply List.ext_getElem?;intro k;by_cases hk : k < xs.length
 ·rw [h2 k hk, List.getElem?_reverse hk];split
  ·rfl
  ·congr 1; omega
 ·rw [List.getElem?_eq_none (by omega), List.getElem?_eq_none (by simp; omega)]
set_option maxRecDepth 100000 in
set_option maxHeartbeats 4000000 in
theorem reverse_any (base : Nat) (sv : Value) (xs : List Gl) (n : Nat) (w : World) (ho : w.ownsRow base 78 2 sv n (xs.flatMap glC)) (hn : xs.length = n) (hn2 : n ≤ 4294967296) :
  Calls Tryz.prog 226 #[sv] w fun e w' => e = .returned (.tuple #[]) ∧ w'.ownsRow base 78 2 sv n (xs.reverse.flatMap glC) ∧ w.grownBy w' sv.ownBlock := by
 obtain ⟨ad, cp, rfl⟩ := own_slice ho;have HO := Bas.hid ho;have HN := Bas.hid hn;clear ho hn;go_enter Tryz.func226, Tryz.ntmps226
 go_wp2_with (fail);go_loopw [2, 3] (fun vi vj wr => ∃ (i : Nat) (ji : Int) (ys : List Gl), i ≤ n ∧ vi = .int .i64 i ∧ vj = .int .i64 ji ∧ ji = (n : Int) - 1 - i ∧ wr.ownsRow base 78 2 (.slice ad n cp) n (ys.flatMap glC) ∧ RevTo xs ys i ∧ w.grownBy wr (Value.ownBlock (.slice ad n cp))) (fun vi _ _ => n - (intOf vi).toNat)
 case atStart => exact ⟨0, (n : Int) - 1, xs, Nat.zero_le _, rfl, rfl, by omega, HO.out, revTo_zero xs, Bas.grefl _ _⟩
 case round =>
  obtain ⟨i, ji, ys, hi, rfl, rfl, hji, ho, hr, hg⟩ := hrel;have HOY := Bas.hid ho;have HR := Bas.hid hr;have HG := Bas.hid hg;by_cases hij : (i : Int) < ji
  ·obtain ⟨j, rfl⟩ := Int.eq_ofNat_of_zero_le (show 0 ≤ ji by omega)
   have e1 : decide ((i : Int) < (j : Int)) = true := by simp; omega
   have HJ := Bas.hid hji;have hyl := hr.1;have hjn : j < n := by omega
   have hin : i < n := by omega
   obtain ⟨⟨x0, x1⟩, hx⟩ : ∃ x, ys[i]? = some x := ⟨_, List.getElem?_eq_getElem (by rw [hyl, HN.out]; exact hin)⟩
   obtain ⟨⟨y0, y1⟩, hy⟩ : ∃ y, ys[j]? = some y := ⟨_, List.getElem?_eq_getElem (by rw [hyl, HN.out]; exact hjn)⟩
   obtain ⟨bo, cp', hv, hlt, hbb, c0, c1, hfr⟩ := own_cells ho hx;cases hv;obtain ⟨_, _, hv2, _, _, d0, d1, _⟩ := own_cells ho hy;cases hv2;have HX := Bas.hid hx;have HY := Bas.hid hy;have HYL := Bas.hid hyl;have e5 : decide ((i : Int) < (n : Int)) = true := by simp; omega
   have e6 : decide ((j : Int) < (n : Int)) = true := by simp; omega
   simp only at c0 c1 d0 d1;clear ho hr hg hji hx hy hfr hyl;go_wp2_with (fail);refine' Pl.region_v0 28 [2, 3] [0, 1, 4, 5, 6, 7, 8, 9, 10, 11, 12] [13, 14, 15] _ (by kernel_rfl) (by kernel_rfl) (by simp) (fun _ _ _ _ e h => ⟨e ▸ h.1, h.2⟩) ?_ ?_
   rotate_left
   ·intro I F hI hF;simp only [Pl.selN, List.nil_append, List.cons_append, List.drop_succ_cons, List.drop_zero];have t0 := fun i => hF.cell hlt c0 i
    have t1 := fun i => hF.cell hlt c1 i
    have t2 := fun i => hF.cell hlt d0 i
    have t3 := fun i => hF.cell hlt d1 i
    repeat (go_big_quiet_step (fail))
    refine wpQuiet_nil ?_;rfl
   intro w5 hw5;simp only [Pl.selN, List.drop_succ_cons, List.drop_zero];have HO5 := Bas.hid (Row.owned_below HOY.out hw5);have HG5 := Bas.hid (Bas.gbelow HG.out hw5);obtain ⟨_, _, hv3, hlt5, _, p0, p1, hfr⟩ := own_cells HO5.out HX.out;cases hv3;obtain ⟨_, _, hv4, _, _, q0, q1, _⟩ := own_cells HO5.out HY.out;cases hv4;have f0 := hfr (i * 2);have f1 := hfr (i * 2 + 1);have f2 := hfr (j * 2);have f3 := hfr (j * 2 + 1);have HS := Bas.hid (own_put2 HO5.out (k := i) (by rw [HYL.out, HN.out]; exact hin) y0 y1)
   have HS2 := Bas.hid (own_put2 HS.out (k := j) (by rw [List.length_set, HYL.out, HN.out]; exact hjn) x0 x1)
   have HGS := Bas.hid (Bas.gset (Bas.gset (Bas.gset (Bas.gset HG5.out (i * 2) (.int .i64 y0)) (i * 2 + 1) (.int .i64 y1)) (j * 2) (.int .i64 x0)) (j * 2 + 1) (.int .i64 x1));simp only at p0 p1 q0 q1;clear hw5 hfr HS c0 c1 d0 d1 hlt;go_wp2_with (fail);go_roundw
   case rel =>
    exact ⟨i + 1, (j : Int) - 1, _, by omega, by go_num, by go_num, by have := HJ.out; omega, HS2.out, revTo_succ HR.out (by omega) (by rw [HN.out]; have := HJ.out; omega) HX.out HY.out, HGS.out⟩
   case measure => simp [intOf]; omega
  ·have e1 : decide ((i : Int) < ji) = false := by simp; omega
   have HF : Hid (ys = xs.reverse) := revTo_end HR.out (by rw [HN.out]; omega)
   clear ho hr hg hji;go_wp2_with (fail)
   go_end0
   exact ⟨rfl, HF.out ▸ HOY.out, HG.out⟩
theorem clean1_any (a b : Int) (w : World) : Calls Tryz.prog 181 #[.agg #[.int .i64 a, .int .i64 b]] w fun e w' => e = .returned (.bool (decide (a = 65535))) ∧ Below w.heap.size w w' := by
 have HB := Bas.hid ((Below.refl w.heap.size w).alloc (Nat.le_refl _) (.cells #[.int .i64 a, .int .i64 b] 78));have k := Bas.heap_new w (.cells #[.int .i64 a, .int .i64 b] 78);have c0 := cell_of_heap (i := 0) k rfl;have lk := heap_lt k;clear k;go_enter Tryz.func181, Tryz.ntmps181
 go_wp2_with (fail);go_ret;exact ⟨by simp; rfl, HB.out⟩
def IdxP (w : World) (xs : List Gl) (e : Ending) (w' : World) : Prop :=
 Below w.heap.size w w' ∧ ((∃ k x, e = .returned (.int .i64 (k : Nat)) ∧ xs[k]? = some x ∧ x.1 = 65535 ∧ ∀ (j : Nat) (y : Gl), j < k → xs[j]? = some y → y.1 ≠ 65535) ∨ (e = .returned (.int .i64 (-1)) ∧ ∀ (j : Nat) (y : Gl), xs[j]? = some y → y.1 ≠ 65535))
set_option maxRecDepth 100000 in
theorem index_any (ad : Option Addr) (cp : Nat) (xs : List Gl) (n : Nat) (w : World) (hl : Row.Leads w (.slice ad n cp) n (xs.flatMap glC)) (hn : xs.length = n) (hn2 : n ≤ 4294967296) :
  Calls Tryz.prog 227 #[.slice ad n cp, .func (.func 181) #[] #[]] w (IdxP w xs) := by
 have HL := Bas.hid hl;have HN := Bas.hid hn;clear hl hn;go_enter Tryz.func227, Tryz.ntmps227
 go_wp2_with (fail);go_loopw [8] (fun vi wr => ∃ i : Nat, i ≤ n ∧ vi = .int .i64 i ∧ Below w.heap.size w wr ∧ ∀ (j : Nat) (y : Gl), j < i → xs[j]? = some y → y.1 ≠ 65535) (fun vi _ => n - (intOf vi).toNat)
 case atStart => exact ⟨0, Nat.zero_le _, rfl, Below.refl _ _, fun j y h => by omega⟩
 case round =>
  obtain ⟨i, hi, rfl, hb, hno⟩ := hrel;have HB := Bas.hid hb;have HNO := Bas.hid hno;by_cases hin : i < n
  ·have e1 : decide ((i : Int) < (n : Int)) = true := by simp; omega
   have e2 : decide (i < n) = true := by simp; omega
   obtain ⟨⟨x0, x1⟩, hx⟩ : ∃ x, xs[i]? = some x := ⟨_, List.getElem?_eq_getElem (by rw [HN.out]; exact hin)⟩
   obtain ⟨b, o, c, hv, hc⟩ := Row.leads_elem glC_len (Row.leads_below HL.out hb) hx (by omega)
   cases hv;have d0 := hc 0 _ rfl;have d1 := hc 1 _ rfl;simp only [Nat.add_zero] at d0;have lb := World.block_lt_of_cell? _ _ d0;have HX := Bas.hid hx;have HC := Bas.hid (clean1_any x0 x1 wr);clear hb hno hc hx;go_wp2_with (fail);refine HC.out.mono ?_;rintro e w2 ⟨rfl, hb2⟩;have HB2 := Bas.hid (HB.out.trans (hb2.mono HB.out.size));clear hb2 HC d0 d1 lb;by_cases h5 : x0 = 65535
   ·have e5 : decide (x0 = 65535) = true := decide_eq_true h5;have H5 := Bas.hid h5;clear h5;go_wp2_with (fail);go_ret;exact ⟨HB2.out, .inl ⟨i, (x0, x1), rfl, HX.out, H5.out, HNO.out⟩⟩
   ·have e5 : decide (x0 = 65535) = false := decide_eq_false h5;have HNO2 : Hid (∀ (j : Nat) (y : Gl), j < i + 1 → xs[j]? = some y → y.1 ≠ 65535) := fun j y hj hy => by
     by_cases hji : j = i
     ·subst hji; rw [HX.out] at hy; cases hy; exact h5
     ·exact HNO.out j y (by omega) hy
    clear h5;go_wp2_with (fail);go_roundw
    case rel => exact ⟨i + 1, by omega, by go_num, HB2.out, HNO2.out⟩
    case measure => simp [intOf]; omega
  ·have e1 : decide ((i : Int) < (n : Int)) = false := by simp; omega
   have e2 : decide (i < n) = false := by simp; omega
   have e3 : ¬ (i : Int) < (n : Int) := by omega
   have HALL : Hid (∀ (j : Nat) (y : Gl), xs[j]? = some y → y.1 ≠ 65535) := fun j y hy => HNO.out j y (by have := (List.getElem?_eq_some_iff.1 hy).1; rw [HN.out] at this; omega) hy
   clear hb hno;go_wp2_with (fail);go_ret;exact ⟨HB.out, .inr ⟨rfl, HALL.out⟩⟩
theorem flat_take (xs : List Gl) (k : Nat) : (xs.flatMap glC).take (k * 2) = (xs.take k).flatMap glC := by
 induction xs generalizing k with
 | nil => simp
 | cons x xs ih =>
  cases k with
  | zero => simp
  | succ k =>
   rw [List.flatMap_cons, show (k + 1) * 2 = (glC x).length + k * 2 by rw [glC_len]; omega, List.take_length_add_append, ih, List.take_succ_cons, List.flatMap_cons]
theorem splice_lo {l cs : List Value} {o k : Nat} (hk : k ≤ o) (ho : o ≤ l.length) : (l.take o ++ cs ++ l.drop (o + cs.length)).take k = l.take k := by
 rw [List.append_assoc, List.take_append_of_le_length (by rw [List.length_take]; omega), List.take_take, Nat.min_eq_left hk]
theorem splice_len {l cs : List Value} {o : Nat} (ho : o + cs.length ≤ l.length) : (l.take o ++ cs ++ l.drop (o + cs.length)).length = l.length := by
 rw [List.length_append, List.length_append, List.length_take, List.length_drop]; omega
theorem clean_all {xs : List Gl} (h : ∀ (j : Nat) (y : Gl), xs[j]? = some y → y.1 ≠ 65535) : cleanL xs = xs := by
 unfold cleanL;rw [List.filter_eq_self];intro y hy;obtain ⟨j, hj⟩ := List.getElem?_of_mem hy;simpa using h j y hj
theorem clean_snoc (xs : List Gl) (j : Nat) (y : Gl) (h : xs[j]? = some y) : cleanL (xs.take (j + 1)) = if y.1 = 65535 then cleanL (xs.take j) else cleanL (xs.take j) ++ [y] := by
 unfold cleanL;rw [List.take_add_one, h, List.filter_append];split <;> rename_i hy <;> simp [hy]
structure DelTo (xs ys : List Gl) (i j : Nat) : Prop where
 len : ys.length = xs.length
 pre : ys.take i = cleanL (xs.take j)
 at' : i ≤ j
 post : ∀ k, j ≤ k → ys[k]? = xs[k]?
theorem DelTo.skip {xs ys : List Gl} {i j : Nat} (h : DelTo xs ys i j) {y : Gl} (hy : xs[j]? = some y) (hd : y.1 = 65535) : DelTo xs ys i (j + 1) :=
 ⟨h.len, by rw [clean_snoc xs j y hy, if_pos hd]; exact h.pre, by have := h.at'; omega, fun k hk => h.post k (by omega)⟩
theorem DelTo.keep {xs ys : List Gl} {i j : Nat} (h : DelTo xs ys i j) {y : Gl} (hy : xs[j]? = some y) (hd : y.1 ≠ 65535) : DelTo xs (ys.set i y) (i + 1) (j + 1) := by
 have hj := (List.getElem?_eq_some_iff.1 hy).1;have h3 := h.at';have h1 := h.len;refine ⟨by simpa using h1, ?_, by omega, fun k hk => by rw [List.getElem?_set_ne (by omega)]; exact h.post k (by omega)⟩
 rw [clean_snoc xs j y hy, if_neg hd, ← h.pre, List.take_add_one, List.getElem?_set_self (by omega), List.take_set, List.set_eq_of_length_le (by rw [List.length_take]; exact Nat.min_le_left _ _)]
 rfl
theorem delTo_start {xs : List Gl} {k : Nat} {x : Gl} (hx : xs[k]? = some x) (h5 : x.1 = 65535) (hno : ∀ (j : Nat) (y : Gl), j < k → xs[j]? = some y → y.1 ≠ 65535) : DelTo xs xs k (k + 1) := by
 refine ⟨rfl, ?_, by omega, fun _ _ => rfl⟩
 rw [clean_snoc xs k x hx, if_pos h5, clean_all];intro j y hy;rw [List.getElem?_take] at hy;split at hy
 ·rename_i hj; exact hno j y hj hy
 ·cases hy
set_option maxRecDepth 100000 in
set_option maxHeartbeats 4000000 in
theorem delete_any (base : Nat) (sv : Value) (xs : List Gl) (n : Nat) (w : World) (ho : w.ownsRow base 78 2 sv n (xs.flatMap glC)) (hn : xs.length = n) (hn2 : n ≤ 4294967296) :
  Calls Tryz.prog 180 #[sv, .func (.func 181) #[] #[]] w fun e w' => ∃ sv', e = .returned sv' ∧ w'.ownsRow base 78 2 sv' (cleanL xs).length ((cleanL xs).flatMap glC) ∧ w.grownBy w' sv.ownBlock ∧ sv'.ownBlock = sv.ownBlock := by
 obtain ⟨ad, cp, rfl⟩ := own_slice ho;have HO := Bas.hid ho;have HN := Bas.hid hn;have HIX := Bas.hid (index_any ad cp xs n w (Row.leads_owned ho) hn hn2);clear ho hn;go_enter Tryz.func180, Tryz.ntmps180
 go_wp2_with (fail);refine HIX.out.mono ?_;rintro e w1 ⟨hb1, ⟨k, x, rfl, hx, h5, hno⟩ | ⟨rfl, hno⟩⟩
 ·have hk := (List.getElem?_eq_some_iff.1 hx).1;rw [HN.out] at hk;have HD := Bas.hid (delTo_start hx h5 hno);have HO1 := Bas.hid (Row.owned_below HO.out hb1);have HG1 := Bas.hid (Bas.gbelow (Bas.grefl w (Value.ownBlock (.slice ad n cp))) hb1);have e0 : ((k : Int) == -1) = false := beq_eq_false_iff_ne.2 (by omega)
  clear hx h5 hno hb1 HIX;go_wp2_with (fail);go_loopw [5, 6] (fun vi vj wr => ∃ (i j : Nat) (ys : List Gl), j ≤ n ∧ vi = .int .i64 i ∧ vj = .int .i64 j ∧ wr.ownsRow base 78 2 (.slice ad n cp) n (ys.flatMap glC) ∧ DelTo xs ys i j ∧ w.grownBy wr (Value.ownBlock (.slice ad n cp))) (fun _ vj _ => n - (intOf vj).toNat)
  case atStart => exact ⟨k, k + 1, xs, by omega, rfl, rfl, HO1.out, HD.out, HG1.out⟩
  case round =>
   obtain ⟨i, j, ys, hj, rfl, rfl, hoy, hd, hg⟩ := hrel;have HOY := Bas.hid hoy;have HDY := Bas.hid hd;have HGY := Bas.hid hg;have hij := hd.at';by_cases hjn : j < n
   ·have e1 : decide ((j : Int) < (n : Int)) = true := by simp; omega
    have hyl := hd.len;rw [HN.out] at hyl;obtain ⟨⟨y0, y1⟩, hy⟩ : ∃ y, ys[j]? = some y := ⟨_, List.getElem?_eq_getElem (by rw [hyl]; exact hjn)⟩
    have HXJ := Bas.hid ((hd.post j (Nat.le_refl _)).symm.trans hy);obtain ⟨bo, cp', hv, hlt, hbb, c0, c1, hfr⟩ := own_cells hoy hy;cases hv;have HYL := Bas.hid hyl;simp only at c0 c1;have k1 := Bas.heap_new wr (.cells #[.int .i64 y0, .int .i64 y1] 78);have hb1 := (Below.refl wr.heap.size wr).alloc (Nat.le_refl _) (.cells #[.int .i64 y0, .int .i64 y1] 78);clear hoy hd hg hfr hyl hy;go_wp2_with (fail);refine (clean1_any y0 y1 _).mono ?_;rintro e w2 ⟨rfl, hb2⟩;have hb3 := hb1.trans (hb2.mono hb1.size);have HOY2 := Bas.hid (Row.owned_below HOY.out hb3);have HGY2 := Bas.hid (Bas.gbelow HGY.out hb3);have kT := (hb2.block _ (heap_lt k1)).trans k1;clear hb1 hb2 hb3 k1 HOY HGY c0 c1 hlt;by_cases h5 : y0 = 65535
    ·have e5 : decide (y0 = 65535) = true := decide_eq_true h5;have HD2 := Bas.hid (HDY.out.skip HXJ.out h5);clear h5 kT;go_wp2_with (fail);go_roundw
     case rel => exact ⟨i, j + 1, ys, by omega, rfl, by go_num, HOY2.out, HD2.out, HGY2.out⟩
     case measure => simp [intOf]; omega
    ·have e5 : decide (y0 = 65535) = false := decide_eq_false h5;have HD2 := Bas.hid (HDY.out.keep HXJ.out h5);have hin : i < n := by omega
     obtain ⟨⟨x0, x1⟩, hx⟩ : ∃ x, ys[i]? = some x := ⟨_, List.getElem?_eq_getElem (by rw [HYL.out]; exact hin)⟩
     obtain ⟨_, _, hv3, hlt5, _, p0, p1, hfr⟩ := own_cells HOY2.out hx;cases hv3;have f0 := hfr (i * 2);have f1 := hfr (i * 2 + 1);have e6 : decide ((i : Int) < (n : Int)) = true := by simp; omega
     have HS := Bas.hid (own_put2 HOY2.out (k := i) (by rw [HYL.out]; exact hin) y0 y1)
     have HGS := Bas.hid (Bas.gset (Bas.gset HGY2.out (i * 2) (.int .i64 y0)) (i * 2 + 1) (.int .i64 y1));have t0 := cell_of_heap (i := 0) kT rfl;have t1 := cell_of_heap (i := 1) kT rfl;have lT := heap_lt kT;clear h5 kT hfr hx;go_wp2_with (fail);go_roundw
     case rel => exact ⟨i + 1, j + 1, _, by omega, by go_num, by go_num, HS.out, HD2.out, HGS.out⟩
     case measure => simp [intOf]; omega
   ·have e1 : decide ((j : Int) < (n : Int)) = false := by simp; omega
    have hjn2 : j = n := by omega
    have HF : Hid (ys.take i = cleanL xs) := by
     have h := HDY.out.pre;rw [hjn2, List.take_of_length_le (l := xs) (by rw [HN.out]; exact Nat.le_refl _)] at h
     exact h
    have hyl := hd.len;rw [HN.out] at hyl;have HYL := Bas.hid hyl;obtain ⟨b, cp2, cur, h1, hbb, hraw, hncp, hcpm, hcl, hct⟩ := raw_of_owned hoy (by omega)
    cases h1;have HRAW := Bas.hid hraw;have HCT := Bas.hid hct;have HCL := Bas.hid hcl;have HCM := Bas.hid hcpm;have hin : i ≤ n := by omega
    have hk1 : i < n ∨ i = n := by omega
    have HLC : Hid ((cleanL xs).length = i) := by unfold Hid; rw [← HF.out, List.length_take]; omega
    have hcp63 : cp ≤ 9223372036854775807 := by unfold maxLen at hcpm; omega
    have HTK : Hid (cur.take (i * 2) = (cleanL xs).flatMap glC) := by
     unfold Hid;have h : (cur.take (n * 2)).take (i * 2) = (ys.flatMap glC).take (i * 2) := by rw [HCT.out]
     rw [List.take_take, Nat.min_eq_left (by omega), flat_take, HF.out] at h
     exact h
    rcases Nat.eq_or_lt_of_le (Nat.le_trans hin hncp) with hic | hic
    ·have hcn : n = cp := by omega
     subst hcn;subst hic;clear hoy hd hg hyl hraw hcpm hcl hct hjn2 hij;go_wp2_with (fail);have hz : ∀ ty, (Builtin.clear_ #[248] ty #[.slice (some ⟨b, 0, none⟩) 0 0]).run Tryz.prog wr = .ok (.tuple #[]) wr := fun ty => by
      rw [run_clear_gl wr ty b 0 0 0 (fun j hj => by omega) (fun j hj => by omega)]
      simp [Builtin.zeroCells, World.setCells]
     rw [hz];clear hz;go_wp2_with (fail);go_ret;refine ⟨_, rfl, ?_, ?_, rfl⟩
     ·rw [HLC.out];exact HRAW.out.owned hbb (Nat.le_refl _) HCM.out HCL.out _ HTK.out
     ·exact HGY.out
    ·have hrun := run_clear_gl wr 0 b (i * 2) (n - i) (cp - i) (fun j hj => by
      have : i * 2 + j < cur.length := by omega
      rw [hraw.cell (List.getElem?_eq_getElem this)];rfl) (fun j _ => hraw.free _)
     have hlen : (Builtin.zeroCells (Value.agg #[.int .i64 0, .int .i64 0]).cells (n - i)).toList.length = (n - i) * 2 := zeroCells_len _ _;have HR2 := Bas.hid (hraw.set (i * 2) _ (by rw [hlen]; omega))
     have HG2 := Bas.hid (setCells_grown HGY.out (i * 2) (Builtin.zeroCells (Value.agg #[.int .i64 0, .int .i64 0]).cells (n - i)).toList);generalize (Builtin.zeroCells (Value.agg #[.int .i64 0, .int .i64 0]).cells (n - i)).toList = zs at *;have HZ := Bas.hid hlen;have HRUN := Bas.hid hrun;clear hoy hd hg hyl hraw hcpm hcl hct hjn2 hij hlen hrun;go_wp2_with (fail);rw [HRUN.out];go_wp2_with (fail);go_ret;refine ⟨_, rfl, ?_, HG2.out, rfl⟩;rw [HLC.out];have hcl := HCL.out;refine HR2.out.owned hbb (Nat.le_of_lt hic) HCM.out (by rw [splice_len (by rw [HZ.out]; omega)]; exact HCL.out) _ ?_
     rw [splice_lo (Nat.le_refl _) (by omega)]
     exact HTK.out
 ·have HC := Bas.hid (clean_all hno);have HO1 := Bas.hid (Row.owned_below HO.out hb1);have HG1 := Bas.hid (Bas.gbelow (Bas.grefl w (Value.ownBlock (.slice ad n cp))) hb1);clear hno hb1 HIX;go_wp2_with (fail);go_ret;refine ⟨_, rfl, ?_, HG1.out, rfl⟩;rw [HC.out, HN.out];exact HO1.out
theorem lnTo_same {w w' : World} {base g : Nat} {sv : Value} {xs ys : List Gl} (h : LineAt w base g sv xs) (ho : w'.ownsRow base 78 2 sv ys.length (ys.flatMap glC)) (hg : w.grownBy w' sv.ownBlock) : LnTo w base g sv ys w' :=
 ⟨sv, ⟨(hg.block g h.lt (fun e => h.ne e.symm)).trans h.head, ho, h.low⟩, Mod.of_grown hg (fun _k hk => .inr hk), fun _ h => .inl h⟩
theorem lnTo_store {w w' : World} {base g : Nat} {sv sv' : Value} {xs ys : List Gl} (h : LineAt w base g sv xs) (ho : w'.ownsRow base 78 2 sv' ys.length (ys.flatMap glC)) (hg : w.grownBy w' sv.ownBlock)
  (hat : sv'.ownBlock = sv.ownBlock ∨ ∃ k, sv'.ownBlock = some k ∧ w.heap.size ≤ k) : LnTo w base g sv ys (w'.setCell ⟨g, 0, none⟩ sv') := by
 have h7 := (hg.block g h.lt (fun e => h.ne e.symm)).trans h.head
 have k8 := heap_set (i := 0) h7 sv';refine ⟨sv', ⟨k8, ?_, h.low⟩, (Mod.of_grown hg (fun k hk => .inr hk)).set (S := blk g sv) sv' (.inl (.inl rfl)), fun k hk => ?_⟩
 ·exact Row.owned_keep ho fun k hk => Below.heap_setCell _ _ _ _ (fun e => own_ty ho h7 (by decide) (by rw [hk, e]))
 ·rcases hat with h1 | ⟨k', h1, h2⟩
  ·exact .inl (h1 ▸ hk)
  ·rw [h1] at hk; cases hk; exact .inr h2
theorem turn_any (base g : Nat) (sv : Value) (xs : List Gl) (w : World) (h : LineAt w base g sv xs) (hn : xs.length ≤ 4294967296) :
  Calls Tryz.prog 179 #[.pointer (some ⟨g, 0, none⟩)] w fun e w' => e = .returned (.tuple #[]) ∧ LnTo w base g sv xs.reverse w' := by
 have HC := Bas.hid (reverse_any base sv xs xs.length w h.own rfl hn);have HH := Bas.hid h;obtain ⟨ad, cp, rfl⟩ := own_slice h.own;have g0 := cell_of_heap (i := 0) (v := .slice ad xs.length cp) h.head rfl;have lg := h.lt;clear h;go_enter Tryz.func179, Tryz.ntmps179
 go_wp2_with (fail);refine HC.out.mono ?_;rintro e w2 ⟨rfl, ho, hg⟩;have HR := Bas.hid (lnTo_same HH.out (by rw [List.length_reverse]; exact ho) hg)
 clear ho hg HC;go_wp2_with (fail)
 go_end0
 exact ⟨rfl, HR.out⟩
theorem clean_any (base g : Nat) (sv : Value) (xs : List Gl) (w : World) (h : LineAt w base g sv xs) (hn : xs.length ≤ 4294967296) :
  Calls Tryz.prog 119 #[.pointer (some ⟨g, 0, none⟩)] w fun e w' => e = .returned (.tuple #[]) ∧ LnTo w base g sv (cleanL xs) w' := by
 have HC := Bas.hid (delete_any base sv xs xs.length w h.own rfl hn);have HH := Bas.hid h;obtain ⟨ad, cp, rfl⟩ := own_slice h.own;have g0 := cell_of_heap (i := 0) (v := .slice ad xs.length cp) h.head rfl;have lg := h.lt;clear h;go_enter Tryz.func119, Tryz.ntmps119
 go_wp2_with (fail);refine HC.out.mono ?_;rintro e w2 ⟨sv2, rfl, ho, hg, hat⟩;obtain ⟨ad2, cp2, rfl⟩ := own_slice ho;have HR := Bas.hid (lnTo_store HH.out ho hg (.inl hat));have k7 := (hg.block g HH.out.lt (fun e => HH.out.ne e.symm)).trans HH.out.head
 have c0 := cell_of_heap (i := 0) k7 rfl;have f0 := free_of_heap (i := 0) k7;have lk := heap_lt k7;clear ho hg HC g0 lg k7 hat;go_wp2_with (fail)
 go_end0
 exact ⟨rfl, HR.out⟩
end Ln
namespace Rr
open Vw Sk Ch Lk St
def RearAt (w : World) (v : Value) (M : MachD) : Prop := ∃ g gm, v = .pointer (some ⟨g, 0, none⟩) ∧ w.heap[g]? = some (.cells #[.pointer (some ⟨gm, 0, none⟩)] 423 (0, 0)) ∧ MachAt w (.pointer (some ⟨gm, 0, none⟩)) M
theorem RearAt.below {w w' : World} {v : Value} {M : MachD} (h : RearAt w v M) (hb : Below w.heap.size w w') : RearAt w' v M := by
 obtain ⟨g, gm, h1, h2, h3⟩ := h;exact ⟨g, gm, h1, (hb.block _ (heap_lt h2)).trans h2, h3.below hb⟩
end Rr
namespace Ln
open Ch
theorem LnTo.behind {w w1 w' : World} {base g : Nat} {sv : Value} {ys : List Gl} (hb : Below w.heap.size w w1) (h : LnTo w1 base g sv ys w') : LnTo w base g sv ys w' := by
 obtain ⟨sv', h1, h2, h3⟩ := h;exact ⟨sv', h1, (Mod.of_below hb).trans h2 (fun _ h _ => h), fun k hk => (h3 k hk).imp id (fun h => Nat.le_trans hb.size h)⟩
end Ln
namespace Ln
theorem LnTo.step {w wr w' : World} {base g : Nat} {sv sv' : Value} {zs : List Gl} (hg : g < w.heap.size) (hm : Mod (blk g sv) w wr) (ho : ∀ k, sv'.ownBlock = some k → sv.ownBlock = some k ∨ w.heap.size ≤ k) (h : LnTo wr base g sv' zs w') : LnTo w base g sv zs w' := by
 obtain ⟨sv2, h1, h2, h3⟩ := h;refine ⟨sv2, h1, hm.trans h2 (fun k hk hlt => ?_), fun k hk => ?_⟩
 ·rcases hk with rfl | hk
  ·exact .inl rfl
  ·rcases ho k hk with h | h
   ·exact .inr h
   ·omega
 ·rcases h3 k hk with h | h
  ·exact ho k h
  ·exact .inr (Nat.le_trans hm.size h)
end Ln
namespace Sw
open Vw Ch Lk Ln
def SwapAt (w : World) (v : Value) (ps : List PartD) : Prop := ∃ g lk, v = .pointer (some ⟨g, 0, none⟩) ∧ w.heap[g]? = some (.cells #[.pointer (some ⟨lk, 0, none⟩)] 445 (0, 0)) ∧ LkAt w (.pointer (some ⟨lk, 0, none⟩)) ps
theorem SwapAt.below {w w' : World} {v : Value} {ps : List PartD} (h : SwapAt w v ps) (hb : Below w.heap.size w w') : SwapAt w' v ps := by
 obtain ⟨g, lk, h1, h2, h3⟩ := h;exact ⟨g, lk, h1, (hb.block _ (heap_lt h2)).trans h2, h3.below hb⟩
end Sw
namespace Cx
open Vw Ch Lk St Ln Dr
structure CtxD where
 m : MachD
 subs : List (List PartD)
def CtxAt (w : World) (v : Value) (T : CtxD) : Prop :=
 ∃ g gm vs us, v = .pointer (some ⟨g, 0, none⟩) ∧ w.heap[g]? = some (.cells #[.pointer (some ⟨gm, 0, none⟩), vs] 434 (0, 0)) ∧ MachAt w (.pointer (some ⟨gm, 0, none⟩)) T.m ∧ us.length = T.subs.length ∧ Row.Leads w vs T.subs.length us ∧
  ∀ (i : Nat) (ps : List PartD) (u : Value), T.subs[i]? = some ps → us[i]? = some u → LkAt w u ps
theorem CtxAt.below {w w' : World} {v : Value} {T : CtxD} (h : CtxAt w v T) (hb : Below w.heap.size w w') : CtxAt w' v T := by
 obtain ⟨g, gm, vs, us, h1, h2, h3, h4, h5, h6⟩ := h;exact ⟨g, gm, vs, us, h1, (hb.block _ (heap_lt h2)).trans h2, h3.below hb, h4, Row.leads_below h5 hb, fun i ps u hi hu => (h6 i ps u hi hu).below hb⟩
end Cx
namespace In
open Vw Ch Lk St Ln Dr
structure InsD where
 m : MachD
 list : List Int
def InsAt (w : World) (v : Value) (T : InsD) : Prop :=
 ∃ g gm S len cap, v = .pointer (some ⟨g, 0, none⟩) ∧ w.heap[g]? = some (.cells #[.pointer (some ⟨gm, 0, none⟩), .slice S len cap] 448 (0, 0)) ∧ MachAt w (.pointer (some ⟨gm, 0, none⟩)) T.m ∧ VB w S T.list ∧ T.list.length = len ∧ len ≤ cap ∧ cap ≤ maxLen
theorem InsAt.below {w w' : World} {v : Value} {T : InsD} (h : InsAt w v T) (hb : Below w.heap.size w w') : InsAt w' v T := by
 obtain ⟨g, gm, S, len, cap, h1, h2, h3, h4, h5, h6, h7⟩ := h;exact ⟨g, gm, S, len, cap, h1, (hb.block _ (heap_lt h2)).trans h2, h3.below hb, h4.below hb, h5, h6, h7⟩
end In
namespace Dr
end Dr
namespace Lg
open Vw Ch Lk St Ln Dr
structure LigD where
 m : MachD
 act : List Int
 comp : List Int
 lig : List Int
def LigAt (w : World) (v : Value) (T : LigD) : Prop :=
 ∃ g gm S1 l1 S2 l2 S3 l3, v = .pointer (some ⟨g, 0, none⟩) ∧ w.heap[g]? = some (.cells #[.pointer (some ⟨gm, 0, none⟩), .slice S1 l1 l1, .slice S2 l2 l2, .slice S3 l3 l3] 439 (0, 0)) ∧ MachAt w (.pointer (some ⟨gm, 0, none⟩)) T.m ∧
  (VB w S1 T.act ∧ T.act.length = l1 ∧ l1 ≤ maxLen) ∧ (VB w S2 T.comp ∧ T.comp.length = l2 ∧ l2 ≤ maxLen) ∧ VB w S3 T.lig ∧ T.lig.length = l3 ∧ l3 ≤ maxLen
theorem LigAt.below {w w' : World} {v : Value} {T : LigD} (h : LigAt w v T) (hb : Below w.heap.size w w') : LigAt w' v T := by
 obtain ⟨g, gm, S1, l1, S2, l2, S3, l3, h1, h2, h3, ⟨a1, a2, a3⟩, ⟨b1, b2, b3⟩, c1, c2, c3⟩ := h;exact ⟨g, gm, S1, l1, S2, l2, S3, l3, h1, (hb.block _ (heap_lt h2)).trans h2, h3.below hb, ⟨a1.below hb, a2, a3⟩, ⟨b1.below hb, b2, b3⟩, c1.below hb, c2, c3⟩
end Lg
namespace Cov
theorem fits_eq (kind : Int) (v back : Bool) (d : Int) (b : Bool) (hb : fits v d = b) (w : World) :
  Calls Tryz.prog 177 #[.agg #[.int .i64 kind, .bool v, .bool back], .int .i64 d] w fun e w' => e = .returned (.bool b) ∧ Below w.heap.size w w' := hb ▸ fits_any kind v back d w
set_option maxHeartbeats 400000 in
theorem mruns_any (kind : Int) (v back both logical : Bool) (d : Int) (w : World) :
  Calls Tryz.prog 117 #[.agg #[.int .i64 kind, .bool v, .bool back, .bool both, .bool logical], .int .i64 d] w fun e w' => e = .returned (.bool (runsM v both d)) ∧ Below w.heap.size w w' := by
 cases hf : fits v d <;> cases hi : isDir d <;> cases both
 all_goals
  go_enter Tryz.func117, Tryz.ntmps117
  go_wp2_with (first | (go_at_call 177; refine (fits_eq _ _ _ _ _ hf _).mono ?_; rintro e w1 ⟨rfl, hb1⟩; obtain ⟨hc1, hf1⟩ := Bas.bcell hb1) | (go_at_call 13; refine (is_eq _ _ hi _).mono ?_; rintro e w' ⟨rfl, rfl⟩));go_ret;exact ⟨by simp [runsM, hf, hi], ((Below.refl _ _).alloc (Nat.le_refl _) _).trans (hb1.mono (by simp))⟩
set_option maxHeartbeats 400000 in
theorem mturned_any (kind : Int) (v back both logical : Bool) (d : Int) (w : World) :
  Calls Tryz.prog 178 #[.agg #[.int .i64 kind, .bool v, .bool back, .bool both, .bool logical], .int .i64 d] w fun e w' => e = .returned (.bool (turnedM back logical d)) ∧ Below w.heap.size w w' := by
 cases logical
 all_goals
  go_enter Tryz.func178, Tryz.ntmps178
  go_wp2;go_ret;exact ⟨by cases back <;> simp [turnedM], ((Below.refl _ _).alloc (Nat.le_refl _) _)⟩
end Cov
namespace Mx
open Vw Ch Lk St Ln Dr Rr Sw Cx In Lg
inductive WkD where
 | rear (M : MachD)
 | ctx (T : CtxD)
 | lig (T : LigD)
 | swap (ps : List PartD)
 | ins (T : InsD)
 | none
def PlainAt (w : World) (fv : Value) (K : Nat) (first : Array Value) : Prop :=
 ∃ B, fv = .func (.func 191) #[] #[.pointer (some ⟨B, 0, none⟩)] ∧ w.heap[B]? = some (.cells #[.func (.func K) first #[]] 369 (0, 0))
def WorkAt (w : World) (fv : Value) : WkD → Prop
 | .rear M => ∃ v, PlainAt w fv 149 #[v] ∧ RearAt w v M
 | .ctx T => ∃ v, PlainAt w fv 151 #[v] ∧ CtxAt w v T
 | .lig T => ∃ v, PlainAt w fv 153 #[v] ∧ LigAt w v T
 | .swap ps => ∃ v, PlainAt w fv 155 #[v] ∧ SwapAt w v ps
 | .ins T => ∃ v, fv = .func (.func 157) #[v] #[] ∧ InsAt w v T
 | .none => PlainAt w fv 158 #[]
theorem PlainAt.below {w w' : World} {fv : Value} {K : Nat} {first : Array Value} (h : PlainAt w fv K first) (hb : Below w.heap.size w w') : PlainAt w' fv K first := by
 obtain ⟨B, h1, h2⟩ := h;exact ⟨B, h1, (hb.block _ (heap_lt h2)).trans h2⟩
theorem WorkAt.below {w w' : World} {fv : Value} : ∀ {k : WkD}, WorkAt w fv k → Below w.heap.size w w' → WorkAt w' fv k
 | .rear _, ⟨v, h1, h2⟩, hb => ⟨v, h1.below hb, h2.below hb⟩
 | .ctx _, ⟨v, h1, h2⟩, hb => ⟨v, h1.below hb, h2.below hb⟩
 | .lig _, ⟨v, h1, h2⟩, hb => ⟨v, h1.below hb, h2.below hb⟩
 | .swap _, ⟨v, h1, h2⟩, hb => ⟨v, h1.below hb, h2.below hb⟩
 | .ins _, ⟨v, h1, h2⟩, hb => ⟨v, h1, h2.below hb⟩
 | .none, h, hb => PlainAt.below h hb
structure MSub where
 cover : Int
 flags : Int
 wk : WkD
structure MChain where
 first : Int
 rules : List RuleD
 subs : List MSub
def mSubC (x : MSub × Value) : List Value := [.int .i64 (x.1.cover % 256), .bool (Cov.bitB x.1.cover 31), .bool (Cov.bitB x.1.cover 30), .bool (Cov.bitB x.1.cover 29), .bool (Cov.bitB x.1.cover 28), .int .u32 x.1.flags, x.2]
theorem mSubC_len (x : MSub × Value) : (mSubC x).length = 7 := rfl
def linkC (x : MChain × (Value × Value)) : List Value := [.int .u32 x.1.first, x.2.1, x.2.2]
theorem linkC_len (x : MChain × (Value × Value)) : (linkC x).length = 3 := rfl
def LinkAt (u : World) (c : MChain) (r : Value × Value) : Prop :=
 Row.Leads u r.1 c.rules.length (rulesC c.rules) ∧ ∃ fvs, fvs.length = c.subs.length ∧ Row.Leads u r.2 c.subs.length ((c.subs.zip fvs).flatMap mSubC) ∧
  ∀ (j : Nat) (s : MSub) (f : Value), c.subs[j]? = some s → fvs[j]? = some f → WorkAt u f s.wk
def MorxAt (w : World) (v : Value) (T : List MChain) : Prop :=
 ∃ g vl rs, v = .pointer (some ⟨g, 0, none⟩) ∧ w.heap[g]? = some (.cells #[vl] 214 (0, 0)) ∧ rs.length = T.length ∧ Row.Leads w vl T.length ((T.zip rs).flatMap linkC) ∧
  ∀ (i : Nat) (c : MChain) (r : Value × Value), T[i]? = some c → rs[i]? = some r → LinkAt w c r
theorem LinkAt.below {w w' : World} {c : MChain} {r : Value × Value} (h : LinkAt w c r) (hb : Below w.heap.size w w') : LinkAt w' c r := by
 obtain ⟨h1, fvs, h2, h3, h4⟩ := h;exact ⟨Row.leads_below h1 hb, fvs, h2, Row.leads_below h3 hb, fun j s f hs hf => (h4 j s f hs hf).below hb⟩
theorem MorxAt.below {w w' : World} {v : Value} {T : List MChain} (h : MorxAt w v T) (hb : Below w.heap.size w w') : MorxAt w' v T := by
 obtain ⟨g, vl, rs, h1, h2, h3, h4, h5⟩ := h;exact ⟨g, vl, rs, h1, (hb.block _ (heap_lt h2)).trans h2, h3, Row.leads_below h4 hb, fun i c r hc hr => (h5 i c r hc hr).below hb⟩
end Mx
namespace Mx
open Vw Ch Lk St Ln Dr
theorem vb_own {w : World} {base n cp : Nat} {ad : Option Addr} {bs : List Int} (h : w.ownsRow base 5 1 (.slice ad n cp) n (bs.map (Value.int .u8))) (h47 : bs.length ≤ 140737488355328) (hb : ∀ x ∈ bs, 0 ≤ x ∧ x ≤ 255) : VB w ad bs := by
 refine ⟨h47, hb, fun i hi => ?_⟩
 obtain ⟨b, o, c, hv, hc⟩ := leads_at (Row.leads_owned h) (i := i) (u := .int .u8 (bs.getD i 0)) (by rw [List.getElem?_map, List.getD_eq_getElem?_getD, List.getElem?_eq_getElem hi]; rfl)
 cases hv;exact ⟨b, o, rfl, hc⟩
end Mx
end Go.Proofs.YtceihjjjmcgmaaaGreat
