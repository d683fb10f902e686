/- Parts of a proof: texts StGet, LnAt, RegX, DrClass, DrEnv, DrStep, DrRun, DrPlain, DrAct, LnSet, LnNew, LnClone, LnRaw, LnRev, LnClean1, LnIndex, Put, Zeros, LnIns, LnDel, LnTurn, LnOrder, Verb. -/
import Derived.Test.YtoncnjhhdlpliaaGreatMA03
import Derived.Laws.ResultCell
import Derived.Laws.Cover3
import Derived.Lib.Overlaps
import Derived.Laws.IdiomCopy
import Derived.Maps.AppendAt
import Derived.Lib.AppendZerosOnto
namespace Go.Proofs.YtoncnjhhdlpliaaGreat
open Go.RowKit
namespace St
open Vw Sk Ch Lk
theorem leads_at {w : World} {v : Value} {n : Nat} {xs : List Value} {i : Nat} {u : Value} (h : Row.Leads w v n xs) (hu : xs[i]? = some u) : ∃ b o cp, v = .slice (some ⟨b, o, none⟩) n cp ∧ w.cell? ⟨b, o + i, none⟩ = some u := by
 obtain ⟨b, o, cp, rfl, hc⟩ := Row.leads_elem (f := fun x => [x]) (m := 1) (fun _ => rfl) (by simpa using h) hu (by omega)
 exact ⟨b, o, cp, rfl, by simpa using hc 0 u rfl⟩
theorem parts_len {ps : List PartD} (ho : ∀ p ∈ ps, PartOk p) (hr : rises ps = true) : ∀ (i : Nat) (p : PartD), ps[i]? = some p → (i : Int) ≤ p.last
 | 0, p, hp => by have := ho p (List.mem_of_getElem? hp); have h1 := this.le; have h2 := this.first0; omega
 | i + 1, p, hp => by
  obtain ⟨h1, h2⟩ := List.getElem?_eq_some_iff.1 hp
  obtain ⟨q, hq⟩ : ∃ q, ps[i]? = some q := ⟨_, List.getElem?_eq_getElem (by omega)⟩
  have ih := parts_len ho hr i q hq
  have h3 := (rises_iff ps).1 hr i q p hq hp
  have h4 := (ho p (List.mem_of_getElem? hp)).le
  omega
theorem parts_few {ps : List PartD} (ho : ∀ p ∈ ps, PartOk p) (hr : rises ps = true) : ps.length ≤ 4294967296 := by
 refine Decidable.byContradiction fun h => ?_
 obtain ⟨p, hp⟩ : ∃ p, ps[4294967295]? = some p := ⟨_, List.getElem?_eq_getElem (by omega)⟩
 have h1 := parts_len ho hr _ p hp
 have h2 := (ho p (List.mem_of_getElem? hp)).last1
 omega
set_option maxRecDepth 100000 in
set_option maxHeartbeats 4000000 in
theorem class_any (v : Value) (M : MachD) (id : Int) (w : World) (h : MachAt w v M) (hok : MachOk M) :
  Calls Tryz.prog 146 #[v, .int .i64 id] w fun e w' => e = .returned (.int .i64 (classM M id)) ∧ Below w.heap.size w w' := by
 obtain ⟨g, vt, vr, ve, us, rfl, hg, hl, _, _, _, _⟩ := h
 have HGET := Bas.hid (get_any vt M.parts id w hl hok.parts hok.rises (parts_few hok.parts hok.rises))
 obtain ⟨TB, _, _, _, rfl, _⟩ := hl
 have hcl := hok.hi
 have g0 := cell_of_heap (i := 0) (v := .int .i64 M.classes) hg rfl
 have g1 := cell_of_heap (i := 1) (v := .pointer (some ⟨TB, 0, none⟩)) hg rfl
 have lg := heap_lt hg
 have HG := Bas.hid hg
 by_cases he : id = 65535
 ·subst he
  have HC : Hid (classM M 65535 = 2) := if_pos rfl
  clear HGET
  go_enter Tryz.func146, Tryz.ntmps146
  go_wp2_with (fail)
  go_ret
  exact ⟨by rw [HC.out]; rfl, Below.refl _ _⟩
 ·have e1 : decide (id = 65535) = false := by simp; exact he
  have e2 : (id == 65535) = false := by simp; exact he
  have e4 : ¬ id = 65535 := he
  go_enter Tryz.func146, Tryz.ntmps146
  go_wp2_with (fail)
  refine HGET.out.mono ?_
  rintro e w2 ⟨rfl, hb⟩
  have k2 := (hb.block _ lg).trans HG.out
  have g0 := cell_of_heap (i := 0) (v := .int .i64 M.classes) k2 rfl
  have HB := Bas.hid hb
  cases hgl : getL M.parts id with
  | none =>
   have HC : Hid (classM M id = 1) := by unfold Hid classM; rw [if_neg e4, hgl]
   clear hgl
   go_wp2_with (fail)
   go_ret
   exact ⟨by rw [HC.out]; rfl, HB.out⟩
  | some c =>
   by_cases hc : c < M.classes
   ·have HC : Hid (classM M id = c) := by unfold Hid classM; rw [if_neg e4, hgl]; exact if_pos hc
    have e3 : decide (c < (M.classes : Int)) = true := by simpa using hc
    clear hgl
    go_wp2_with (fail)
    go_ret
    exact ⟨by rw [HC.out]; rfl, HB.out⟩
   ·have HC : Hid (classM M id = 1) := by unfold Hid classM; rw [if_neg e4, hgl]; exact if_neg hc
    have e3 : decide (c < (M.classes : Int)) = false := by simpa using hc
    clear hgl
    go_wp2_with (fail)
    go_ret
    exact ⟨by rw [HC.out]; rfl, HB.out⟩
set_option maxRecDepth 100000 in
set_option maxHeartbeats 4000000 in
theorem step_any (v : Value) (M : MachD) (st cl : Nat) (w : World) (h : MachAt w v M) (hok : MachOk M) (hs : st < M.rows.length) (hc : cl < M.classes) :
  Calls Tryz.prog 134 #[v, .int .i64 st, .int .i64 cl] w fun e w' =>
   e = .returned (.tuple #[.agg #[.int .i64 (stepM M st cl).next, .int .i64 (stepM M st cl).flags, .int .i64 (stepM M st cl).a, .int .i64 (stepM M st cl).b], .bool true]) ∧ Below w.heap.size w w' := by
 obtain ⟨r, x, en, hr, hrl, hx, hx0, hen, hst⟩ := Dr.stepM_in hok (s := st) (c := cl) ⟨by omega, by simpa using hs⟩ ⟨by omega, by simpa using hc⟩
 simp only [Int.toNat_natCast] at hr hx
 obtain ⟨g, vt, vr, ve, us, rfl, hg, hl, hul, hL1, hL2, hL3⟩ := h
 obtain ⟨u, hu⟩ : ∃ u, us[st]? = some u := ⟨_, List.getElem?_eq_getElem (by omega)⟩
 have hl2 := hL2 st r u hr hu
 obtain ⟨xn, hxn⟩ := Int.eq_ofNat_of_zero_le hx0
 subst hxn
 simp only [Int.toNat_natCast] at hen
 obtain ⟨b1, o1, p1, rfl, c1⟩ := leads_at hL1 hu
 obtain ⟨b2, o2, p2, rfl, c2⟩ := leads_at (i := cl) (u := .int .i64 xn) hl2 (by rw [List.getElem?_map, hx]; rfl)
 obtain ⟨b3, o3, p3, rfl, hc3⟩ := Row.leads_elem enC_len hL3 hen (by omega)
 have d0 := hc3 0 _ rfl
 have d1 := hc3 1 _ rfl
 have d2 := hc3 2 _ rfl
 have d3 := hc3 3 _ rfl
 simp only [Nat.add_zero] at d0
 have hxE : xn < M.ents.length := (List.getElem?_eq_some_iff.1 hen).1
 have l1 := World.block_lt_of_cell? _ _ c1
 have l2 := World.block_lt_of_cell? _ _ c2
 have l3 := World.block_lt_of_cell? _ _ d0
 have lg := heap_lt hg
 have hR6 := hok.nrows
 have hE6 := hok.nents
 have hC6 := hok.hi
 have g0 := cell_of_heap (i := 0) hg rfl
 have g2 := cell_of_heap (i := 2) hg rfl
 have g3 := cell_of_heap (i := 3) hg rfl
 rw [hrl] at c1
 rw [hst]
 obtain ⟨en0, en1, en2, en3⟩ := en
 simp only at d0 d1 d2 d3 ⊢
 generalize M.rows.length = R at *
 generalize M.ents.length = E at *
 generalize M.classes = C at *
 clear hst hen hr hx hu hl2 hL1 hL2 hL3 hc3 hul hl hrl hg hok hx0
 have f1 : decide ((st : Int) < 0) = false := by simp
 have f2 : decide ((R : Int) ≤ (st : Int)) = false := by simp; omega
 have f3 : decide ((cl : Int) < 0) = false := by simp
 have f4 : decide ((C : Int) ≤ (cl : Int)) = false := by simp; omega
 have f5 : decide ((st : Int) < (R : Int)) = true := by simp; omega
 have f6 : decide ((cl : Int) < (C : Int)) = true := by simp; omega
 have f7 : decide ((xn : Int) < (E : Int)) = true := by simp; omega
 go_enter Tryz.func134, Tryz.ntmps134
 go_wp2_with (fail)
 have kN := Bas.heap_new w (.cells #[.int .i64 0, .int .i64 0, .int .i64 0, .int .i64 0] 162)
 have hb1 := (Below.refl w.heap.size w).alloc (Nat.le_refl _) (.cells #[.int .i64 0, .int .i64 0, .int .i64 0, .int .i64 0] 162)
 have y0 := (hb1.cell (p := ⟨g, 0, none⟩) lg).trans g0
 have y2 := (hb1.cell (p := ⟨g, 2, none⟩) lg).trans g2
 have y3 := (hb1.cell (p := ⟨g, 3, none⟩) lg).trans g3
 have x1 := (hb1.cell (p := ⟨b1, o1 + st, none⟩) l1).trans c1
 have x2 := (hb1.cell (p := ⟨b2, o2 + cl, none⟩) l2).trans c2
 have x3 := (hb1.cell (p := ⟨b3, o3 + xn * 4, none⟩) l3).trans d0
 have x4 := (hb1.cell (p := ⟨b3, o3 + xn * 4 + 1, none⟩) l3).trans d1
 have x5 := (hb1.cell (p := ⟨b3, o3 + xn * 4 + 2, none⟩) l3).trans d2
 have x6 := (hb1.cell (p := ⟨b3, o3 + xn * 4 + 3, none⟩) l3).trans d3
 have HB1 := Bas.hid hb1
 clear g0 g2 g3 c1 c2 d0 d1 d2 d3 l1 l2 l3 lg hb1
 generalize w.alloc (.cells #[.int .i64 0, .int .i64 0, .int .i64 0, .int .i64 0] 162) = W1 at *
 have l1 := World.block_lt_of_cell? _ _ x1
 have l2 := World.block_lt_of_cell? _ _ x2
 have l3 := World.block_lt_of_cell? _ _ x3
 have lg := World.block_lt_of_cell? _ _ y0
 refine' Pl.region_v0 48 [] [0, 1, 2, 3, 4, 5, 6, 7, 8, 9, 10, 11, 12, 13, 14, 15] [16, 17] _ (by kernel_rfl) (by kernel_rfl) (by simp) (fun _ _ _ _ e h => ⟨e ▸ h.1, h.2⟩) ?_ ?_
 rotate_left
 ·intro I F hI hF
  simp only [Pl.selN, List.nil_append, List.drop_succ_cons, List.drop_zero]
  have z0 := fun i => hF.cell lg y0 i
  have z2 := fun i => hF.cell lg y2 i
  have z3 := fun i => hF.cell lg y3 i
  have u1 := fun i => hF.cell l1 x1 i
  have u2 := fun i => hF.cell l2 x2 i
  have u3 := fun i => hF.cell l3 x3 i
  have u4 := fun i => hF.cell l3 x4 i
  have u5 := fun i => hF.cell l3 x5 i
  have u6 := fun i => hF.cell l3 x6 i
  repeat (go_big_quiet_step (fail))
  refine wpQuiet_nil ?_
  rfl
 intro w7 hw7
 simp only [Pl.selN, List.drop_succ_cons, List.drop_zero]
 have k7 := (hw7.block _ (heap_lt kN)).trans kN
 have HB7 := Bas.hid (HB1.out.trans (hw7.mono HB1.out.size))
 clear hw7 y0 y2 y3 x1 x2 x3 x4 x5 x6 l1 l2 l3 lg kN
 have c0 := cell_of_heap (i := 0) k7 rfl
 have c1 := cell_of_heap (i := 1) k7 rfl
 have c2 := cell_of_heap (i := 2) k7 rfl
 have c3 := cell_of_heap (i := 3) k7 rfl
 have r0 := free_of_heap (i := 0) k7
 have r1 := free_of_heap (i := 1) k7
 have r2 := free_of_heap (i := 2) k7
 have r3 := free_of_heap (i := 3) k7
 have lk := heap_lt k7
 go_wp2_with (fail)
 obtain ⟨k8, _⟩ := set4 k7 (.int .i64 en0) (.int .i64 en1) (.int .i64 en2) (.int .i64 en3)
 have hwn : w.heap.size ≤ w.heap.size := Nat.le_refl _
 have HB8 := Bas.hid ((((HB7.out.setCell (p := ⟨w.heap.size, 0, none⟩) hwn (.int .i64 en0)).setCell (p := ⟨w.heap.size, 1, none⟩) hwn (.int .i64 en1)).setCell (p := ⟨w.heap.size, 2, none⟩) hwn (.int .i64 en2)).setCell (p := ⟨w.heap.size, 3, none⟩) hwn (.int .i64 en3))
 clear c0 c1 c2 c3 r0 r1 r2 r3 lk k7
 generalize ((((w7.setCell ⟨w.heap.size, 0, none⟩ (.int .i64 en0)).setCell ⟨w.heap.size, 1, none⟩ (.int .i64 en1)).setCell ⟨w.heap.size, 2, none⟩ (.int .i64 en2)).setCell ⟨w.heap.size, 3, none⟩ (.int .i64 en3)) = W8 at *
 have c0 := cell_of_heap (i := 0) k8 rfl
 have c1 := cell_of_heap (i := 1) k8 rfl
 have c2 := cell_of_heap (i := 2) k8 rfl
 have c3 := cell_of_heap (i := 3) k8 rfl
 refine bodyPost_ret (v := .tuple #[.agg #[.int .i64 en0, .int .i64 en1, .int .i64 en2, .int .i64 en3], .bool true]) ?_ rfl ⟨rfl, HB8.out⟩
 rw [results_cell_tmp rfl]
 go_simp
end St
end Go.Proofs.YtoncnjhhdlpliaaGreat
namespace Go.Proofs.YtoncnjhhdlpliaaGreat
open Go.RowKit
namespace Ln
open Ch
theorem len_any (base g : Nat) (sv : Value) (xs : List Gl) (w : World) (h : LineAt w base g sv xs) :
  Calls Tryz.prog 14 #[.pointer (some ⟨g, 0, none⟩)] w fun e w' => e = .returned (.int .i64 xs.length) ∧ w = w' := by
 obtain ⟨ad, cp, rfl⟩ := own_slice h.own
 have g0 := cell_of_heap (i := 0) (v := .slice ad xs.length cp) h.head rfl
 have lg := h.lt
 clear h
 go_enter Tryz.func14, Tryz.ntmps14
 go_wp2_with (fail)
 go_ret
 exact ⟨rfl, rfl⟩
def inL (n : Nat) (i : Int) : Bool := decide (0 ≤ i ∧ i < n)
set_option maxRecDepth 100000 in
theorem in_any (base g : Nat) (sv : Value) (xs : List Gl) (i : Int) (w : World) (h : LineAt w base g sv xs) :
  Calls Tryz.prog 119 #[.pointer (some ⟨g, 0, none⟩), .int .i64 i] w fun e w' => e = .returned (.bool (inL xs.length i)) ∧ w = w' := by
 obtain ⟨ad, cp, rfl⟩ := own_slice h.own
 have g0 := cell_of_heap (i := 0) (v := .slice ad xs.length cp) h.head rfl
 have lg := h.lt
 clear h
 generalize xs.length = n at *
 by_cases h0 : 0 ≤ i
 ·obtain ⟨k, rfl⟩ := Int.eq_ofNat_of_zero_le h0
  have e1 : decide ((0 : Int) ≤ (k : Int)) = true := by simp
  by_cases h1 : k < n
  ·have e2 : decide ((k : Int) < (n : Int)) = true := by simp; omega
   have HI : Hid (inL n (k : Int) = true) := by unfold Hid inL; simp; omega
   go_enter Tryz.func119, Tryz.ntmps119
   go_wp2_with (fail)
   go_ret
   exact ⟨by rw [HI.out]; rfl, rfl⟩
  ·have e2 : decide ((k : Int) < (n : Int)) = false := by simp; omega
   have HI : Hid (inL n (k : Int) = false) := by unfold Hid inL; simp; omega
   go_enter Tryz.func119, Tryz.ntmps119
   go_wp2_with (fail)
   go_ret
   exact ⟨by rw [HI.out]; rfl, rfl⟩
 ·have e1 : decide ((0 : Int) ≤ i) = false := by simp; omega
  have HI : Hid (inL n i = false) := by unfold Hid inL; simp; omega
  go_enter Tryz.func119, Tryz.ntmps119
  go_wp2_with (fail)
  go_ret
  exact ⟨by rw [HI.out]; rfl, rfl⟩
def atV : Option Gl → Value
 | some x => .tuple #[.agg #[.int .i64 x.1, .int .i64 x.2], .bool true]
 | none => .tuple #[.agg #[.int .i64 0, .int .i64 0], .bool false]
theorem glAt_in {xs : List Gl} {i : Int} : (inL xs.length i = true → ∃ k x, i = (k : Nat) ∧ k < xs.length ∧ xs[k]? = some x ∧ glAt xs i = some x) ∧ (inL xs.length i = false → glAt xs i = none) := by
 unfold inL glAt
 constructor
 ·intro h
  simp only [decide_eq_true_eq] at h
  obtain ⟨k, rfl⟩ := Int.eq_ofNat_of_zero_le h.1
  have hk : k < xs.length := by omega
  exact ⟨k, xs[k], rfl, hk, List.getElem?_eq_getElem hk, by rw [if_pos h.1, Int.toNat_natCast, List.getElem?_eq_getElem hk]⟩
 ·intro h
  simp only [decide_eq_false_iff_not] at h
  split
  ·exact List.getElem?_eq_none (by omega)
  ·rfl
theorem set2 {u : World} {E : Nat} {a b : Value} {t : TypeId} (k : u.heap[E]? = some (.cells #[a, b] t (0, 0))) (x0 x1 : Value) : ((u.setCell ⟨E, 0, none⟩ x0).setCell ⟨E, 1, none⟩ x1).heap[E]? = some (.cells #[x0, x1] t (0, 0)) ∧
  ∀ g, g ≠ E → ((u.setCell ⟨E, 0, none⟩ x0).setCell ⟨E, 1, none⟩ x1).heap[g]? = u.heap[g]? := by
 refine ⟨heap_set (heap_set k x0) x1, fun g hg => ?_⟩
 rw [Below.heap_setCell _ _ _ _ (by exact hg), Below.heap_setCell _ _ _ _ (by exact hg)]
set_option maxRecDepth 100000 in
set_option maxHeartbeats 4000000 in
theorem at_any (base g : Nat) (sv : Value) (xs : List Gl) (i : Int) (w : World) (h : LineAt w base g sv xs) :
  Calls Tryz.prog 111 #[.pointer (some ⟨g, 0, none⟩), .int .i64 i] w fun e w' => e = .returned (atV (glAt xs i)) ∧ Below w.heap.size w w' := by
 have hb1 := (Below.refl w.heap.size w).alloc (Nat.le_refl _) (.cells #[.int .i64 0, .int .i64 0] 47)
 have kN := Bas.heap_new w (.cells #[.int .i64 0, .int .i64 0] 47)
 have h1 := h.below hb1
 have HIN := Bas.hid (in_any base g sv xs i _ h1)
 have HB1 := Bas.hid hb1
 obtain ⟨hy, hn⟩ := glAt_in (xs := xs) (i := i)
 obtain ⟨b, hb⟩ : ∃ b, inL xs.length i = b := ⟨_, rfl⟩
 rw [hb] at HIN hy hn
 clear hb1 hb h
 cases b with
 | false =>
  have HG := Bas.hid (hn rfl)
  clear hy hn h1
  go_enter Tryz.func111, Tryz.ntmps111
  go_wp2_with (fail)
  generalize w.alloc (.cells #[.int .i64 0, .int .i64 0] 47) = W1 at *
  refine HIN.out.mono ?_
  rintro e w2 ⟨rfl, rfl⟩
  have c0 := cell_of_heap (i := 0) kN rfl
  have c1 := cell_of_heap (i := 1) kN rfl
  have f0 := free_of_heap (i := 0) kN
  have f1 := free_of_heap (i := 1) kN
  have lk := heap_lt kN
  go_wp2_with (fail)
  obtain ⟨k8, _⟩ := set2 kN (.int .i64 0) (.int .i64 0)
  have HB8 := Bas.hid ((HB1.out.setCell (p := ⟨w.heap.size, 0, none⟩) (Nat.le_refl _) (.int .i64 0)).setCell (p := ⟨w.heap.size, 1, none⟩) (Nat.le_refl _) (.int .i64 0))
  clear c0 c1 f0 f1 lk kN
  generalize (W1.setCell ⟨w.heap.size, 0, none⟩ (.int .i64 0)).setCell ⟨w.heap.size, 1, none⟩ (.int .i64 0) = W8 at *
  have c0 := cell_of_heap (i := 0) k8 rfl
  have c1 := cell_of_heap (i := 1) k8 rfl
  refine bodyPost_ret (v := .tuple #[.agg #[.int .i64 0, .int .i64 0], .bool false]) ?_ rfl ⟨by rw [HG.out]; rfl, HB8.out⟩
  rw [results_cell_tmp rfl]
  go_simp
 | true =>
  obtain ⟨k, x, rfl, hk, hx, hg⟩ := hy rfl
  have HG := Bas.hid hg
  obtain ⟨bo, oo, cp, rfl, hc⟩ := Row.leads_elem glC_len (Row.leads_owned h1.own) hx (by omega)
  have d0 := hc 0 _ rfl
  have d1 := hc 1 _ rfl
  simp only [Nat.add_zero] at d0
  have g0 := cell_of_heap (i := 0) (v := .slice (some ⟨bo, oo, none⟩) xs.length cp) h1.head rfl
  have lg := h1.lt
  have lb := World.block_lt_of_cell? _ _ d0
  have e1 : decide ((k : Int) < (xs.length : Int)) = true := by simp; omega
  clear hy hn h1 hc hg hx
  obtain ⟨x0, x1⟩ := x
  simp only at d0 d1
  generalize xs.length = n at *
  go_enter Tryz.func111, Tryz.ntmps111
  go_wp2_with (fail)
  generalize w.alloc (.cells #[.int .i64 0, .int .i64 0] 47) = W1 at *
  refine HIN.out.mono ?_
  rintro e w2 ⟨rfl, rfl⟩
  have c0 := cell_of_heap (i := 0) kN rfl
  have c1 := cell_of_heap (i := 1) kN rfl
  have f0 := free_of_heap (i := 0) kN
  have f1 := free_of_heap (i := 1) kN
  have lk := heap_lt kN
  go_wp2_with (fail)
  obtain ⟨k8, _⟩ := set2 kN (.int .i64 x0) (.int .i64 x1)
  have HB8 := Bas.hid ((HB1.out.setCell (p := ⟨w.heap.size, 0, none⟩) (Nat.le_refl _) (.int .i64 x0)).setCell (p := ⟨w.heap.size, 1, none⟩) (Nat.le_refl _) (.int .i64 x1))
  clear c0 c1 f0 f1 lk kN d0 d1 g0 lg lb
  generalize (W1.setCell ⟨w.heap.size, 0, none⟩ (.int .i64 x0)).setCell ⟨w.heap.size, 1, none⟩ (.int .i64 x1) = W8 at *
  have c0 := cell_of_heap (i := 0) k8 rfl
  have c1 := cell_of_heap (i := 1) k8 rfl
  refine bodyPost_ret (v := .tuple #[.agg #[.int .i64 x0, .int .i64 x1], .bool true]) ?_ rfl ⟨by rw [HG.out]; rfl, HB8.out⟩
  rw [results_cell_tmp rfl]
  go_simp
end Ln
end Go.Proofs.YtoncnjhhdlpliaaGreat
namespace Go.Proofs.YtoncnjhhdlpliaaGreat
open Go.RowKit
namespace Pl
section
variable {P : Program} {ops : Array Oper} {Q : Exit → Act → World → Prop} {B : Nat} {W : World}
def pureE (o : Oper) : Bool := match o.op with
 | .move _ | .assign _ | .extract _ _ => true
 | _ => false
theorem pureE_yields {o : Oper} {v : Value} {A a : Act} (hp : pureE o = true) (hy : YG P ops B W o v A) (e1 : execOp a.eval o = execOp A.eval o) (e2 : Region.wanted o (yielded ops a.tmps) = Region.wanted o (yielded ops A.tmps)) :
  YieldsC P ops (fun _ => True) o v a := by
 rcases hy with ⟨h1, h2⟩ | h
 ·refine .inl ⟨e2.trans h1, fun w _ => ?_⟩
  have h3 := h2 W (Below.refl _ _)
  rw [e1]
  unfold pureE at hp
  unfold execOp at h3 ⊢
  split at hp <;> rename_i ho <;> simp only [ho] at h3 ⊢
  ·obtain ⟨_, h4⟩ := h3; exact ⟨rfl, h4⟩
  ·obtain ⟨_, h4⟩ := h3; exact ⟨rfl, h4⟩
  ·rename_i t ix
   unfold Instr.extract at h3 ⊢
   split at h3
   ·split at h3
    ·obtain ⟨_, h4⟩ := h3; exact ⟨rfl, h4⟩
    ·exact h3.elim
   ·exact h3.elim
  ·cases hp
 ·exact .inr ⟨e2.trans h.1, h.2⟩
def eagerB (ops : Array Oper) (fx eg : List Nat) : Bool := eg.all fun e => fx.contains e && match ops[e]? with
 | none => false
 | some oe => pureE oe && oe.after.all (fun d => !Region.binds .any d || (fx.contains d.on && !eg.contains d.on)) && (List.range ops.size).all fun j => j == e || oe.after.any (fun d => Region.binds .any d && d.on == j) || match ops[j]? with
  | some oj => oj.after.any (fun d => Region.binds .any d && d.on == e) || oe.apart ops oj
  | none => true
theorem eager_spec {fx eg : List Nat} (h : eagerB ops fx eg = true) : ∀ e ∈ eg, e ∈ fx ∧ ∃ oe, ops[e]? = some oe ∧ pureE oe = true ∧ (∀ d ∈ oe.after, Region.binds .any d = true → d.on ∈ fx ∧ d.on ∉ eg) ∧
  ∀ j oj, ops[j]? = some oj → j ≠ e → (∀ d ∈ oe.after, Region.binds .any d = true → d.on ≠ j) → (∀ d ∈ oj.after, Region.binds .any d = true → d.on ≠ e) → oe.apart ops oj = true := by
 intro e he
 simp only [eagerB, List.all_eq_true, Bool.and_eq_true] at h
 obtain ⟨h1, h2⟩ := h e he
 refine ⟨by simpa using h1, ?_⟩
 cases ho : ops[e]? with
 | none => rw [ho] at h2; cases h2
 | some oe =>
  rw [ho] at h2
  simp only [Bool.and_eq_true, List.all_eq_true, List.mem_range] at h2
  obtain ⟨⟨h3, h4⟩, h5⟩ := h2
  refine ⟨oe, rfl, h3, fun d hd hb => ?_, fun j oj hj hne hno hno2 => ?_⟩
  ·have h6 := Array.all_eq_true'.1 h4 d hd
   simpa [hb] using h6
  ·have h6 := h5 j (Array.getElem?_eq_some_iff.1 hj).1
   simp only [hj, Bool.or_eq_true, beq_iff_eq, hne, false_or] at h6
   rcases h6 with h6 | h6 | h6
   ·obtain ⟨d, hd, hb⟩ := Array.any_eq_true'.1 h6
    simp only [Bool.and_eq_true, beq_iff_eq] at hb
    exact absurd hb.2 (hno d hd hb.1)
   ·obtain ⟨d, hd, hb⟩ := Array.any_eq_true'.1 h6
    simp only [Bool.and_eq_true, beq_iff_eq] at hb
    exact absurd hb.2 (hno2 d hd hb.1)
   ·exact h6
def regBE (ops : Array Oper) (ntmps : Nat) (fl fx eg : List Nat) (vs : List (Nat × Tmp)) (tl : List Nat) (halt : Option Nat) : Bool :=
 Region.noSelect ops &&
 decide ((fl ++ (fx ++ vs.map Prod.fst ++ tl)).Nodup) && (List.range ops.size).all (fun i => (fl ++ (fx ++ vs.map Prod.fst ++ tl)).contains i) && (fl ++ (fx ++ vs.map Prod.fst ++ tl)).all (fun i => decide (i < ops.size)) &&
 (List.range ops.size).all (fun i => match ops[i]? with
  | some o => o.after.all fun e => !Region.binds .any e || decide (e.on < i)
  | none => true) &&
 (fx ++ vs.map Prod.fst).all (fun i => fx.all fun j => blind ops i j || waitsT .any ops ops.size i j) &&
 (fx ++ vs.map Prod.fst).all (fun i => (vs.map Prod.fst).all fun j => blind ops i j) &&
 (fx ++ vs.map Prod.fst).all (fun i => (fx ++ vs.map Prod.fst).all fun j => i == j || match dstOf ops i with
  | some t => dstOf ops j != some t
  | none => true) &&
 vs.all (fun x => (match ops[x.1]? with
  | some o => o.guard.isNone
  | none => false) && dstOf ops x.1 == some x.2) &&
 (match halt with
  | none => (tl.all fun t => (fx ++ vs.map Prod.fst).all fun h => eg.contains h || waitsT .any ops ops.size t h) && seqT ops tl ((Array.range ops.size).map fun i => !tl.contains i)
  | some k => (vs.map Prod.fst).contains k && tl.all fun t => waitsT .any ops ops.size t k) &&
 (fl ++ fx).all (fun i => blind ops i i && match dstOf ops i with
  | some d => decide (d < ntmps)
  | none => false) &&
 pairsB ops (fl ++ fx) && floatB ops fl (Array.replicate ops.size false) && fl.all (fun i => (fl ++ fx).all fun j => blind ops i j) && eagerB ops fx eg
theorem coreE {A1 : Act} {V : Nat → VP} {Z : List PanicEntry → World → Prop} {fx vsI tl eg : List Nat} (hsel : ∀ (j : Nat) (o : Oper) cs b, ops[j]? = some o → o.op ≠ .select cs b) (hB0 : B ≤ W.heap.size) (sh : Shape ops fx vsI tl) (hvn : vsI.Nodup)
  (hZ : ∀ c (a' : Act) w, a'.defers = A1.defers → Z c w → Q (.panic c) a' w)
  (hfx : ∀ i ∈ fx, ∃ o, ops[i]? = some o ∧ YG P ops B W o (valOf ops A1 i) A1)
  (hst : ∀ i ∈ vsI, ∀ v w w', V i v w → Below B W w → Below w.heap.size w w' → V i v w')
  (hvs : ∀ i ∈ vsI, ∃ o, ops[i]? = some o ∧ ∀ w, Below B W w → valsAt P (fun u w' => Below w.heap.size w w' ∧ V i u w') Z ((execOp A1.eval o).run P w))
  (hQ : ∀ c a a' w, Act.defers a = Act.defers a' → Q (.panic c) a w → Q (.panic c) a' w) (heg : eagerB ops fx eg = true)
  (htl : ∀ t ∈ tl, (∀ h ∈ fx ++ vsI, h ∉ eg → ∃ m, waitsT .any ops m t h = true) ∨ ∃ k ∈ vsI, (∃ m, waitsT .any ops m t k = true) ∧ ∀ v w, ¬ V k v w)
  (hend : ∀ (listed : Array Bool) (q : List (Nat × Value)) (w : World), Below B W w → (q.map Prod.fst).Perm vsI → (∀ x ∈ q, V x.1 x.2 w) → listed.size = ops.size → (∀ i, listed.getD i true = false ↔ i ∈ tl) → wpAnyF P .any ops Q (Below B W) tl tl.length listed (fillV ops A1 q) w) :
  ∀ (k : Nat) (listed : Array Bool) (a : Act) (w : World) (p pv : List Nat) (q : List (Nat × Value)), k = p.length + pv.length → St P ops B W A1 V fx vsI tl listed a w p pv q → wpAnyF P .any ops Q (Below B W) tl (k + tl.length) listed a w := by
 intro k
 induction k with
 | zero =>
  intro listed a w p pv q hk st
  have hp : p = [] := List.length_eq_zero_iff.1 (by omega)
  have hpv : pv = [] := List.length_eq_zero_iff.1 (by omega)
  subst hp hpv
  have hA : a = fillV ops A1 q := st.eqA
  rw [Nat.zero_add, hA]
  exact hend listed q w st.bel (by simpa using st.vn) st.qok st.closed.1 (fun i => by simpa using st.un i)
 | succ k ih =>
  intro listed a w p pv q hk st
  rw [show k + 1 + tl.length = (k + tl.length) + 1 by omega]
  have hqv : ∀ x ∈ q, x.1 ∈ vsI := fun x hx => st.vn.mem_iff.1 (by simp; exact .inr ⟨x.2, hx⟩)
  have hvi : ∀ i ∈ pv, i ∈ vsI := fun i hi => st.vn.mem_iff.1 (by simp [hi])
  have hlt : ∀ i, i ∈ p ∨ i ∈ pv → i < ops.size := fun i hi => sh.all i (hi.elim (fun h => .inl (st.ps i h)) (fun h => .inr (.inl (hvi i h))))
  have hex : ∃ i, i ∈ p ∨ i ∈ pv := by
   cases p with
   | cons i p => exact ⟨i, .inl (by simp)⟩
   | nil =>
    cases pv with
    | cons i pv => exact ⟨i, .inr (by simp)⟩
    | nil => simp at hk
  have hne : Region.ready .any ops listed ≠ [] := by
   obtain ⟨i, hi⟩ := hex
   exact ready_ne sh st.closed.1 i (hlt i hi) ((st.un i).2 (hi.elim .inl (fun h => .inr (.inl h))))
  have evalsE : ∀ (i : Nat) (oi : Oper), ops[i]? = some oi → i ∈ Region.ready .any ops listed → i ∈ fx ++ vsI → execOp a.eval oi = execOp A1.eval oi ∧ Region.wanted oi (yielded ops a.tmps) = Region.wanted oi (yielded ops A1.tmps) := by
   intro i oi hoi hi hh
   have h1 := eval_fillF (A1 := A1) hoi (fun cs b => hsel i oi cs b hoi) p a (fun j hj => by
    rcases sh.bl1 i hh j (st.ps j hj) with h | ⟨m, h⟩
    ·exact h
    ·exact absurd (waitsT_ready st.closed hi h) (fun h2 => not_both ((st.un j).2 (.inl hj)) h2))
   have h2 := eval_fillV hoi (fun cs b => hsel i oi cs b hoi) q A1 (fun x hx => sh.bl2 i hh x.1 (hqv x hx))
   rw [st.eqA] at h1
   exact ⟨h1.1.symm.trans h2.1, h1.2.symm.trans h2.2⟩
  have fixE : ∀ (i : Nat) (oi : Oper) (w' : World), ops[i]? = some oi → i ∈ Region.ready .any ops listed → i ∈ p → Below w.heap.size w w' → wpAnyF P .any ops Q (Below B W) tl (k + tl.length) (listed.setIfInBounds i true) (a.put oi.dst (valOf ops A1 i)) w' := by
   intro i oi w' hoi hi hip hw'
   have hdo : dstOf ops i = oi.dst := by simp [dstOf, hoi]
   have hh : i ∈ fx ++ vsI := by simp [st.ps i hip]
   have hperm : p.Perm (i :: p.erase i) := List.perm_cons_erase hip
   refine ih _ _ w' (p.erase i) pv q (by have := hperm.length_eq; simp at this; omega) ⟨st.closed.set hi, fun j => ?_, st.pn.erase i, fun j hj => st.ps j (List.mem_of_mem_erase hj), st.vn, ?_, fun x hx => hst x.1 (hqv x hx) _ _ _ (st.qok x hx) st.bel hw', st.bel.trans (hw'.mono (Nat.le_trans hB0 st.bel.size)), (put_defers _ _ _).trans st.dfr⟩
   ·by_cases hij : i = j
    ·subst hij
     have h1 : i < listed.size := by rw [st.closed.1]; exact hlt i (.inl hip)
     have h2 : i ∉ p.erase i := fun h => ((List.Nodup.mem_erase_iff st.pn).1 h).1 rfl
     have h3 := sh.nodup
     have h4 : i ∉ vsI ∧ i ∉ tl := by
      have h5 := st.ps i hip
      simp only [List.nodup_append, List.mem_append] at h3
      exact ⟨fun h => h3.1.2.2 i h5 i h rfl, fun h => h3.2.2 i (.inl h5) i h rfl⟩
     have h6 : i ∉ pv := fun h => h4.1 (hvi i h)
     simp [h1, h2, h6, h4.2]
    ·rw [getD_set_ne true hij, st.un j]
     have : j ∈ p.erase i ↔ j ∈ p := by rw [List.Nodup.mem_erase_iff st.pn]; simp [Ne.symm hij]
     rw [this]
   ·have h1 := fillF_perm (A1 := A1) hperm (fun x hx y hy hxy => sh.dst x (by simp [st.ps x hx]) y (by simp [st.ps y hy]) hxy) a
    rw [← st.eqA, h1, ← hdo]
    rfl
  by_cases hE : ∃ e, e ∈ p ∧ e ∈ eg ∧ e ∈ Region.ready .any ops listed
  ·obtain ⟨e, hep, hee, her⟩ := hE
   obtain ⟨hef, oe, hoe, hpe, hdeps, hap⟩ := eager_spec heg e hee
   obtain ⟨hune, oe', hoe', halle⟩ := mem_ready.1 her
   rw [hoe] at hoe'; cases hoe'
   obtain ⟨e1, e2⟩ := evalsE e oe hoe her (by simp [hef])
   obtain ⟨o', ho', hy⟩ := hfx e hef
   rw [hoe] at ho'; cases ho'
   refine wpAnyF_first hoe hsel (fun c a d v w => hQ c _ _ w (put_defers a d v)) _ _ _ _ st.closed (fun j oj hj hne hu hno => hap j oj hj hne (fun d hd hb hdj => ?_) hno) her (pureE_yields hpe hy e1 e2) (.inl fun _ => trivial) (fixE e oe w hoe her hep (Below.refl _ _))
   have := halle d hd hb
   rw [hdj] at this
   exact not_both hu this
  refine ⟨fun h => absurd h hne, fun i hi => ?_⟩
  obtain ⟨hun, oi, hoi, hall⟩ := mem_ready.1 hi
  have hdo : dstOf ops i = oi.dst := by simp [dstOf, hoi]
  have evals : (i ∈ fx ++ vsI) → execOp a.eval oi = execOp A1.eval oi ∧ Region.wanted oi (yielded ops a.tmps) = Region.wanted oi (yielded ops A1.tmps) := by
   intro hh
   have h1 := eval_fillF (A1 := A1) hoi (fun cs b => hsel i oi cs b hoi) p a (fun j hj => by
    rcases sh.bl1 i hh j (st.ps j hj) with h | ⟨m, h⟩
    ·exact h
    ·exact absurd (waitsT_ready st.closed hi h) (fun h2 => not_both ((st.un j).2 (.inl hj)) h2))
   have h2 := eval_fillV hoi (fun cs b => hsel i oi cs b hoi) q A1 (fun x hx => sh.bl2 i hh x.1 (hqv x hx))
   rw [st.eqA] at h1
   exact ⟨h1.1.symm.trans h2.1, h1.2.symm.trans h2.2⟩
  rcases (st.un i).1 hun with hip | hipv | hitl
  · -- a fixed one
   have hh : i ∈ fx ++ vsI := by simp [st.ps i hip]
   obtain ⟨e1, e2⟩ := evals hh
   obtain ⟨o', ho', hy⟩ := hfx i (st.ps i hip)
   rw [hoi] at ho'; cases ho'
   refine wpOp_YG hoi e1 e2 hy st.bel fun w' hw' => ⟨fun _ hb => hb.trans (hw'.mono (Nat.le_trans hB0 hb.size)), ?_⟩
   have hperm : p.Perm (i :: p.erase i) := List.perm_cons_erase hip
   refine ih _ _ w' (p.erase i) pv q (by have := hperm.length_eq; simp at this; omega) ⟨st.closed.set hi, fun j => ?_, st.pn.erase i, fun j hj => st.ps j (List.mem_of_mem_erase hj), st.vn, ?_, fun x hx => hst x.1 (hqv x hx) _ _ _ (st.qok x hx) st.bel hw', st.bel.trans (hw'.mono (Nat.le_trans hB0 st.bel.size)), (put_defers _ _ _).trans st.dfr⟩
   ·by_cases hij : i = j
    ·subst hij
     have h1 : i < listed.size := by rw [st.closed.1]; exact hlt i (.inl hip)
     have h2 : i ∉ p.erase i := fun h => ((List.Nodup.mem_erase_iff st.pn).1 h).1 rfl
     have h3 := sh.nodup
     have h4 : i ∉ vsI ∧ i ∉ tl := by
      have h5 := st.ps i hip
      simp only [List.nodup_append, List.mem_append] at h3
      exact ⟨fun h => h3.1.2.2 i h5 i h rfl, fun h => h3.2.2 i (.inl h5) i h rfl⟩
     have h6 : i ∉ pv := fun h => h4.1 (hvi i h)
     simp [h1, h2, h6, h4.2]
    ·rw [getD_set_ne true hij, st.un j]
     have : j ∈ p.erase i ↔ j ∈ p := by rw [List.Nodup.mem_erase_iff st.pn]; simp [Ne.symm hij]
     rw [this]
   ·have h1 := fillF_perm (A1 := A1) hperm (fun x hx y hy hxy => sh.dst x (by simp [st.ps x hx]) y (by simp [st.ps y hy]) hxy) a
    rw [← st.eqA, h1, ← hdo]
    rfl
  · -- one that is known by a predicate
   have hiv := hvi i hipv
   have hh : i ∈ fx ++ vsI := by simp [hiv]
   obtain ⟨e1, e2⟩ := evals hh
   obtain ⟨o', ho', hy⟩ := hvs i hiv
   rw [hoi] at ho'; cases ho'
   refine wpOp_vals hoi (sh.guard i hiv oi hoi) e1 (hy w st.bel) (fun c w' hz => hZ c a w' st.dfr hz) fun u w' ⟨hw', hV⟩ => ⟨fun _ hb => hb.trans (hw'.mono (Nat.le_trans hB0 hb.size)), ?_⟩
   have hperm : pv.Perm (i :: pv.erase i) := List.perm_cons_erase hipv
   have hvn2 : (pv.erase i ++ (q ++ [(i, u)]).map Prod.fst).Perm vsI := by
    refine List.Perm.trans ?_ st.vn
    rw [List.map_append, ← List.append_assoc]
    refine List.Perm.trans List.perm_append_comm ?_
    exact (List.Perm.append_right (q.map Prod.fst) hperm).symm
   have hpvn : pv.Nodup := by
    have := (st.vn.nodup_iff).2 hvn
    exact (List.nodup_append.1 this).1
   refine ih _ _ w' p (pv.erase i) (q ++ [(i, u)]) (by have := hperm.length_eq; simp at this; omega) ⟨st.closed.set hi, fun j => ?_, st.pn, st.ps, hvn2, ?_, fun x hx => ?_, st.bel.trans (hw'.mono (Nat.le_trans hB0 st.bel.size)), (put_defers _ _ _).trans st.dfr⟩
   ·by_cases hij : i = j
    ·subst hij
     have h1 : i < listed.size := by rw [st.closed.1]; exact hlt i (.inr hipv)
     have h2 : i ∉ pv.erase i := fun h => ((List.Nodup.mem_erase_iff hpvn).1 h).1 rfl
     have h3 := sh.nodup
     simp only [List.nodup_append, List.mem_append] at h3
     have h4 : i ∉ p := fun h => h3.1.2.2 i (st.ps i h) i hiv rfl
     have h5 : i ∉ tl := fun h => h3.2.2 i (.inr hiv) i h rfl
     simp [h1, h2, h4, h5]
    ·rw [getD_set_ne true hij, st.un j]
     have : j ∈ pv.erase i ↔ j ∈ pv := by rw [List.Nodup.mem_erase_iff hpvn]; simp [Ne.symm hij]
     rw [this]
   ·have h1 := fillF_put (A1 := A1) (ops := ops) (d := oi.dst) (v := u) p a (fun j hj t ht => by
     have h3 := sh.nodup
     simp only [List.nodup_append, List.mem_append] at h3
     have hne : i ≠ j := fun h => h3.1.2.2 j (st.ps j hj) i hiv h.symm
     exact sh.dst i hh j (by simp [st.ps j hj]) hne t (by rw [hdo]; exact ht))
    rw [h1, st.eqA]
    exact fillV_put q A1 hdo
   ·rcases List.mem_append.1 hx with hx | hx
    ·exact hst x.1 (hqv x hx) _ _ _ (st.qok x hx) st.bel hw'
    ·have : x = (i, u) := by simpa using hx
     subst this
     exact hV
  · -- the tail waits
   exfalso
   have hex2 : ∃ j, (j ∈ p ∨ j ∈ pv) ∧ j ∉ eg := by
    obtain ⟨j, hj⟩ := hex
    by_cases hje : j ∈ eg
    ·obtain ⟨hjf, oj, hoj, _, hdeps, _⟩ := eager_spec heg j hje
     have h3 := sh.nodup
     simp only [List.nodup_append, List.mem_append] at h3
     have hjp : j ∈ p := hj.elim id (fun h => absurd rfl (h3.1.2.2 j hjf j (hvi j h)))
     have hju : listed.getD j true = false := (st.un j).2 (.inl hjp)
     have hnr : ¬ ∀ e ∈ oj.after, Region.binds .any e = true → listed.getD e.on false = true := fun h => hE ⟨j, hjp, hje, mem_ready.2 ⟨hju, oj, hoj, h⟩⟩
     simp only [Classical.not_forall] at hnr
     obtain ⟨e, he, hb, hne'⟩ := hnr
     have hd := hdeps e he hb
     have h1 : e.on < listed.size := by rw [st.closed.1]; exact sh.all _ (.inl hd.1)
     have hu : listed.getD e.on true = false := by
      simp [h1] at hne' ⊢
      exact hne'
     rcases (st.un _).1 hu with h | h | h
     ·exact ⟨e.on, .inl h, hd.2⟩
     ·exact ⟨e.on, .inr h, hd.2⟩
     ·exact absurd rfl (h3.2.2 e.on (.inl hd.1) e.on h)
    ·exact ⟨j, hj, hje⟩
   obtain ⟨j, hj, hje⟩ := hex2
   have hjh : j ∈ fx ++ vsI := by
    rcases hj with h | h
    ·simp [st.ps j h]
    ·simp [hvi j h]
   have hju : listed.getD j true = false := (st.un j).2 (hj.elim .inl (fun h => .inr (.inl h)))
   rcases htl i hitl with h | ⟨k', hk', ⟨m, hm⟩, hV⟩
   ·obtain ⟨m, hm⟩ := h j hjh hje
    exact not_both hju (waitsT_ready st.closed hi hm)
   ·have h1 := waitsT_ready st.closed hi hm
    have h2 : k' ∈ pv ++ q.map Prod.fst := st.vn.mem_iff.2 hk'
    rcases List.mem_append.1 h2 with h2 | h2
    ·exact not_both ((st.un k').2 (.inr (.inl h2))) h1
    ·obtain ⟨x, hx, rfl⟩ := List.mem_map.1 h2
     exact hV _ _ (st.qok x hx)
theorem region_regE {id : Nat} {a : Act} {w : World} {l : List Oper} (ntmps : Nat) (fl fx eg : List Nat) (vs : List (Nat × Tmp)) (tl : List Nat) (halt : Option Nat) (A1 : Act) (V : Nat → VP) (Z : List PanicEntry → World → Prop)
  (hm : P.follows .mixedOrders = true) (hB : regBE l.toArray ntmps fl fx eg vs tl halt = true) (hnt : ntmps ≤ a.tmps.size)
  (hQ : ∀ c a a' w, Act.defers a = Act.defers a' → Q (.panic c) a w → Q (.panic c) a' w)
  (h1 : ∀ (I : Type) (F : I → World), Nonempty I → ((∀ i u, Below (F i).heap.size (F i) u → ∃ j, u = F j) ∧ ∀ i, Below w.heap.size w (F i)) → wpQuiet P l.toArray (fun u => ∃ i, u = F i) (fun a' => a' = A1) (selN l (fl ++ fx)) a)
  (hst : ∀ x ∈ vs, ∀ v u u', V x.1 v u → Below w.heap.size w u → Below u.heap.size u u' → V x.1 v u')
  (hvs : ∀ x ∈ vs, ∀ o ∈ selN l [x.1], ∀ u, Below w.heap.size w u → valsAt P (fun v u' => Below u.heap.size u u' ∧ V x.1 v u') Z ((execOp A1.eval o).run P u))
  (hZ : ∀ c (a' : Act) u, a'.defers = a.defers → Z c u → Q (.panic c) a' u)
  (hhalt : ∀ k, halt = some k → ∀ v u, ¬ V k v u)
  (hend : halt = none → ∀ (f : Nat → Value) u, Below w.heap.size w u → (∀ x ∈ vs, V x.1 (f x.1) u) → wpList P l.toArray Q (selN l tl) (vs.foldl (fun a x => a.put (some x.2) (f x.1)) A1) u) : (Code.region id l.toArray true).wp P Q a w := by
 simp only [regBE, Bool.and_eq_true, List.all_eq_true, decide_eq_true_eq, List.mem_range, Bool.or_eq_true] at hB
 obtain ⟨⟨⟨⟨⟨⟨⟨⟨⟨⟨⟨⟨⟨⟨c1, c2⟩, c3⟩, c4⟩, c5⟩, c6⟩, c7⟩, c8⟩, c9⟩, c10⟩, c11⟩, c12⟩, c13⟩, c14⟩, c15⟩ := hB
 have hsel := Region.noSelect_spec c1
 have hlen : l.toArray.size = l.length := by simp
 have c4' : ∀ i ∈ fl ++ (fx ++ vs.map Prod.fst ++ tl), i < l.length := fun i hi => by have := c4 i hi; omega
 have hfits : ∀ c : List Nat, (∀ i ∈ c, i ∈ fl ++ (fx ++ vs.map Prod.fst ++ tl)) → fitsN l.toArray c (selN l c) := fun c hc => fits_selN c (fun i hi => c4' i (hc i hi))
 have hff := hfits (fl ++ fx) (fun i hi => by simp at hi ⊢; rcases hi with h | h <;> simp [h])
 have hpair := pairsB_spec _ c12
 have hdd : ∀ i ∈ fl ++ fx, blind l.toArray i i = true ∧ ∃ d, dstOf l.toArray i = some d ∧ d < a.tmps.size := fun i hi => by
  have := c11 i hi
  refine ⟨this.1, ?_⟩
  cases hd : dstOf l.toArray i with
  | none => rw [hd] at this; cases this.2
  | some d =>
   rw [hd] at this
   have h2 : d < ntmps := by simpa using this.2
   exact ⟨d, rfl, Nat.lt_of_lt_of_le h2 hnt⟩
 have hfixed := fixed_all (P := P) (B := w.heap.size) (W := w) hsel (fl ++ fx) _ a hff h1 hpair hdd (Nat.le_refl _)
 have hA0 := act_of_walk hsel (fl ++ fx) _ a hff (h1 { u : World // Below w.heap.size w u } (fun x => x.1) ⟨⟨w, Below.refl _ _⟩⟩ ⟨fun x u hu => ⟨⟨u, x.2.trans (hu.mono x.2.size)⟩, rfl⟩, fun x => x.2⟩) hpair hdd
 have hslot := walk_slot (A1 := A1) ntmps [] [] A1 trivial (C := fun _ => True) (P := P) (ops := l.toArray) rfl (by simp)
 have hdefA : A1.defers = a.defers := by
  have key : ∀ (c : List Nat) (b : Act), (fillF l.toArray A1 b c).defers = b.defers := by
   intro c
   induction c with
   | nil => intro b; rfl
   | cons i c ih => intro b; show (fillF l.toArray A1 (b.put _ _) c).defers = b.defers; rw [ih, put_defers]
  rw [hA0]; exact key _ _
 -- the shape of what is left behind the floaters
 have hnd := List.nodup_append.1 c2
 have sh : Shape l.toArray fx (vs.map Prod.fst) tl := by
  refine ⟨hnd.2.1, fun i hi => c4 i (by simp at hi ⊢; rcases hi with h | h | h <;> simp [h]), fun i o ho e he hb => ?_, fun i hi j hj => ?_, fun i hi j hj => c7 i hi j hj, fun i hi j hj hne t ht => ?_, fun i hi o ho => ?_⟩
  ·have hi : i < l.toArray.size := (Array.getElem?_eq_some_iff.1 ho).1
   have h2 := c5 i hi
   rw [ho] at h2
   have h3 := Array.all_eq_true'.1 h2 e he
   simp [hb] at h3
   exact h3
  ·rcases c6 i hi j hj with h | h
   ·exact .inl h
   ·exact .inr ⟨_, h⟩
  ·have h2 := c8 i hi j hj
   rw [ht] at h2
   simpa [hne] using h2
  ·obtain ⟨x, hx, rfl⟩ := List.mem_map.1 hi
   have h2 := (c9 x hx).1
   rw [ho] at h2
   simpa using h2
 have hvn : (vs.map Prod.fst).Nodup := (List.nodup_append.1 (List.nodup_append.1 hnd.2.1).1).2.1
 have hfx : ∀ i ∈ fx, ∃ o, l.toArray[i]? = some o ∧ YG P l.toArray w.heap.size w o (valOf l.toArray A1 i) A1 := fun i hi => hfixed i (by simp [hi])
 have hopAt : ∀ i, i < l.length → ∃ o, l.toArray[i]? = some o ∧ selN l [i] = [o] := fun i hi => by
  have h2 := fits_selN (l := l) [i] (by simpa using hi)
  unfold selN at h2 ⊢
  cases hd : l.drop i with
  | nil => simp at hd; omega
  | cons o r => rw [hd] at h2; exact ⟨o, h2.1, rfl⟩
 have hvs' : ∀ i ∈ vs.map Prod.fst, ∃ o, l.toArray[i]? = some o ∧ ∀ u, Below w.heap.size w u → valsAt P (fun v u' => Below u.heap.size u u' ∧ V i v u') Z ((execOp A1.eval o).run P u) := fun i hi => by
  obtain ⟨x, hx, rfl⟩ := List.mem_map.1 hi
  obtain ⟨o, ho, hs⟩ := hopAt x.1 (c4' _ (by simp; exact .inr (.inr (.inl ⟨x.2, hx⟩))))
  exact ⟨o, ho, hvs x hx o (by rw [hs]; simp)⟩
 have hst' : ∀ i ∈ vs.map Prod.fst, ∀ v u u', V i v u → Below w.heap.size w u → Below u.heap.size u u' → V i v u' := fun i hi => by
  obtain ⟨x, hx, rfl⟩ := List.mem_map.1 hi
  exact hst x hx
 have htl : ∀ t ∈ tl, (∀ h ∈ fx ++ vs.map Prod.fst, h ∉ eg → ∃ m, waitsT .any l.toArray m t h = true) ∨ ∃ k ∈ vs.map Prod.fst, (∃ m, waitsT .any l.toArray m t k = true) ∧ ∀ v u, ¬ V k v u := fun t ht => by
  cases hh : halt with
  | none =>
   rw [hh] at c10
   simp only [Bool.and_eq_true, List.all_eq_true] at c10
   exact .inl fun h hm hne => ⟨_, by have h2 := c10.1 t ht h hm; simpa [hne] using h2⟩
  | some k =>
   rw [hh] at c10
   simp only [Bool.and_eq_true, List.all_eq_true] at c10
   exact .inr ⟨k, by simpa using c10.1, ⟨_, c10.2 t ht⟩, hhalt k hh⟩
 have hfin : ∀ (listed : Array Bool) (q : List (Nat × Value)) (u : World), Below w.heap.size w u → (q.map Prod.fst).Perm (vs.map Prod.fst) → (∀ x ∈ q, V x.1 x.2 u) → listed.size = l.toArray.size → (∀ i, listed.getD i true = false ↔ i ∈ tl) →
   wpAnyF P .any l.toArray Q (Below w.heap.size w) tl tl.length listed (fillV l.toArray A1 q) u := by
  intro listed q u hu hq hqv hls hun
  cases hh : halt with
  | some k =>
   exfalso
   rw [hh] at c10
   simp only [Bool.and_eq_true, List.all_eq_true] at c10
   have hk : k ∈ q.map Prod.fst := hq.mem_iff.2 (by simpa using c10.1)
   obtain ⟨x, hx, rfl⟩ := List.mem_map.1 hk
   exact hhalt _ hh _ _ (hqv x hx)
  | none =>
   rw [hh] at c10
   simp only [Bool.and_eq_true, List.all_eq_true] at c10
   have hL : listed = (Array.range l.toArray.size).map fun i => !tl.contains i := by
    refine Array.ext (by simpa using hls) (fun i hi1 hi2 => ?_)
    have h2 := hun i
    simp [hi1] at h2
    simp
    by_cases hi : i ∈ tl
    ·simp [hi, h2.2 hi]
    ·have h3 : ¬ listed[i] = false := fun h => hi (h2.1 h)
     simp [hi]
     simpa using h3
   refine wpAnyF_seq tl (selN l tl) listed _ u (hfits tl (fun i hi => by simp [hi])) (fun t ht => ht) (by rw [hL]; exact c10.2) ?_
   -- the values by number
   have hqn : (q.map Prod.fst).Nodup := (hq.nodup_iff).2 hvn
   obtain ⟨f, hf⟩ : ∃ f : Nat → Value, ∀ x ∈ q, f x.1 = x.2 := by
    refine ⟨fun i => ((q.find? fun x => x.1 == i).map Prod.snd).getD undef, fun x hx => ?_⟩
    have : q.find? (fun y => y.1 == x.1) = some x := by
     clear hq hqv
     induction q with
     | nil => cases hx
     | cons y q ih =>
      simp only [List.map_cons, List.nodup_cons] at hqn
      by_cases hyx : y.1 = x.1
      ·rcases List.mem_cons.1 hx with h | h
       ·subst h; simp
       ·exact absurd (List.mem_map.2 ⟨x, h, hyx.symm⟩) hqn.1
      ·have hx' : x ∈ q := by
        rcases List.mem_cons.1 hx with h | h
        ·subst h; exact absurd rfl hyx
        ·exact h
       rw [List.find?_cons_of_neg (by simpa using hyx)]
       exact ih hqn.2 hx'
    simp [this]
   have hq2 : q = (q.map Prod.fst).map fun i => (i, f i) := by
    rw [List.map_map]
    conv => lhs; rw [← List.map_id q]
    exact List.map_congr_left fun x hx => by simp [hf x hx]
   have hperm : q.Perm ((vs.map Prod.fst).map fun i => (i, f i)) := by
    rw [hq2]
    exact hq.map _
   have hfill : fillV l.toArray A1 q = vs.foldl (fun a x => a.put (some x.2) (f x.1)) A1 := by
    rw [fillV_perm hperm (fun x hx y hy hxy t ht => ?_) A1]
    ·have key : ∀ (c : List (Nat × Tmp)) (b : Act), (∀ x ∈ c, dstOf l.toArray x.1 = some x.2) → fillV l.toArray b ((c.map Prod.fst).map fun i => (i, f i)) = c.foldl (fun a x => a.put (some x.2) (f x.1)) b := by
      intro c
      induction c with
      | nil => intro b _; rfl
      | cons x c ih =>
       intro b hc
       show fillV l.toArray (b.put (dstOf l.toArray x.1) (f x.1)) _ = _
       rw [hc x (by simp), ih _ (fun y hy => hc y (by simp [hy]))]
       rfl
     exact key vs A1 (fun x hx => by simpa using (c9 x hx).2)
    ·have hxm := hq.mem_iff.1 (List.mem_map.2 ⟨x, hx, rfl⟩)
     have hym := hq.mem_iff.1 (List.mem_map.2 ⟨y, hy, rfl⟩)
     have hne : x.1 ≠ y.1 := fun h => hxy (by
      have h2 := hf x hx
      have h3 := hf y hy
      rw [h] at h2
      exact Prod.ext h (h2.symm.trans h3))
     exact sh.dst x.1 (by simp only [List.mem_append]; exact .inr hxm) y.1 (by simp only [List.mem_append]; exact .inr hym) hne t ht
   rw [hfill]
   refine hend hh f u hu fun x hx => ?_
   have hxm : x.1 ∈ q.map Prod.fst := hq.mem_iff.2 (List.mem_map.2 ⟨x, hx, rfl⟩)
   obtain ⟨y, hy, hyx⟩ := List.mem_map.1 hxm
   have := hqv y hy
   rw [← hf y hy, hyx] at this
   exact this
 refine wp_region_any hm ?_
 change wpAny P .any l.toArray Q _ _ a w.drew
 have hcl0 : Closed .any l.toArray (Array.replicate l.toArray.size false) := ⟨by simp, fun j oj _ hl => (by rw [getD_replicate_false] at hl; cases hl)⟩
 have hlenp : l.toArray.size = fl.length + ((fx.length + (vs.map Prod.fst).length) + tl.length) := by
  have h2 : (fl ++ (fx ++ vs.map Prod.fst ++ tl)).Perm (List.range l.toArray.size) := by
   refine (List.perm_ext_iff_of_nodup c2 List.nodup_range).2 fun i => ⟨fun hi => List.mem_range.2 (c4 i hi), fun hi => ?_⟩
   have := c3 i (List.mem_range.1 hi)
   simpa using this
  have h3 := h2.length_eq
  simp only [List.length_append, List.length_range] at h3
  omega
 have hblf : ∀ i ∈ fl, ∀ j ∈ fl ++ fx, blind l.toArray i j = true := fun i hi j hj => c14 i hi j hj
 have hF := float_first (P := P) (B := w.heap.size) (W := w) (S := Below w.heap.size w) (tl := tl) (A1 := A1) c1 hQ fl ((fx.length + (vs.map Prod.fst).length) + tl.length) (Array.replicate l.toArray.size false) a w.drew hcl0 c13
  (fun i hi => by
   obtain ⟨o, ho, hy⟩ := hfixed i (by simp [hi])
   have h2 := eval_fillF (A1 := A1) ho (fun cs b => hsel i o cs b ho) (fl ++ fx) a (fun j hj => hblf i hi j hj)
   rw [← hA0] at h2
   exact ⟨o, ho, hy, h2.1.symm, h2.2.symm⟩)
  (fun i hi j hj => hblf i hi j (by simp [hj])) ?_
 ·have h9 := wpAny_of_F _ _ _ _ hF
  rw [← hlenp] at h9
  exact h9
 ·intro listed hc he
  refine coreE (eg := eg) (Z := Z) (V := V) (fx := fx) (vsI := vs.map Prod.fst) hsel (Nat.le_refl _) sh hvn (fun c a' u hd hz => hZ c a' u (hd.trans hdefA) hz) hfx hst' hvs' hQ c15 htl hfin _ listed _ w.drew fx (vs.map Prod.fst) [] rfl
   ⟨hc, fun i => ?_, (List.nodup_append.1 (List.nodup_append.1 hnd.2.1).1).1, fun i hi => hi, by simp, ?_, by simp, (Below.refl _ _).drew, ?_⟩
  ·rw [he, (set_fold fl _ i).1]
   by_cases hi : i ∈ fl
   ·have h2 : ¬ (i ∈ fx ∨ i ∈ vs.map Prod.fst ∨ i ∈ tl) := fun h => hnd.2.2 i hi i (by simp only [List.mem_append]; rcases h with h | h | h <;> simp [h]) rfl
    simp only [hi, if_true]
    exact ⟨fun h => (by cases h), fun h => absurd h h2⟩
   ·rw [if_neg hi]
    rcases Nat.lt_or_ge i l.toArray.size with h | h
    ·have h2 := c3 i h
     simp only [List.contains_iff_mem, List.mem_append, hi, false_or] at h2
     rw [getD_in (by simpa using h) (getD_replicate_false _ _)]
     simp only [true_iff]
     rcases h2 with (h2 | h2) | h2 <;> simp [h2]
    ·have h2 : ¬ (i ∈ fx ∨ i ∈ vs.map Prod.fst ∨ i ∈ tl) := fun h2 => by
      have := c4 i (by simp only [List.mem_append]; rcases h2 with h2 | h2 | h2 <;> simp [h2])
      omega
     have h3 : (Array.replicate l.toArray.size false).getD i true = true := by
      rw [Array.getD_eq_getD_getElem?, Array.getElem?_eq_none (by simpa using h)]; rfl
     rw [h3]
     exact ⟨fun h => (by cases h), fun h => absurd h h2⟩
  ·have h2 : fillF l.toArray A1 (fillF l.toArray A1 a fl) fx = fillF l.toArray A1 a (fl ++ fx) := by unfold fillF; rw [List.foldl_append]
   rw [h2, ← hA0]; rfl
  ·have key : ∀ (c : List Nat) (b : Act), (fillF l.toArray A1 b c).defers = b.defers := by
    intro c
    induction c with
    | nil => intro b; rfl
    | cons i c ih => intro b; show (fillF l.toArray A1 (b.put _ _) c).defers = b.defers; rw [ih, put_defers]
   rw [key, hdefA]
theorem region_e1 {id : Nat} {a : Act} {w : World} {l : List Oper} (ntmps : Nat) (fl fx eg : List Nat) (k : Nat) (d : Tmp) (tl : List Nat) (A1 : Act) (V : VP)
  (hm : P.follows .mixedOrders = true) (hB : regBE l.toArray ntmps fl fx eg [(k, d)] tl none = true) (hnt : ntmps ≤ a.tmps.size)
  (hQ : ∀ c a a' w, Act.defers a = Act.defers a' → Q (.panic c) a w → Q (.panic c) a' w)
  (h1 : ∀ (I : Type) (F : I → World), Nonempty I → Fam w F → wpQuiet P l.toArray (fun u => ∃ i, u = F i) (fun a' => a' = A1) (selN l (fl ++ fx)) a)
  (hst : ∀ v u u', V v u → Below w.heap.size w u → Below u.heap.size u u' → V v u')
  (hv : ∀ o ∈ selN l [k], ∀ u, Below w.heap.size w u → valsAt P (fun v u' => Below u.heap.size u u' ∧ V v u') (fun _ _ => False) ((execOp A1.eval o).run P u))
  (hend : ∀ v u, Below w.heap.size w u → V v u → wpList P l.toArray Q (selN l tl) (A1.put (some d) v) u) : (Code.region id l.toArray true).wp P Q a w :=
 region_regE ntmps fl fx eg [(k, d)] tl none A1 (fun _ => V) (fun _ _ => False) hm hB hnt hQ h1 (fun _ _ => hst) (fun x hx => by
  have : x = (k, d) := by simpa using hx
  subst this; exact hv) (fun _ _ _ _ h => h.elim) (fun k hk => by cases hk) (fun _ f u hu hV => hend (f k) u hu (hV (k, d) (by simp)))
end
end Pl
end Go.Proofs.YtoncnjhhdlpliaaGreat
namespace Go.Proofs.YtoncnjhhdlpliaaGreat
open Go.RowKit
namespace Dr
open Ch Lk St Ln
set_option maxRecDepth 100000 in
set_option maxHeartbeats 4000000 in
theorem dclass_any (base gm g D : Nat) (sv : Value) (M : MachD) (xs : List Gl) (st pl steps rest : Int) (w : World) (hM : MachAt w (.pointer (some ⟨gm, 0, none⟩)) M) (hok : MachOk M) (hL : LineAt w base g sv xs) (hD : w.heap[D]? = some (.cells #[.pointer (some ⟨gm, 0, none⟩), .pointer (some ⟨g, 0, none⟩), .int .i64 st, .int .i64 pl, .int .i64 steps, .int .i64 rest] 207 (0, 0))) :
  Calls Tryz.prog 133 #[.pointer (some ⟨D, 0, none⟩)] w fun e w' => e = .returned (.tuple #[.int .i64 (classAt M xs pl).1, .bool (classAt M xs pl).2]) ∧ Below w.heap.size w w' := by
 have HATW := Bas.hid (fun (w' : World) (hb : Below w.heap.size w w') => at_any base g sv xs pl w' (hL.below hb))
 have HCL := Bas.hid (fun (w' : World) (hb : Below w.heap.size w w') (id : Int) => class_any _ M id w' (hM.below hb) hok)
 have HCA : Hid (classAt M xs pl = match glAt xs pl with | none => (0, true) | some g => (classM M g.1, false)) := rfl
 have lD := heap_lt hD
 have d0 := cell_of_heap (i := 0) hD rfl
 have d1 := cell_of_heap (i := 1) hD rfl
 have d3 := cell_of_heap (i := 3) hD rfl
 have HDD := Bas.hid hD
 clear hM hok hL hD
 cases hg : glAt xs pl with
 | none =>
  rw [hg] at HCA HATW
  simp only [atV] at HATW
  simp only at HCA
  clear hg
  go_enter Tryz.func133, Tryz.ntmps133
  go_wp2_with (fail)
  refine' Pl.region_e1 27 [] [0, 1, 2, 3, 4, 5, 6, 7, 8, 9, 10, 11] [11] 12 4 [13, 14] _ (fun v u => ∃ g, v = .pointer (some ⟨g, 0, none⟩) ∧ w.heap.size ≤ g ∧ u.heap[g]? = some (.cells #[.int .i64 0, .int .i64 0] 47 (0, 0))) (by kernel_rfl) (by kernel_rfl) (by simp) (fun _ _ _ _ e h => ⟨e ▸ h.1, h.2⟩) ?_ ?_ ?_ ?_
  rotate_left
  ·intro I F hI hF
   simp only [Pl.selN, List.nil_append, List.drop_succ_cons, List.drop_zero]
   have z1 := fun i => hF.cell lD d1 i
   have z3 := fun i => hF.cell lD d3 i
   repeat (go_big_quiet_step ((go_at_call 111; with_reducible exact hF.call (HATW.out _ (hF.bel _)))))
   refine wpQuiet_nil ?_
   rfl
  ·rintro v u u' ⟨g, h1, h2, h3⟩ hu hu'
   exact ⟨g, h1, h2, (hu'.block g (heap_lt h3)).trans h3⟩
  ·simp only [Pl.selN, List.drop_succ_cons, List.drop_zero, List.mem_singleton, forall_eq]
   intro u hu
   go_simp
   simp only [Pl.valsAt]
   exact ⟨(Below.refl _ _).alloc (Nat.le_refl _) _, _, rfl, hu.size, Bas.heap_new _ _⟩
  ·intro v u hu hv
   obtain ⟨T, rfl, hT, kT⟩ := hv
   simp only [Pl.selN, List.drop_succ_cons, List.drop_zero, Act.put, List.setIfInBounds_toArray, List.set_cons_zero, List.set_cons_succ]
   have HBu := Bas.hid hu
   have kD := (hu.block _ lD).trans HDD.out
   have hDT : D ≠ T := by omega
   have c0 := cell_of_heap (i := 0) kT rfl
   have c1 := cell_of_heap (i := 1) kT rfl
   have f0 := free_of_heap (i := 0) kT
   have f1 := free_of_heap (i := 1) kT
   clear d0 d1 d3 hu
   go_wp2_with (fail)
   obtain ⟨k8, hk8⟩ := set2 kT (.int .i64 0) (.int .i64 0)
   have HB8 := Bas.hid ((HBu.out.setCell (p := ⟨T, 0, none⟩) hT (.int .i64 0)).setCell (p := ⟨T, 1, none⟩) hT (.int .i64 0))
   clear c0 c1 f0 f1 kT k8 hk8
   go_ret2
   exact ⟨by rw [HCA.out]; rfl, HB8.out⟩
 | some x =>
  rw [hg] at HCA HATW
  obtain ⟨x0, x1⟩ := x
  simp only [atV] at HATW
  simp only at HCA
  clear hg
  go_enter Tryz.func133, Tryz.ntmps133
  go_wp2_with (fail)
  refine' Pl.region_e1 27 [] [0, 1, 2, 3, 4, 5, 6, 7, 8, 9, 10, 11] [11] 12 4 [13, 14] _ (fun v u => ∃ g, v = .pointer (some ⟨g, 0, none⟩) ∧ w.heap.size ≤ g ∧ u.heap[g]? = some (.cells #[.int .i64 0, .int .i64 0] 47 (0, 0))) (by kernel_rfl) (by kernel_rfl) (by simp) (fun _ _ _ _ e h => ⟨e ▸ h.1, h.2⟩) ?_ ?_ ?_ ?_
  rotate_left
  ·intro I F hI hF
   simp only [Pl.selN, List.nil_append, List.drop_succ_cons, List.drop_zero]
   have z1 := fun i => hF.cell lD d1 i
   have z3 := fun i => hF.cell lD d3 i
   repeat (go_big_quiet_step ((go_at_call 111; with_reducible exact hF.call (HATW.out _ (hF.bel _)))))
   refine wpQuiet_nil ?_
   rfl
  ·rintro v u u' ⟨g, h1, h2, h3⟩ hu hu'
   exact ⟨g, h1, h2, (hu'.block g (heap_lt h3)).trans h3⟩
  ·simp only [Pl.selN, List.drop_succ_cons, List.drop_zero, List.mem_singleton, forall_eq]
   intro u hu
   go_simp
   simp only [Pl.valsAt]
   exact ⟨(Below.refl _ _).alloc (Nat.le_refl _) _, _, rfl, hu.size, Bas.heap_new _ _⟩
  ·intro v u hu hv
   obtain ⟨T, rfl, hT, kT⟩ := hv
   simp only [Pl.selN, List.drop_succ_cons, List.drop_zero, Act.put, List.setIfInBounds_toArray, List.set_cons_zero, List.set_cons_succ]
   have HBu := Bas.hid hu
   have kD := (hu.block _ lD).trans HDD.out
   have hDT : D ≠ T := by omega
   have c0 := cell_of_heap (i := 0) kT rfl
   have c1 := cell_of_heap (i := 1) kT rfl
   have f0 := free_of_heap (i := 0) kT
   have f1 := free_of_heap (i := 1) kT
   clear d0 d1 d3 hu
   go_wp2_with (fail)
   obtain ⟨k8, hk8⟩ := set2 kT (.int .i64 x0) (.int .i64 x1)
   have HB8 := Bas.hid ((HBu.out.setCell (p := ⟨T, 0, none⟩) hT (.int .i64 x0)).setCell (p := ⟨T, 1, none⟩) hT (.int .i64 x1))
   have k9 := (hk8 _ hDT).trans kD
   clear c0 c1 f0 f1 kT hk8
   generalize (u.setCell ⟨T, 0, none⟩ (.int .i64 x0)).setCell ⟨T, 1, none⟩ (.int .i64 x1) = W8 at *
   have q0 := cell_of_heap (i := 0) k8 rfl
   have lT := heap_lt k8
   have p0 := cell_of_heap (i := 0) k9 rfl
   have lD9 := heap_lt k9
   refine' Pl.region_v0 27 [] [0, 1, 2, 3, 4, 5] [6, 7, 8] _ (by kernel_rfl) (by kernel_rfl) (by simp) (fun _ _ _ _ e h => ⟨e ▸ h.1, h.2⟩) ?_ ?_
   rotate_left
   ·intro I F hI hF
    simp only [Pl.selN, List.nil_append, List.drop_succ_cons, List.drop_zero]
    have z1 := fun i => hF.cell lT q0 i
    have z3 := fun i => hF.cell lD9 p0 i
    repeat (go_big_quiet_step (fail))
    refine wpQuiet_nil ?_
    rfl
   intro w9 hw9
   simp only [Pl.selN, List.drop_succ_cons, List.drop_zero]
   have HB9 := Bas.hid (HB8.out.trans (hw9.mono HB8.out.size))
   clear hw9 q0 p0 lT lD9 k8 k9
   go_wp2_with (fail)
   refine (HCL.out _ HB9.out x0).mono ?_
   rintro e w10 ⟨rfl, hb⟩
   have HB10 := Bas.hid (HB9.out.trans (hb.mono HB9.out.size))
   clear hb
   go_wp2_with (fail)
   go_ret2
   exact ⟨by rw [HCA.out]; rfl, HB10.out⟩
end Dr
end Go.Proofs.YtoncnjhhdlpliaaGreat
namespace Go.Proofs.YtoncnjhhdlpliaaGreat
open Go.RowKit
namespace Dr
open Ch Lk St Ln
structure Env {σ : Type} (M : MachD) (F : ActF σ) (R : σ → List Gl → (Nat → Prop) → World → Prop) (base gm g D K : Nat) (fst caps : Array Value) : Prop where
 ok : MachOk M
 mach : ∀ s xs S u, R s xs S u → MachAt u (.pointer (some ⟨gm, 0, none⟩)) M
 line : ∀ s xs S u, R s xs S u → ∃ sv, LineAt u base g sv xs
 set : ∀ s xs S u, R s xs S u → ∀ k, S k → k < u.heap.size ∧ k ≠ D
 stab : ∀ s xs S u u', R s xs S u → Mod (fun k => k = D) u u' → R s xs S u'
 act : ∀ s xs S u (pl : Int) (e : EntD), R s xs S u → D < u.heap.size → 0 ≤ pl → pl ≤ 4398046511104 → e ∈ M.ents → (0 ≤ e.flags ∧ e.flags ≤ 65535) → (0 ≤ e.a ∧ e.a ≤ 65535) → (0 ≤ e.b ∧ e.b ≤ 65535) →
  Calls Tryz.prog K (fst ++ (#[.int .i64 pl, .agg #[.int .i64 e.next, .int .i64 e.flags, .int .i64 e.a, .int .i64 e.b]] ++ caps)) u fun en u' =>
   en = .returned (.tuple #[.int .i64 (F s xs pl e).2.2.1, .int .i64 (F s xs pl e).2.2.2]) ∧ Mod S u u' ∧ ∃ S', R (F s xs pl e).1 (F s xs pl e).2.1 S' u'
 grow : ∀ s xs S u (pl : Int) (e : EntD), R s xs S u → 0 ≤ pl → (F s xs pl e).2.2.1 ≤ pl + 64 ∧ (F s xs pl e).2.2.2 ≤ pl + 64
def drvC (gm g : Nat) (st pl : Int) (steps rest : Nat) : Obj := .cells #[.pointer (some ⟨gm, 0, none⟩), .pointer (some ⟨g, 0, none⟩), .int .i64 st, .int .i64 pl, .int .i64 steps, .int .i64 rest] 207 (0, 0)
def StepP {σ : Type} (M : MachD) (F : ActF σ) (R : σ → List Gl → (Nat → Prop) → World → Prop) (gm g D : Nat) (w : World) (d : Dv σ) (e : Ending) (w' : World) : Prop :=
 e = .returned (.bool (dstep M F d).2) ∧ w.heap.size ≤ w'.heap.size ∧ w'.heap[D]? = some (drvC gm g (dstep M F d).1.state (dstep M F d).1.place (dstep M F d).1.steps (dstep M F d).1.rest) ∧ ∃ S', R (dstep M F d).1.st (dstep M F d).1.xs S' w'
end Dr
end Go.Proofs.YtoncnjhhdlpliaaGreat
namespace Go.Proofs.YtoncnjhhdlpliaaGreat
open Go.RowKit
namespace Pl
theorem fam_two (w : World) (D T : Nat) (oD oT : Obj) (h1 : w.heap[D]? = some oD) (h2 : w.heap[T]? = some oT) : ∃ (I : Type) (F : I → World) (i0 : I), w.drew = F i0 ∧ (∀ i, (F i).heap[D]? = some oD ∧ (F i).heap[T]? = some oT) ∧ ∀ u : World, u.heap[D]? = some oD → u.heap[T]? = some oT → ∃ j, u = F j :=
 ⟨{ u : World // u.heap[D]? = some oD ∧ u.heap[T]? = some oT }, fun i => i.1, ⟨w.drew, h1, h2⟩, rfl, fun i => i.2, fun u h3 h4 => ⟨⟨u, h3, h4⟩, rfl⟩⟩
end Pl
namespace Dr
open Ch Lk St Ln
theorem i64_and_nat (a b : Nat) (ha : a < 4294967296) (hb : b < 4294967296) : bits .and .i64 (a : Int) (b : Int) = ((a &&& b : Nat) : Int) := by
 have hx : a &&& b < 2 ^ 32 := Nat.and_lt_two_pow _ (by omega)
 have h1 : (BitVec.ofInt 64 (a : Int)).toNat = a := by
  rw [BitVec.ofInt_natCast, BitVec.toNat_ofNat]; exact Nat.mod_eq_of_lt (by omega)
 have h2 : (BitVec.ofInt 64 (b : Int)).toNat = b := by
  rw [BitVec.ofInt_natCast, BitVec.toNat_ofNat]; exact Nat.mod_eq_of_lt (by omega)
 show IntKind.i64.wrap ((BitVec.ofInt 64 (a : Int) &&& BitVec.ofInt 64 (b : Int)).toNat : Int) = _
 rw [BitVec.toNat_and, h1, h2, IntKind.wrap_i64]
 omega
theorem i64_bit (x : Int) (h0 : 0 ≤ x) (h1 : x ≤ 65535) : bits .and .i64 x 16384 = x / 16384 % 2 * 16384 := by
 obtain ⟨n, rfl⟩ := Int.eq_ofNat_of_zero_le h0
 have h := i64_and_nat n 16384 (by omega) (by omega)
 rw [show (n &&& 16384 : Nat) = n / 2 ^ 14 % 2 * 2 ^ 14 from nat_bit 14 n] at h
 rw [show (16384 : Int) = ((16384 : Nat) : Int) from rfl, h]
 simp
set_option maxRecDepth 100000 in
set_option maxHeartbeats 8000000 in
theorem dstep_any {σ : Type} (M : MachD) (F : ActF σ) (R : σ → List Gl → (Nat → Prop) → World → Prop) (base gm g D K : Nat) (fst caps : Array Value) (E : Env M F R base gm g D K fst caps) (hcf : ∀ args w, (callFunc K args).run Tryz.prog w = .ok (.enter K args) w)
  (s : σ) (xs : List Gl) (S : Nat → Prop) (sn : Nat) (pl : Int) (steps rest : Nat) (w : World) (hR : R s xs S w) (hsn : sn < M.rows.length) (hpl : 0 ≤ pl) (hpl2 : pl ≤ 4398046511104) (hst : steps ≤ 1099511627776) (hre : rest ≤ 1099511627776) (hD : w.heap[D]? = some (drvC gm g sn pl steps rest)) :
  Calls Tryz.prog 103 #[.pointer (some ⟨D, 0, none⟩), .func (.func K) fst caps] w (StepP M F R gm g D w ⟨s, xs, sn, pl, steps, rest⟩) := by
 obtain ⟨sv, hL⟩ := E.line s xs S w hR
 have hM := E.mach s xs S w hR
 have HCL := Bas.hid (dclass_any base gm g D sv M xs sn pl steps rest w hM E.ok hL hD)
 have hcb := classAt_bd E.ok xs pl
 obtain ⟨cn, hcn⟩ := Int.eq_ofNat_of_zero_le hcb.1
 obtain ⟨cb, hcb2⟩ : ∃ cb, (classAt M xs pl).2 = cb := ⟨_, rfl⟩
 have hcM : cn < M.classes := by have := hcb.2; rw [hcn] at this; simpa using this
 have hsb := stepM_bd E.ok (s := sn) (c := cn) ⟨by omega, by simpa using hsn⟩ ⟨by omega, by simpa using hcM⟩
 have hmem : stepM M (sn : Int) (cn : Int) ∈ M.ents := by
  obtain ⟨_, _, e, _, _, _, _, he, h1⟩ := stepM_in E.ok (s := sn) (c := cn) ⟨by omega, by simpa using hsn⟩ ⟨by omega, by simpa using hcM⟩
  rw [h1]; exact List.mem_of_getElem? he
 have HST := Bas.hid (fun (w' : World) (hb : Below w.heap.size w w') => step_any _ M sn cn w' (hM.below hb) E.ok hsn hcM)
 obtain ⟨en, hen⟩ : ∃ en, stepM M (sn : Int) (cn : Int) = en := ⟨_, rfl⟩
 rw [hcn, hcb2] at HCL
 rw [hen] at HST hsb hmem
 obtain ⟨r, hr⟩ : ∃ r, F s xs pl en = r := ⟨_, rfl⟩
 have HACT := Bas.hid (fun (u : World) (hm : Mod (fun k => k = D) w u) => E.act s xs S u pl en (E.stab s xs S w u hR hm) (Nat.lt_of_lt_of_le (heap_lt hD) hm.size) hpl hpl2 hmem hsb.2.1 hsb.2.2.1 hsb.2.2.2)
 rw [hr] at HACT
 have HDS : Hid (dstep M F ⟨s, xs, sn, pl, steps, rest⟩ = if en.flags / 16384 % 2 = 1 then (⟨r.1, r.2.1, en.next, max r.2.2.1 0, steps + 1, rest + 1⟩, false) else (⟨r.1, r.2.1, en.next, max r.2.2.2 0, steps + 1, 0⟩, cb)) := by
  unfold Hid dstep
  simp only [hcn, hcb2, hen, hr]
 have HSET := Bas.hid (E.set s xs S w hR)
 have HSTAB := Bas.hid E.stab
 have hfl := hsb.2.1
 have lD := heap_lt hD
 obtain ⟨en0, en1, en2, en3⟩ := en
 obtain ⟨r0, r1, r2, r3⟩ := r
 simp only at HST HACT HDS hfl
 unfold drvC at hD
 have d0 := cell_of_heap (i := 0) hD rfl
 have d1 := cell_of_heap (i := 1) hD rfl
 have d2 := cell_of_heap (i := 2) hD rfl
 have d3 := cell_of_heap (i := 3) hD rfl
 have HD := Bas.hid hD
 clear hL hM hcb hcn hcb2 hcM hsb hen hmem hr hD hR E d0 d1 d2 d3
 go_enter Tryz.func103, Tryz.ntmps103
 go_wp2_with (fail)
 refine HCL.out.mono ?_
 rintro e w1 ⟨rfl, hb1⟩
 have k1 := (hb1.block _ lD).trans HD.out
 have HB1 := Bas.hid hb1
 have lD1 := heap_lt k1
 clear hb1 HCL
 go_wp2_with (fail)
 have d0 := cell_of_heap (i := 0) k1 rfl
 have d2 := cell_of_heap (i := 2) k1 rfl
 refine' Pl.region_e1 76 [] [0, 1, 2, 3, 4, 5, 6, 7, 8, 9, 10, 11, 12] [12] 13 7 [14, 15] _ (fun v u => ∃ g, v = .pointer (some ⟨g, 0, none⟩) ∧ w1.heap.size ≤ g ∧ u.heap[g]? = some (.cells #[.int .i64 0, .int .i64 0, .int .i64 0, .int .i64 0] 162 (0, 0))) (by kernel_rfl) (by kernel_rfl) (by simp) (fun _ _ _ _ e h => ⟨e ▸ h.1, h.2⟩) ?_ ?_ ?_ ?_
 rotate_left
 ·intro I F hI hF
  simp only [Pl.selN, List.nil_append, List.drop_succ_cons, List.drop_zero]
  have z0 := fun i => hF.cell lD1 d0 i
  have z2 := fun i => hF.cell lD1 d2 i
  repeat (go_big_quiet_step ((go_at_call 134; with_reducible exact hF.call (HST.out _ (hF.on HB1.out _)))))
  refine wpQuiet_nil ?_
  rfl
 ·rintro v u u' ⟨g, h1, h2, h3⟩ hu hu'
  exact ⟨g, h1, h2, (hu'.block g (heap_lt h3)).trans h3⟩
 ·simp only [Pl.selN, List.drop_succ_cons, List.drop_zero, List.mem_singleton, forall_eq]
  intro u hu
  go_simp
  simp only [Pl.valsAt]
  exact ⟨(Below.refl _ _).alloc (Nat.le_refl _) _, _, rfl, hu.size, Bas.heap_new _ _⟩
 ·intro v u hu hv
  obtain ⟨T, rfl, hT, kT⟩ := hv
  simp only [Pl.selN, List.drop_succ_cons, List.drop_zero, Act.put, List.setIfInBounds_toArray, List.set_cons_zero, List.set_cons_succ]
  have HM2 := Bas.hid ((Mod.of_below (S := fun k => k = D) HB1.out).on hu)
  have kD := (hu.block _ lD1).trans k1
  have hDT : D ≠ T := by omega
  have hTw : w.heap.size ≤ T := Nat.le_trans HB1.out.size hT
  have c0 := cell_of_heap (i := 0) kT rfl
  have c1 := cell_of_heap (i := 1) kT rfl
  have c2 := cell_of_heap (i := 2) kT rfl
  have c3 := cell_of_heap (i := 3) kT rfl
  have f0 := free_of_heap (i := 0) kT
  have f1 := free_of_heap (i := 1) kT
  have f2 := free_of_heap (i := 2) kT
  have f3 := free_of_heap (i := 3) kT
  have b2 := cell_of_heap (i := 2) kD rfl
  have b3 := cell_of_heap (i := 3) kD rfl
  have b4 := cell_of_heap (i := 4) kD rfl
  have b5 := cell_of_heap (i := 5) kD rfl
  have g2 := free_of_heap (i := 2) kD
  have g3 := free_of_heap (i := 3) kD
  have g4 := free_of_heap (i := 4) kD
  have g5 := free_of_heap (i := 5) kD
  have lDu := heap_lt kD
  have lTu := heap_lt kT
  clear d0 d2 hu k1 lD1 hT
  go_wp2_with (fail)
  obtain ⟨k8, hk8⟩ := set4 kT (.int .i64 en0) (.int .i64 en1) (.int .i64 en2) (.int .i64 en3)
  have kD8 := (hk8 _ hDT).trans kD
  have kD9 := heap_set (i := 4) kD8 (.int .i64 ((steps : Int) + 1))
  have kD10 := heap_set (i := 2) kD9 (.int .i64 en0)
  have kT10 : ((((((u.setCell ⟨T, 0, none⟩ (.int .i64 en0)).setCell ⟨T, 1, none⟩ (.int .i64 en1)).setCell ⟨T, 2, none⟩ (.int .i64 en2)).setCell ⟨T, 3, none⟩ (.int .i64 en3)).setCell ⟨D, 4, none⟩ (.int .i64 ((steps : Int) + 1))).setCell ⟨D, 2, none⟩ (.int .i64 en0)).heap[T]? = some (.cells #[.int .i64 en0, .int .i64 en1, .int .i64 en2, .int .i64 en3] 162 (0, 0)) := (Below.heap_setCell _ _ _ _ (by exact hDT.symm)).trans ((Below.heap_setCell _ _ _ _ (by exact hDT.symm)).trans k8)
  have kD10 : ((((((u.setCell ⟨T, 0, none⟩ (.int .i64 en0)).setCell ⟨T, 1, none⟩ (.int .i64 en1)).setCell ⟨T, 2, none⟩ (.int .i64 en2)).setCell ⟨T, 3, none⟩ (.int .i64 en3)).setCell ⟨D, 4, none⟩ (.int .i64 ((steps : Int) + 1))).setCell ⟨D, 2, none⟩ (.int .i64 en0)).heap[D]? = some (.cells #[.pointer (some ⟨gm, 0, none⟩), .pointer (some ⟨g, 0, none⟩), .int .i64 en0, .int .i64 pl, .int .i64 ((steps : Int) + 1), .int .i64 rest] 207 (0, 0)) := kD10
  have HM10 := Bas.hid ((((((HM2.out.set (b := T) (o := 0) (.int .i64 en0) (.inr hTw)).set (b := T) (o := 1) (.int .i64 en1) (.inr hTw)).set (b := T) (o := 2) (.int .i64 en2) (.inr hTw)).set (b := T) (o := 3) (.int .i64 en3) (.inr hTw)).set (b := D) (o := 4) (.int .i64 ((steps : Int) + 1)) (.inl rfl)).set (b := D) (o := 2) (.int .i64 en0) (.inl rfl))
  clear c0 c1 c2 c3 f0 f1 f2 f3 b2 b3 b4 b5 g2 g3 g4 g5 lDu lTu k8 hk8 kD8 kD9 kT kD HM2
  generalize ((((((u.setCell ⟨T, 0, none⟩ (.int .i64 en0)).setCell ⟨T, 1, none⟩ (.int .i64 en1)).setCell ⟨T, 2, none⟩ (.int .i64 en2)).setCell ⟨T, 3, none⟩ (.int .i64 en3)).setCell ⟨D, 4, none⟩ (.int .i64 ((steps : Int) + 1))).setCell ⟨D, 2, none⟩ (.int .i64 en0)) = W at *
  obtain ⟨RI, RF, Ri, RF0, RFk, RFw⟩ := Pl.fam_two W D T _ _ kD10 kT10
  have RFH := Bas.hid RF0
  have RhI : Nonempty RI := ⟨Ri⟩
  have RFW := Bas.hid RFw
  have z3 := fun i => cell_of_heap (i := 3) (v := .int .i64 pl) (RFk i).1 rfl
  have t0 := fun i => cell_of_heap (i := 0) (v := .int .i64 en0) (RFk i).2 rfl
  have t1 := fun i => cell_of_heap (i := 1) (v := .int .i64 en1) (RFk i).2 rfl
  have t2 := fun i => cell_of_heap (i := 2) (v := .int .i64 en2) (RFk i).2 rfl
  have t3 := fun i => cell_of_heap (i := 3) (v := .int .i64 en3) (RFk i).2 rfl
  have HKD := Bas.hid kD10
  have HKT := Bas.hid kT10
  clear RF0 RFw RFk kD10 kT10
  refine Pl.region_plan0 Ri [(true, 0), (true, 1), (true, 2), (true, 3), (true, 4), (true, 5), (false, 6), (true, 7), (true, 8), (true, 9), (true, 10), (true, 11)] [] (by kernel_rfl) (by kernel_rfl) (fun _ _ _ _ e h => ⟨e ▸ h.1, h.2⟩) RFH.out ?_
  refine Pl.head_sel0 [(true, 0), (true, 1), (true, 2), (true, 3), (true, 4), (true, 5)] (by kernel_rfl) (by kernel_rfl) ?_
  simp only [Pl.sel, List.drop_succ_cons, List.drop_zero]
  repeat (go_big_quiet_step (fail))
  refine wpQuiet_nil ?_
  rw [← RFH.out]
  clear z3 t0 t1 t2 t3
  refine Pl.one_sel (by kernel_rfl) ?_
  intro Q' hQ' hP'
  simp only [Pl.sel, List.drop_succ_cons, List.drop_zero]
  go_wp2_with (fail)
  refine (HACT.out _ HM10.out.drew).mono ?_
  rintro e w11 ⟨rfl, hm11, S', hR'⟩
  have kD11 := hm11.heap (b := D) HKD.out (fun h => (HSET.out D h).2 rfl)
  have kT11 := hm11.heap (b := T) HKT.out (fun h => by have := (HSET.out T h).1; omega)
  have HS11 : Hid (w.heap.size ≤ w11.heap.size) := Nat.le_trans HM10.out.size hm11.size
  have HR11 := Bas.hid hR'
  clear hm11 hR'
  go_wp2_with (fail)
  refine hQ' _ _ (fun _ _ => RFW.out _ kD11 kT11) ?_
  clear hQ' hP' Q' RFW RFH
  refine Pl.head_sel0 (rest := []) [(true, 7), (true, 8), (true, 9), (true, 10), (true, 11)] (by kernel_rfl) (by kernel_rfl) ?_
  simp only [Pl.sel, List.drop_succ_cons, List.drop_zero]
  repeat (go_big_quiet_step (fail))
  refine wpQuiet_nil ?_
  simp only [Pl.walkM]
  have t1 := cell_of_heap (i := 1) (v := .int .i64 en1) kT11 rfl
  have b3 := cell_of_heap (i := 3) (v := .int .i64 pl) kD11 rfl
  have b5 := cell_of_heap (i := 5) (v := .int .i64 rest) kD11 rfl
  have g3 := free_of_heap (i := 3) kD11
  have g5 := free_of_heap (i := 5) kD11
  have lD := heap_lt kD11
  by_cases hf : en1 / 16384 % 2 = 1
  ·have hb : bits .and .i64 en1 16384 = 16384 := by rw [i64_bit en1 hfl.1 hfl.2, hf]; rfl
   have HF := Bas.hid hf
   clear hf
   by_cases hr : r2 < 0
   ·have e1 : decide (r2 < 0) = true := by simpa using hr
    have hr2 : r2 < 0 := by omega
    have HMX : Hid (max r2 0 = 0) := by unfold Hid; omega

    go_wp2_with (fail)
    have q3 := heap_set (i := 3) kD11 (.int .i64 0)
    have q5 := heap_set (i := 5) q3 (.int .i64 ((rest : Int) + 1))
    have HS13 : Hid (R r0 r1 S' ((w11.setCell ⟨D, 3, none⟩ (.int .i64 0)).setCell ⟨D, 5, none⟩ (.int .i64 ((rest : Int) + 1)))) := HSTAB.out _ _ _ _ _ HR11.out (((Mod.refl (fun k => k = D) w11).set (b := D) (o := 3) (.int .i64 0) (.inl rfl)).set (b := D) (o := 5) (.int .i64 ((rest : Int) + 1)) (.inl rfl))
    have HZ : Hid (w.heap.size ≤ ((w11.setCell ⟨D, 3, none⟩ (.int .i64 0)).setCell ⟨D, 5, none⟩ (.int .i64 ((rest : Int) + 1))).heap.size) := by unfold Hid; simpa [World.setCell] using HS11.out
    clear b3 b5 g3 g5 t1
    go_ret
    unfold StepP
    rw [HDS.out, if_pos HF.out]
    simp only [HMX.out]
    exact ⟨rfl, HZ.out, q5, S', HS13.out⟩
   ·have e1 : decide (r2 < 0) = false := by simpa using hr
    have hr2 : 0 ≤ r2 := by omega
    have HMX : Hid (max r2 0 = r2) := by unfold Hid; omega

    go_wp2_with (fail)
    have q3 := heap_set (i := 3) kD11 (.int .i64 r2)
    have q5 := heap_set (i := 5) q3 (.int .i64 ((rest : Int) + 1))
    have HS13 : Hid (R r0 r1 S' ((w11.setCell ⟨D, 3, none⟩ (.int .i64 r2)).setCell ⟨D, 5, none⟩ (.int .i64 ((rest : Int) + 1)))) := HSTAB.out _ _ _ _ _ HR11.out (((Mod.refl (fun k => k = D) w11).set (b := D) (o := 3) (.int .i64 r2) (.inl rfl)).set (b := D) (o := 5) (.int .i64 ((rest : Int) + 1)) (.inl rfl))
    have HZ : Hid (w.heap.size ≤ ((w11.setCell ⟨D, 3, none⟩ (.int .i64 r2)).setCell ⟨D, 5, none⟩ (.int .i64 ((rest : Int) + 1))).heap.size) := by unfold Hid; simpa [World.setCell] using HS11.out
    clear b3 b5 g3 g5 t1
    go_ret
    unfold StepP
    rw [HDS.out, if_pos HF.out]
    simp only [HMX.out]
    exact ⟨rfl, HZ.out, q5, S', HS13.out⟩
  ·have hb : bits .and .i64 en1 16384 = 0 := by rw [i64_bit en1 hfl.1 hfl.2, show en1 / 16384 % 2 = 0 by omega]; rfl
   have HF := Bas.hid hf
   clear hf
   by_cases hr : r3 < 0
   ·have e1 : decide (r3 < 0) = true := by simpa using hr
    have hr2 : r3 < 0 := by omega
    have HMX : Hid (max r3 0 = 0) := by unfold Hid; omega

    go_wp2_with (fail)
    have q3 := heap_set (i := 3) kD11 (.int .i64 0)
    have q5 := heap_set (i := 5) q3 (.int .i64 0)
    have HS13 : Hid (R r0 r1 S' ((w11.setCell ⟨D, 3, none⟩ (.int .i64 0)).setCell ⟨D, 5, none⟩ (.int .i64 0))) := HSTAB.out _ _ _ _ _ HR11.out (((Mod.refl (fun k => k = D) w11).set (b := D) (o := 3) (.int .i64 0) (.inl rfl)).set (b := D) (o := 5) (.int .i64 0) (.inl rfl))
    have HZ : Hid (w.heap.size ≤ ((w11.setCell ⟨D, 3, none⟩ (.int .i64 0)).setCell ⟨D, 5, none⟩ (.int .i64 0)).heap.size) := by unfold Hid; simpa [World.setCell] using HS11.out
    clear b3 b5 g3 g5 t1
    go_ret
    unfold StepP
    rw [HDS.out, if_neg HF.out]
    simp only [HMX.out]
    exact ⟨rfl, HZ.out, q5, S', HS13.out⟩
   ·have e1 : decide (r3 < 0) = false := by simpa using hr
    have hr2 : 0 ≤ r3 := by omega
    have HMX : Hid (max r3 0 = r3) := by unfold Hid; omega

    go_wp2_with (fail)
    have q3 := heap_set (i := 3) kD11 (.int .i64 r3)
    have q5 := heap_set (i := 5) q3 (.int .i64 0)
    have HS13 : Hid (R r0 r1 S' ((w11.setCell ⟨D, 3, none⟩ (.int .i64 r3)).setCell ⟨D, 5, none⟩ (.int .i64 0))) := HSTAB.out _ _ _ _ _ HR11.out (((Mod.refl (fun k => k = D) w11).set (b := D) (o := 3) (.int .i64 r3) (.inl rfl)).set (b := D) (o := 5) (.int .i64 0) (.inl rfl))
    have HZ : Hid (w.heap.size ≤ ((w11.setCell ⟨D, 3, none⟩ (.int .i64 r3)).setCell ⟨D, 5, none⟩ (.int .i64 0)).heap.size) := by unfold Hid; simpa [World.setCell] using HS11.out
    clear b3 b5 g3 g5 t1
    go_ret
    unfold StepP
    rw [HDS.out, if_neg HF.out]
    simp only [HMX.out]
    exact ⟨rfl, HZ.out, q5, S', HS13.out⟩
end Dr
end Go.Proofs.YtoncnjhhdlpliaaGreat
namespace Go.Proofs.YtoncnjhhdlpliaaGreat
open Go.RowKit
namespace Dr
open Ch Lk St Ln
def stepsAt (w : World) (D : Nat) : Nat := match w.cell? ⟨D, 4, none⟩ with | some (.int _ n) => n.toNat | _ => 0
theorem stepsAt_of {w : World} {gm g D : Nat} {st pl : Int} {steps rest : Nat} (h : w.heap[D]? = some (drvC gm g st pl steps rest)) : stepsAt w D = steps := by
 unfold drvC at h
 have c := cell_of_heap (i := 4) (v := .int .i64 steps) h rfl
 unfold stepsAt
 rw [c]
 simp
theorem dstep_steps {σ : Type} (M : MachD) (F : ActF σ) (d : Dv σ) : (dstep M F d).1.steps = d.steps + 1 ∧ 0 ≤ (dstep M F d).1.place := by
 unfold dstep
 simp only
 split <;> exact ⟨rfl, by simp only; omega⟩
theorem dstep_state {σ : Type} {M : MachD} (F : ActF σ) (d : Dv σ) (h : MachOk M) (hs : 0 ≤ d.state ∧ d.state.toNat < M.rows.length) : 0 ≤ (dstep M F d).1.state ∧ (dstep M F d).1.state.toNat < M.rows.length := by
 have := (stepM_bd h hs (classAt_bd h d.xs d.place)).1
 unfold dstep
 simp only
 split <;> exact this
theorem dstep_rest {σ : Type} (M : MachD) (F : ActF σ) (d : Dv σ) : (dstep M F d).1.rest ≤ d.rest + 1 := by
 unfold dstep
 simp only
 split
 ·exact Nat.le_refl _
 ·exact Nat.zero_le _
theorem dstep_place {σ : Type} {M : MachD} {F : ActF σ} {R : σ → List Gl → (Nat → Prop) → World → Prop} {base gm g D K : Nat} {fst caps : Array Value} (E : Env M F R base gm g D K fst caps) {S : Nat → Prop} {u : World} (d : Dv σ) (hR : R d.st d.xs S u) (h0 : 0 ≤ d.place) :
  (dstep M F d).1.place ≤ d.place + 64 := by
 have h := E.grow d.st d.xs S u d.place (stepM M d.state (classAt M d.xs d.place).1) hR h0
 unfold dstep
 simp only
 split
 ·have := h.1; simp only; omega
 ·have := h.2; simp only; omega
def RunP {σ : Type} (M : MachD) (F : ActF σ) (R : σ → List Gl → (Nat → Prop) → World → Prop) (w : World) (s : σ) (xs : List Gl) (e : Ending) (w' : World) : Prop :=
 e = .returned (.tuple #[.int .i64 (dall M F s xs).1.steps, .int .i64 (dall M F s xs).2]) ∧ w.heap.size ≤ w'.heap.size ∧ ∃ S', R (dall M F s xs).1.st (dall M F s xs).1.xs S' w'
set_option maxRecDepth 100000 in
set_option maxHeartbeats 8000000 in
theorem run_any {σ : Type} (M : MachD) (F : ActF σ) (R : σ → List Gl → (Nat → Prop) → World → Prop) (base gm g K : Nat) (fst caps : Array Value) (w : World) (E : Env M F R base gm g w.heap.size K fst caps) (hcf : ∀ args w, (callFunc K args).run Tryz.prog w = .ok (.enter K args) w)
  (s : σ) (xs : List Gl) (S : Nat → Prop) (hR : R s xs S w) (hlen : xs.length ≤ 4294967296) :
  Calls Tryz.prog 78 #[.pointer (some ⟨gm, 0, none⟩), .pointer (some ⟨g, 0, none⟩), .func (.func K) fst caps] w (RunP M F R w s xs) := by
 obtain ⟨sv, hL⟩ := E.line s xs S w hR
 have kD := Bas.heap_new w (.cells #[.pointer (some ⟨gm, 0, none⟩), .pointer (some ⟨g, 0, none⟩), .int .i64 0, .int .i64 0, .int .i64 0, .int .i64 0] 207)
 have hb1 := (Below.refl w.heap.size w).alloc (Nat.le_refl _) (.cells #[.pointer (some ⟨gm, 0, none⟩), .pointer (some ⟨g, 0, none⟩), .int .i64 0, .int .i64 0, .int .i64 0, .int .i64 0] 207)
 have HLEN := Bas.hid (len_any base g sv xs _ (hL.below hb1))
 have HR1 := Bas.hid (E.stab s xs S w _ hR (Mod.of_below hb1))
 have HZ1 := Bas.hid hb1.size
 have HE := Bas.hid E
 have hrow := HE.out.ok.two
 obtain ⟨L, hLL⟩ : ∃ L, 2 * xs.length + 128 = L := ⟨_, rfl⟩
 have HDA : Hid (dall M F s xs = drun M F L ⟨s, xs, 0, 0, 0, 0⟩) := by unfold Hid dall; rw [hLL]
 have hL9 : L ≤ 8589934720 := by omega
 have hL2 : 2 * (xs.length : Int) + 128 = (L : Int) := by omega
 have hLx : 2 * (xs.length : Int) = (L : Int) - 128 := by omega
 have HLX := Bas.hid hLx
 clear hL hR E hLL hb1 hL2 hLx
 go_enter Tryz.func78, Tryz.ntmps78
 go_wp2_with (fail)
 generalize w.alloc (.cells #[.pointer (some ⟨gm, 0, none⟩), .pointer (some ⟨g, 0, none⟩), .int .i64 0, .int .i64 0, .int .i64 0, .int .i64 0] 207) = W1 at *
 refine HLEN.out.mono ?_
 rintro e w2 ⟨rfl, rfl⟩
 clear HLEN
 go_wp2_with (fail)
 obtain ⟨Z, hZ⟩ : ∃ Z, dall M F s xs = Z := ⟨_, rfl⟩
 rw [hZ] at HDA
 have HZZ := Bas.hid hZ
 clear hZ
 have HLX2 : Hid (2 * (xs.length : Int) + 128 = (L : Int)) := by have := HLX.out; unfold Hid; omega
 generalize (xs.length : Int) = X at *
 go_loopw [] (fun wr => ∃ (st0 : σ) (xs0 : List Gl) (sn : Nat) (pl : Int) (steps rest : Nat) (S : Nat → Prop), wr.heap[w.heap.size]? = some (drvC gm g sn pl steps rest) ∧ R st0 xs0 S wr ∧ steps ≤ L ∧ rest ≤ 64 ∧ 0 ≤ pl ∧ pl ≤ 64 * (steps : Int) ∧ sn < M.rows.length ∧ drun M F (L - steps) ⟨st0, xs0, sn, pl, steps, rest⟩ = Z ∧ w.heap.size ≤ wr.heap.size) (fun wr => L - stepsAt wr w.heap.size)
 case atStart => exact ⟨s, xs, 0, 0, 0, 0, S, kD, HR1.out, Nat.zero_le _, Nat.zero_le _, Int.le_refl _, by omega, by omega, HDA.out.symm, HZ1.out⟩
 case round =>
  obtain ⟨st0, xs0, sn, pl, steps, rest, S1, kd, hR, hs, hre, hpl, hpl2, hsn, hdr, hz⟩ := hrel
  have HDR := Bas.hid hdr
  have HZ := Bas.hid hz
  have HR := Bas.hid hR
  have KD := Bas.hid kd
  have kd' := kd
  unfold drvC at kd'
  have c4 := cell_of_heap (i := 4) (v := .int .i64 steps) kd' rfl
  have lD := heap_lt kd'
  clear kD hdr hz hR kd
  by_cases hlt : steps < L
  ·have e1 : decide ((steps : Int) < 2 * X + 128) = true := by have := HLX2.out; simp; omega
   have HST := Bas.hid (dstep_any M F R base gm g w.heap.size K fst caps HE.out hcf st0 xs0 S1 sn pl steps rest wr HR.out hsn hpl (by omega) (by omega) (by omega) KD.out)
   obtain ⟨f, hf⟩ : ∃ f, L - steps = f + 1 := ⟨L - steps - 1, by omega⟩
   have hds := dstep_steps M F ⟨st0, xs0, sn, pl, steps, rest⟩
   have hst := dstep_state F ⟨st0, xs0, sn, pl, steps, rest⟩ HE.out.ok ⟨by simp, by simpa using hsn⟩
   have hrs := dstep_rest M F ⟨st0, xs0, sn, pl, steps, rest⟩
   have hpg := dstep_place HE.out ⟨st0, xs0, sn, pl, steps, rest⟩ HR.out hpl
   have hdr2 := HDR.out
   rw [hf] at hdr2
   simp only [drun] at hdr2
   unfold StepP at HST
   obtain ⟨r, hr⟩ : ∃ r, dstep M F ⟨st0, xs0, sn, pl, steps, rest⟩ = r := ⟨_, rfl⟩
   simp only [hr] at HST hds hst hrs hpg hdr2
   obtain ⟨⟨st2, xs2, sta2, pl2, steps2, rest2⟩, b⟩ := r
   simp only at HST hds hst hrs hpg hdr2
   obtain ⟨hd1, hd2⟩ := hds
   obtain ⟨hs1, hs2⟩ := hst
   obtain ⟨sn2, hsn2⟩ := Int.eq_ofNat_of_zero_le hs1
   subst hsn2
   simp only [Int.toNat_natCast] at hs2
   have HDR2 := Bas.hid hdr2
   have HF := Bas.hid hf
   have HD1 := Bas.hid hd1
   clear hr hdr2 hf hs1 hd1
   go_wp2_with (fail)
   refine HST.out.mono ?_
   rintro e w5 ⟨rfl, hz5, kd5, S5, hR5⟩
   have HZ5 := Bas.hid (Nat.le_trans HZ.out hz5)
   have HR5 := Bas.hid hR5
   have KD5 := Bas.hid kd5
   have kd' := kd5
   unfold drvC at kd'
   have c4 := cell_of_heap (i := 4) (v := .int .i64 steps2) kd' rfl
   have c5 := cell_of_heap (i := 5) (v := .int .i64 rest2) kd' rfl
   have lD5 := heap_lt kd'
   clear hz5 hR5 kd5 HST
   cases b with
   | true =>
    have HZV : Hid ((⟨st2, xs2, sn2, pl2, steps2, rest2⟩, 0) = Z) := by have := HDR2.out; unfold Hid; simpa using this
    clear HDR2
    go_wp2_with (fail)
    go_ret2
    unfold RunP
    rw [HZZ.out, ← HZV.out]
    exact ⟨rfl, HZ5.out, S5, HR5.out⟩
   | false =>
    by_cases hr64 : 64 < rest2
    ·have e2 : decide ((64 : Int) < (rest2 : Int)) = true := by simp; omega
     have HZV : Hid ((⟨st2, xs2, sn2, pl2, steps2, rest2⟩, 4) = Z) := by have := HDR2.out; unfold Hid; simpa [hr64] using this
     clear HDR2
     go_wp2_with (fail)
     go_ret2
     unfold RunP
     rw [HZZ.out, ← HZV.out]
     exact ⟨rfl, HZ5.out, S5, HR5.out⟩
    ·have e2 : decide ((64 : Int) < (rest2 : Int)) = false := by simp; omega
     have HZV : Hid (drun M F f ⟨st2, xs2, sn2, pl2, steps2, rest2⟩ = Z) := by have := HDR2.out; unfold Hid; simpa [hr64] using this
     clear HDR2
     have HLF : Hid (L - steps2 = f) := by have := HF.out; have := HD1.out; unfold Hid; omega
     go_wp2_with (fail)
     go_roundw
     case rel => exact ⟨st2, xs2, sn2, pl2, steps2, rest2, S5, KD5.out, HR5.out, by have := HD1.out; omega, by omega, hd2, by have := HD1.out; omega, hs2, by rw [HLF.out]; exact HZV.out, HZ5.out⟩
     case measure =>
      rw [stepsAt_of KD.out, stepsAt_of KD5.out]
      have := HD1.out
      omega
  ·have hsL : steps = L := by omega
   have e1 : decide ((steps : Int) < 2 * X + 128) = false := by have := HLX2.out; simp; omega
   have HZV : Hid ((⟨st0, xs0, sn, pl, steps, rest⟩, 4) = Z) := by
    have h := HDR.out
    rw [show L - steps = 0 by omega] at h
    exact h
   clear HDR hsL
   go_wp2_with (fail)
   go_ret2
   unfold RunP
   rw [HZZ.out, ← HZV.out]
   exact ⟨rfl, HZ.out, S1, HR.out⟩
end Dr
end Go.Proofs.YtoncnjhhdlpliaaGreat
namespace Go.Proofs.YtoncnjhhdlpliaaGreat
open Go.RowKit
namespace Dr
open Ch Lk St Ln
def plainV (B : Nat) : Value := .func (.func 104) #[] #[.pointer (some ⟨B, 0, none⟩)]
theorem plain_any (K : Nat) (caps : Array Value) (w : World) :
  Calls Tryz.prog 79 #[.func (.func K) #[] caps] w fun e w' => e = .returned (plainV w.heap.size) ∧ Below w.heap.size w w' ∧ w'.heap[w.heap.size]? = some (.cells #[.func (.func K) #[] caps] 166 (0, 0)) := by
 have hmf : ∀ (fn : Fn) (first cap : Array Value) (w : World), (Instr.makeFunc fn first cap).run Tryz.prog w = .ok (.func fn first cap) w := fun _ _ _ _ => rfl
 have HB := Bas.hid ((Below.refl w.heap.size w).alloc (Nat.le_refl _) (.cells #[.func (.func K) #[] caps] 166))
 have HK := Bas.hid (Bas.heap_new w (.cells #[.func (.func K) #[] caps] 166))
 go_enter Tryz.func79, Tryz.ntmps79
 go_wp2_with (fail)
 go_ret
 exact ⟨rfl, HB.out, HK.out⟩
set_option maxRecDepth 100000 in
theorem plain1_any (K : Nat) (caps : Array Value) (B : Nat) (pl en0 en1 en2 en3 : Int) (Q : World → Prop) (u : World) (hcf : ∀ args w, (callFunc K args).run Tryz.prog w = .ok (.enter K args) w)
  (hB : u.heap[B]? = some (.cells #[.func (.func K) #[] caps] 166 (0, 0)))
  (hact : ∀ u', Below u.heap.size u u' → Calls Tryz.prog K (#[.int .i64 pl, .agg #[.int .i64 en0, .int .i64 en1, .int .i64 en2, .int .i64 en3]] ++ caps) u' fun e u'' => e = .returned (.tuple #[]) ∧ Q u'') :
  Calls Tryz.prog 104 (#[.int .i64 pl, .agg #[.int .i64 en0, .int .i64 en1, .int .i64 en2, .int .i64 en3]] ++ #[.pointer (some ⟨B, 0, none⟩)]) u fun e u'' => e = .returned (.tuple #[.int .i64 pl, .int .i64 (wrap64 (pl + 1))]) ∧ Q u'' := by
 have kE := Bas.heap_new u (.cells #[.int .i64 en0, .int .i64 en1, .int .i64 en2, .int .i64 en3] 162)
 have hb1 := (Below.refl u.heap.size u).alloc (Nat.le_refl _) (.cells #[.int .i64 en0, .int .i64 en1, .int .i64 en2, .int .i64 en3] 162)
 have kB := (hb1.block _ (heap_lt hB)).trans hB
 have HA := Bas.hid (hact _ hb1)
 have b0 := cell_of_heap (i := 0) kB rfl
 have lB := heap_lt kB
 have e0 := cell_of_heap (i := 0) kE rfl
 have e1 := cell_of_heap (i := 1) kE rfl
 have e2 := cell_of_heap (i := 2) kE rfl
 have e3 := cell_of_heap (i := 3) kE rfl
 have lE := heap_lt kE
 clear hact hB kB kE hb1
 go_enter Tryz.func104, Tryz.ntmps104
 go_wp2_with (fail)
 refine HA.out.mono ?_
 rintro e w2 ⟨rfl, hq⟩
 have HQ := Bas.hid hq
 clear hq HA
 go_wp2_with (fail)
 go_ret2
 exact ⟨rfl, HQ.out⟩
end Dr
end Go.Proofs.YtoncnjhhdlpliaaGreat
namespace Go.Proofs.YtoncnjhhdlpliaaGreat
open Go.RowKit
namespace Pl
theorem fam_of (w : World) (Q : World → Prop) (h : Q w.drew) : ∃ (I : Type) (F : I → World) (i0 : I), w.drew = F i0 ∧ (∀ i, Q (F i)) ∧ ∀ u : World, Q u → ∃ j, u = F j :=
 ⟨{ u : World // Q u }, fun i => i.1, ⟨w.drew, h⟩, rfl, fun i => i.2, fun u h => ⟨⟨u, h⟩, rfl⟩⟩
end Pl
namespace Dr
open Ch Lk St Ln
abbrev PlF (σ : Type) := σ → List Gl → Int → EntD → σ × List Gl
def plF {σ : Type} (F0 : PlF σ) : ActF σ := fun s xs pl e => ((F0 s xs pl e).1, (F0 s xs pl e).2, pl, pl + 1)
structure Boxes {σ : Type} (X : σ → World → Prop) (Bx : Nat → Prop) : Prop where
 lt : ∀ s u, X s u → ∀ k, Bx k → k < u.heap.size
 stab : ∀ s u u' (T : Nat → Prop), X s u → Mod T u u' → (∀ k, T k → ¬ Bx k) → X s u'
def PlR {σ : Type} (w : World) (base g : Nat) (sv : Value) (D : Nat) (X : σ → World → Prop) (Bx : Nat → Prop) (Inv : σ → List Gl → Prop) (s : σ) (xs : List Gl) (S : Nat → Prop) (u : World) : Prop :=
 ∃ sv', LineAt u base g sv' xs ∧ Mod (blk g sv) w u ∧ (∀ k, sv'.ownBlock = some k → sv.ownBlock = some k ∨ w.heap.size ≤ k) ∧ (∀ k, sv'.ownBlock = some k → k ≠ D ∧ ¬ Bx k) ∧ X s u ∧ Inv s xs ∧ S = fun k => blk g sv' k ∨ Bx k
def ActP {σ : Type} (F0 : PlF σ) (base g : Nat) (X : σ → World → Prop) (Bx : Nat → Prop) (Inv : σ → List Gl → Prop) (s : σ) (xs : List Gl) (sv' : Value) (u : World) (pl : Int) (e : EntD) (en : Ending) (u' : World) : Prop :=
 en = .returned (.tuple #[]) ∧ ∃ sv'', LineAt u' base g sv'' (F0 s xs pl e).2 ∧ X (F0 s xs pl e).1 u' ∧ Inv (F0 s xs pl e).1 (F0 s xs pl e).2 ∧ Mod (fun k => blk g sv' k ∨ Bx k) u u' ∧ ∀ k, sv''.ownBlock = some k → sv'.ownBlock = some k ∨ u.heap.size ≤ k
theorem env_plain {σ : Type} (M : MachD) (F0 : PlF σ) (W0 w : World) (base gm g : Nat) (sv : Value) (xs0 : List Gl) (D K B : Nat) (caps : Array Value) (X : σ → World → Prop) (Bx : Nat → Prop) (Inv : σ → List Gl → Prop)
  (hok : MachOk M) (hm : MachAt W0 (.pointer (some ⟨gm, 0, none⟩)) M) (hb0 : Below W0.heap.size W0 w) (hbase : W0.heap.size ≤ base) (hL : LineAt w base g sv xs0)
  (hX : Boxes X Bx) (hBx : ∀ k, Bx k → w.heap.size ≤ k ∧ k < D) (hD : w.heap.size ≤ D)
  (hB : ∀ s u, X s u → u.heap[B]? = some (.cells #[.func (.func K) #[] caps] 166 (0, 0)))
  (hcf : ∀ args w, (callFunc K args).run Tryz.prog w = .ok (.enter K args) w)
  (hact : ∀ s xs sv' u (pl : Int) (e : EntD), LineAt u base g sv' xs → Below W0.heap.size W0 u → X s u → Inv s xs → 0 ≤ pl → pl ≤ 4398046511104 → e ∈ M.ents → (∀ k, sv'.ownBlock = some k → ¬ Bx k) →
   Calls Tryz.prog K (#[.int .i64 pl, .agg #[.int .i64 e.next, .int .i64 e.flags, .int .i64 e.a, .int .i64 e.b]] ++ caps) u (ActP F0 base g X Bx Inv s xs sv' u pl e)) :
  Env M (plF F0) (PlR w base g sv D X Bx Inv) base gm g D 104 #[] #[.pointer (some ⟨B, 0, none⟩)] := by
 have hblk := hL.blk_low
 have hbel : ∀ s xs S u, PlR w base g sv D X Bx Inv s xs S u → Below W0.heap.size W0 u := fun s xs S u hR => by
  obtain ⟨_, _, h2, _⟩ := hR
  exact h2.below hb0 (fun k hk => Nat.le_trans hbase (hblk k hk).1) hb0.size
 have hg : g < w.heap.size := hL.lt
 refine ⟨hok, fun s xs S u hR => hm.below (hbel s xs S u hR), fun s xs S u hR => ?_, fun s xs S u hR => ?_, fun s xs S u u' hR hmod => ?_, fun s xs S u pl e hR hDu hpl hpl2 hmem h1 h2 h3 => ?_, fun s xs S u pl e hR hpl => ?_⟩
 ·obtain ⟨sv', h1, _⟩ := hR
  exact ⟨sv', h1⟩
 ·obtain ⟨sv', h1, h2, h3, h4, h5, h6, rfl⟩ := hR
  intro k hk
  rcases hk with hk | hk
  ·refine ⟨(h1.blk_low k hk).2, ?_⟩
   rcases hk with rfl | hk
   ·omega
   ·exact (h4 k hk).1
  ·exact ⟨hX.lt s u h5 k hk, by have := hBx k hk; omega⟩
 ·obtain ⟨sv', h1, h2, h3, h4, h5, h6, rfl⟩ := hR
  refine ⟨sv', h1.mod hmod ?_, h2.trans hmod (fun k hk hlt => by omega), h3, h4, hX.stab s u u' _ h5 hmod (fun k hk hb => by have := hBx k hb; omega), h6, rfl⟩
  intro k hk e
  rcases hk with rfl | hk
  ·omega
  ·exact (h4 k hk).1 e
 ·have hbu := hbel s xs S u hR
  obtain ⟨sv', q1, q2, q3, q4, q5, q6, rfl⟩ := hR
  have hpw : wrap64 (pl + 1) = pl + 1 := by simp only [wrap64]; omega
  have hfin := plain1_any K caps B pl e.next e.flags e.a e.b (fun u'' => Mod (fun k => blk g sv' k ∨ Bx k) u u'' ∧ ∃ S', PlR w base g sv D X Bx Inv (F0 s xs pl e).1 (F0 s xs pl e).2 S' u'') u hcf (hB s u q5) (fun u' hb' => ?_)
  ·rw [Array.empty_append]
   refine hfin.mono ?_
   rintro en u'' ⟨rfl, h7, h8⟩
   refine ⟨?_, h7, h8⟩
   rw [hpw]
   rfl
  ·refine (hact s xs sv' u' pl e (q1.below hb') (hbu.trans (hb'.mono hbu.size)) (hX.stab s u u' (fun _ => False) q5 (Mod.of_below hb') (fun _ h => h.elim)) q6 hpl hpl2 hmem (fun k hk => (q4 k hk).2)).mono ?_
   rintro en u'' ⟨rfl, sv'', r1, r2, r3, r4, r5⟩
   have r6 : Mod (fun k => blk g sv' k ∨ Bx k) u u'' := (Mod.of_below (S := fun k => blk g sv' k ∨ Bx k) hb').trans r4 (fun _ h _ => h)
   refine ⟨rfl, r6, _, sv'', r1, q2.trans r6 (fun k hk hlt => ?_), fun k hk => ?_, fun k hk => ?_, r2, r3, rfl⟩
   ·rcases hk with hk | hk
    ·rcases hk with rfl | hk
     ·exact .inl rfl
     ·rcases q3 k hk with h | h
      ·exact .inr h
      ·omega
    ·have := hBx k hk; omega
   ·rcases r5 k hk with h | h
    ·exact q3 k h
    ·exact .inr (Nat.le_trans q2.size (Nat.le_trans hb'.size h))
   ·rcases r5 k hk with h | h
    ·exact q4 k h
    ·have := hb'.size
     refine ⟨by omega, fun hb => ?_⟩
     have := hBx k hb; omega
 ·unfold plF
  simp only
  omega
theorem plain_way {σ : Type} (M : MachD) (F0 : PlF σ) (W0 w w1 : World) (base gm g : Nat) (sv : Value) (xs : List Gl) (K B : Nat) (caps : Array Value) (X : σ → World → Prop) (Bx : Nat → Prop) (Inv : σ → List Gl → Prop) (s : σ)
  (hok : MachOk M) (hm : MachAt W0 (.pointer (some ⟨gm, 0, none⟩)) M) (hb0 : Below W0.heap.size W0 w) (hbase : W0.heap.size ≤ base) (hL : LineAt w base g sv xs) (hlen : xs.length ≤ 4294967296)
  (hX : Boxes X Bx) (hBx : ∀ k, Bx k → w.heap.size ≤ k) (hB : ∀ s u, X s u → u.heap[B]? = some (.cells #[.func (.func K) #[] caps] 166 (0, 0)))
  (hcf : ∀ args w, (callFunc K args).run Tryz.prog w = .ok (.enter K args) w) (hb1 : Below w.heap.size w w1) (hXs : X s w1) (hI : Inv s xs)
  (hact : ∀ s xs sv' u (pl : Int) (e : EntD), LineAt u base g sv' xs → Below W0.heap.size W0 u → X s u → Inv s xs → 0 ≤ pl → pl ≤ 4398046511104 → e ∈ M.ents → (∀ k, sv'.ownBlock = some k → ¬ Bx k) →
   Calls Tryz.prog K (#[.int .i64 pl, .agg #[.int .i64 e.next, .int .i64 e.flags, .int .i64 e.a, .int .i64 e.b]] ++ caps) u (ActP F0 base g X Bx Inv s xs sv' u pl e)) :
  Calls Tryz.prog 78 #[.pointer (some ⟨gm, 0, none⟩), .pointer (some ⟨g, 0, none⟩), plainV B] w1 fun e w' =>
   e = .returned (.tuple #[.int .i64 (dall M (plF F0) s xs).1.steps, .int .i64 (dall M (plF F0) s xs).2]) ∧ LnTo w base g sv (dall M (plF F0) s xs).1.xs w' ∧ ∃ s', X s' w' := by
 have hown := fun k (hk : sv.ownBlock = some k) => Row.own_block hL.own hk
 have E := env_plain M F0 W0 w base gm g sv xs w1.heap.size K B caps X Bx Inv hok hm hb0 hbase hL hX (fun k hk => ⟨hBx k hk, hX.lt s w1 hXs k hk⟩) hb1.size hB hcf hact
 have hR : PlR w base g sv w1.heap.size X Bx Inv s xs (fun k => blk g sv k ∨ Bx k) w1 :=
  ⟨sv, hL.below hb1, Mod.of_below hb1, fun _ h => .inl h, fun k hk => by
   have h1 := (hown k hk).2
   have h2 := hb1.size
   exact ⟨by omega, fun hb => by have := hBx k hb; omega⟩, hXs, hI, rfl⟩
 refine (run_any M (plF F0) _ base gm g 104 _ _ w1 E (fun args w => by simp [go_sem]) s xs _ hR hlen).mono ?_
 rintro e w' ⟨rfl, _, S', sv', h1, h2, h3, _, h4, _⟩
 exact ⟨rfl, ⟨sv', h1, h2, h3⟩, _, h4⟩
end Dr
end Go.Proofs.YtoncnjhhdlpliaaGreat
namespace Go.Proofs.YtoncnjhhdlpliaaGreat
open Go.RowKit
namespace Ln
open Ch
theorem own_putN {w : World} {base size g n cp : Nat} {e : TypeId} {xs : List Value} (h : w.ownsRow base e size (.slice (some ⟨g, 0, none⟩) n cp) n xs) (i : Nat) (v : Value) : (w.setCell ⟨g, i, none⟩ v).ownsRow base e size (.slice (some ⟨g, 0, none⟩) n cp) n (xs.set i v) := by
 obtain ⟨h1, ⟨h2, _⟩ | ⟨g', cap, cur, hv, hb, hh, hc, hx, hs, ht⟩⟩ := h
 ·cases h2
 ·cases hv
  have q1 := heap_set (i := i) hh v
  refine ⟨by simpa using h1, .inr ⟨g, cp, _, rfl, hb, q1, hc, hx, by simpa using hs, ?_⟩⟩
  rw [← ht]
  simp [List.take_set]
theorem glC_set1 : ∀ (l : List Gl) (k : Nat) (a : Int) (x : Gl), l[k]? = some x → (l.flatMap glC).set (k * 2) (.int .i64 a) = (l.set k (a, x.2)).flatMap glC
 | [], _, _, _, h => by simp at h
 | y :: l, 0, a, x, h => by
  have : y = x := by simpa using h
  subst this
  simp [glC]
 | y :: l, k + 1, a, x, h => by
  have ih := glC_set1 l k a x (by simpa using h)
  rw [List.set_cons_succ, List.flatMap_cons, List.flatMap_cons, ← ih, show (k + 1) * 2 = k * 2 + 2 by omega]
  simp [glC]
theorem glC_set2 : ∀ (l : List Gl) (k : Nat) (a : Int) (x : Gl), l[k]? = some x → (l.flatMap glC).set (k * 2 + 1) (.int .i64 a) = (l.set k (x.1, a)).flatMap glC
 | [], _, _, _, h => by simp at h
 | y :: l, 0, a, x, h => by
  have : y = x := by simpa using h
  subst this
  simp [glC]
 | y :: l, k + 1, a, x, h => by
  have ih := glC_set2 l k a x (by simpa using h)
  rw [List.set_cons_succ, List.flatMap_cons, List.flatMap_cons, ← ih, show (k + 1) * 2 + 1 = k * 2 + 1 + 2 by omega]
  simp [glC]
theorem line_row {w : World} {base g : Nat} {sv : Value} {xs : List Gl} (h : LineAt w base g sv xs) {k : Nat} {x : Gl} (hx : xs[k]? = some x) :
  ∃ bo cp, sv = .slice (some ⟨bo, 0, none⟩) xs.length cp ∧ bo < w.heap.size ∧ base ≤ bo ∧ bo ≠ g ∧ w.cell? ⟨bo, k * 2, none⟩ = some (.int .i64 x.1) ∧ w.cell? ⟨bo, k * 2 + 1, none⟩ = some (.int .i64 x.2) ∧ ∀ i, w.frozen? ⟨bo, i, none⟩ = false := by
 have hne := h.ne
 have hL := Row.leads_elem glC_len (Row.leads_owned h.own) hx (by omega)
 obtain ⟨hlen, ⟨h2, h3⟩ | ⟨bo, cap, cur, hv, hb, hh, hc, hm, hs, ht⟩⟩ := h.own
 ·have h4 := glC_flat xs
  rw [h3] at hlen
  have := (List.getElem?_eq_some_iff.1 hx).1
  omega
 ·obtain ⟨b2, o2, c2, hv2, hcell⟩ := hL
  rw [hv] at hv2
  cases hv2
  refine ⟨bo, cap, hv, heap_lt hh, hb, fun e => hne (by rw [hv, e]; rfl), by simpa using hcell 0 _ rfl, by simpa using hcell 1 _ rfl, fun i => free_of_heap hh⟩
theorem line_put {w : World} {base g bo cp : Nat} {xs : List Gl} (h : LineAt w base g (.slice (some ⟨bo, 0, none⟩) xs.length cp) xs) (hgb : bo ≠ g) (j : Nat) (v : Value) (ys : List Gl) (hy : (xs.flatMap glC).set j v = ys.flatMap glC) (hyl : ys.length = xs.length) :
  LineAt (w.setCell ⟨bo, j, none⟩ v) base g (.slice (some ⟨bo, 0, none⟩) xs.length cp) ys ∧ Mod (blk g (.slice (some ⟨bo, 0, none⟩) xs.length cp)) w (w.setCell ⟨bo, j, none⟩ v) := by
 refine ⟨⟨(Below.heap_setCell _ _ _ _ (by exact fun e => hgb e.symm)).trans h.head, ?_, h.low⟩, (Mod.refl _ w).set v (.inl (.inr rfl))⟩
 have h2 := own_putN h.own j v
 rw [hy] at h2
 rw [hyl]
 exact h2
theorem lnTo_put {w : World} {base g bo cp : Nat} {xs ys : List Gl} {w' : World} (h : LineAt w' base g (.slice (some ⟨bo, 0, none⟩) xs.length cp) ys ∧ Mod (blk g (.slice (some ⟨bo, 0, none⟩) xs.length cp)) w w') : LnTo w base g (.slice (some ⟨bo, 0, none⟩) xs.length cp) ys w' :=
 ⟨_, h.1, h.2, fun _ h => .inl h⟩
set_option maxRecDepth 100000 in
set_option maxHeartbeats 4000000 in
theorem set_any (base g : Nat) (sv : Value) (xs : List Gl) (i id : Int) (w : World) (h : LineAt w base g sv xs) :
  Calls Tryz.prog 91 #[.pointer (some ⟨g, 0, none⟩), .int .i64 i, .int .i64 id] w fun e w' => e = .returned (.bool (inL xs.length i)) ∧ LnTo w base g sv (setId xs i id) w' := by
 have HIN := Bas.hid (in_any base g sv xs i w h)
 obtain ⟨hy, hn⟩ := glAt_in (xs := xs) (i := i)
 obtain ⟨b, hb⟩ : ∃ b, inL xs.length i = b := ⟨_, rfl⟩
 rw [hb] at HIN hy hn
 cases b with
 | false =>
  have HG := Bas.hid (hn rfl)
  have HR : Hid (LnTo w base g sv (setId xs i id) w) := by
   unfold Hid setId
   rw [HG.out]
   exact LnTo.refl h
  have HBB := Bas.hid hb
  clear hy hn h hb
  go_enter Tryz.func91, Tryz.ntmps91
  go_wp2_with (fail)
  refine HIN.out.mono ?_
  rintro e w2 ⟨rfl, rfl⟩
  go_wp2_with (fail)
  go_ret
  exact ⟨by rw [HBB.out]; rfl, HR.out⟩
 | true =>
  obtain ⟨k, x, rfl, hk, hx, hg⟩ := hy rfl
  obtain ⟨bo, cp, rfl, hlt, hbo, hne, c0, c1, hfr⟩ := line_row h hx
  have HR : Hid (LnTo w base g (.slice (some ⟨bo, 0, none⟩) xs.length cp) (setId xs (k : Int) id) (w.setCell ⟨bo, k * 2, none⟩ (.int .i64 id))) := by
   unfold Hid setId
   rw [hg]
   exact lnTo_put (line_put h hne _ _ _ (glC_set1 xs k id x hx) (by simp))
  have HBB := Bas.hid hb
  have g0 := cell_of_heap (i := 0) (v := .slice (some ⟨bo, 0, none⟩) xs.length cp) h.head rfl
  have lg := h.lt
  have f0 := hfr (k * 2)
  have e1 : decide ((k : Int) < (xs.length : Int)) = true := by simp; omega
  clear hy hn h hb hg hx hfr
  obtain ⟨x0, x1⟩ := x
  generalize xs.length = n at *
  go_enter Tryz.func91, Tryz.ntmps91
  go_wp2_with (fail)
  refine HIN.out.mono ?_
  rintro e w2 ⟨rfl, rfl⟩
  go_wp2_with (fail)
  go_ret
  exact ⟨by rw [HBB.out]; rfl, HR.out⟩
end Ln
end Go.Proofs.YtoncnjhhdlpliaaGreat
namespace Go.Proofs.YtoncnjhhdlpliaaGreat
open Go.RowKit
namespace Ln
open Ch
def lnPre (ids : List Int) (i : Nat) : List Gl := (List.range i).map fun k => (ids.getD k 0, (k : Int))
def lnNew (ids : List Int) : List Gl := lnPre ids ids.length
theorem lnPre_len (ids : List Int) (i : Nat) : (lnPre ids i).length = i := by simp [lnPre]
theorem lnPre_succ (ids : List Int) (i : Nat) : lnPre ids (i + 1) = lnPre ids i ++ [(ids.getD i 0, (i : Int))] := by
 unfold lnPre; rw [List.range_succ, List.map_append]; rfl
theorem line_snoc {w w7 : World} {base g : Nat} {sv v' : Value} {xs : List Gl} {x : Gl} (h : LineAt w base g sv xs) (hg : w.grownBy w7 sv.ownBlock) (ho : w7.ownsRow base 47 2 v' (xs.length + 1) (xs.flatMap glC ++ glC x)) :
  LineAt (w7.setCell ⟨g, 0, none⟩ v') base g v' (xs ++ [x]) := by
 have h7 := (hg.block g h.lt (fun e => h.ne e.symm)).trans h.head
 have k8 := heap_set (i := 0) h7 v'
 refine ⟨k8, ?_, h.low⟩
 rw [List.length_append, List.flatMap_append]
 exact Row.owned_keep (by simpa using ho) fun k hk => Below.heap_setCell _ _ _ _ (fun e => own_ty ho h7 (by decide) (by rw [hk, e]))
set_option maxRecDepth 100000 in
set_option maxHeartbeats 4000000 in
theorem new_any (va : Value) (ids : List Int) (n : Nat) (w : World) (hl : Row.Leads w va n (ids.map (Value.int .i64))) (hn : ids.length = n) (hn2 : n ≤ 4294967296) :
  Calls Tryz.prog 9 #[va] w fun e w' => e = .returned (.pointer (some ⟨w.heap.size, 0, none⟩)) ∧ Below w.heap.size w w' ∧ ∃ sv, LineAt w' w.heap.size w.heap.size sv (lnNew ids) := by
 obtain ⟨ad, cp, rfl⟩ : ∃ ad cp, va = .slice ad n cp := by
  rcases hl with ⟨rfl, rfl, _⟩ | ⟨ad, cp, rfl, _⟩
  ·exact ⟨none, 0, rfl⟩
  ·exact ⟨_, _, rfl⟩
 have HL := Bas.hid hl
 have hb1 := (Below.refl w.heap.size w).alloc (Nat.le_refl _) (.cells #[.slice none 0 0] 76)
 have HA : Hid (LineAt (w.alloc (.cells #[.slice none 0 0] 76)) w.heap.size w.heap.size (.slice none 0 0) []) := ⟨Bas.heap_new _ _, Row.owned_nil _ _ _ _, Nat.le_refl _⟩
 have HB := Bas.hid hb1
 have HN := Bas.hid hn
 clear hb1 hl hn
 go_enter Tryz.func9, Tryz.ntmps9
 go_wp2_with (fail)
 generalize w.alloc (.cells #[.slice none 0 0] 76) = W1 at *
 obtain ⟨G, hG⟩ : ∃ G, w.heap.size = G := ⟨_, rfl⟩
 have HG := Bas.hid hG
 rw [hG] at HA HB ⊢
 clear hG
 go_loopw [10] (fun vi wr => ∃ (i : Nat) (sv : Value), i ≤ n ∧ vi = .int .i64 i ∧ LineAt wr G G sv (lnPre ids i) ∧ Below G w wr) (fun vi _ => n - (intOf vi).toNat)
 case atStart => exact ⟨0, _, Nat.zero_le _, rfl, HA.out, HB.out⟩
 case round =>
  obtain ⟨i, sv, hi, rfl, hA, hB⟩ := hrel
  have HA2 := Bas.hid hA
  have HB2 := Bas.hid hB
  by_cases hin : i < n
  ·have e1 : decide ((i : Int) < (n : Int)) = true := by simp; omega
   have e2 : decide (i < n) = true := by simp; omega
   obtain ⟨x, hx⟩ : ∃ x, ids[i]? = some x := ⟨_, List.getElem?_eq_getElem (by rw [HN.out]; exact hin)⟩
   have hlw : Row.Leads wr (.slice ad n cp) n (ids.map (Value.int .i64)) := Row.leads_below HL.out (by rw [HG.out]; exact hB)
   obtain ⟨bo, oo, c2, hv, hc⟩ := St.leads_at hlw (i := i) (u := .int .i64 x) (by rw [List.getElem?_map, hx]; rfl)
   cases hv
   obtain ⟨a3, cs, rfl⟩ := own_slice hA.own
   have hhead := hA.head
   rw [lnPre_len] at hhead HA2
   have g0 := cell_of_heap (i := 0) (v := .slice a3 i cs) hhead rfl
   have lG := heap_lt hhead
   have lb := World.block_lt_of_cell? _ _ hc
   have HX : Hid (lnPre ids (i + 1) = lnPre ids i ++ [(x, (i : Int))]) := by unfold Hid; rw [lnPre_succ, List.getD_eq_getElem?_getD, hx]; rfl
   clear hA hB hlw hx hhead HA HB
   go_wp2_with (at_builtin; refine Row.fence ?_)
   refine Row.unfence ?_
   have q2 := Bas.heap_new wr (.cells #[.int .i64 x, .int .i64 i] 47)
   have hb2 := (Below.refl wr.heap.size wr).alloc (Nat.le_refl _) (.cells #[.int .i64 x, .int .i64 i] 47)
   have HA3 := Bas.hid (HA2.out.below hb2)
   have hGw : G ≤ wr.heap.size := Nat.le_of_lt lG
   have HB3 := Bas.hid (HB2.out.trans (hb2.mono hGw))
   have hG3 : G ≤ (wr.alloc (.cells #[.int .i64 x, .int .i64 i] 47)).heap.size := Nat.le_trans hGw hb2.size
   clear hb2 g0 hc lb
   generalize wr.alloc (.cells #[.int .i64 x, .int .i64 i] 47) = W2 at *
   have hO := HA3.out.own
   rw [lnPre_len] at hO
   have HO := Bas.hid hO
   clear hO
   refine Row.append_any rfl _ _ 39 47 rfl (.agg #[.int .i64 0, .int .i64 0]) 2 16 Tryz.underlying39 infoG rfl (by decide) G (.slice a3 i cs) i _ rfl HO.out (.slice (some ⟨wr.heap.size, 0, none⟩) 1 1) 1 [.int .i64 x, .int .i64 i] rfl (leads_heap q2) rfl (by simp; first | exact ⟨rfl, rfl⟩ | exact rfl) (by unfold maxLen; omega) (by omega) hG3 ?_
   intro v7 w7 ho7 hg7 _
   obtain ⟨a7, c7, rfl⟩ := own_slice ho7
   have HA8 := Bas.hid (line_snoc (x := (x, (i : Int))) HA3.out hg7 (by rw [lnPre_len]; exact ho7))
   have k7 := (hg7.block G HA3.out.lt (fun e => HA3.out.ne e.symm)).trans HA3.out.head
   have c0 := cell_of_heap (i := 0) k7 rfl
   have f0 := free_of_heap (i := 0) k7
   have HB7 := Bas.hid (HB3.out.grown hg7 hG3 (fun g' hg' => (Row.own_block HA3.out.own hg').1))
   have HB8 := Bas.hid (HB7.out.setCell (p := ⟨G, 0, none⟩) (Nat.le_refl _) (.slice a7 (i + 1) c7))
   clear hg7 ho7 q2
   go_wp2_with (fail)
   go_roundw
   case rel => exact ⟨i + 1, _, by omega, by go_num, by rw [HX.out]; exact HA8.out, HB8.out⟩
   case measure => simp [intOf]; omega
  ·have hin2 : i = n := by omega
   have e1 : decide ((i : Int) < (n : Int)) = false := by simp; omega
   have e2 : decide (i < n) = false := by simp; omega
   have e3 : ¬ (i : Int) < (n : Int) := by omega
   have HF : Hid (LineAt wr G G sv (lnNew ids)) := by unfold Hid lnNew; rw [HN.out, ← hin2]; exact hA
   clear hin2 hA hB
   go_wp2_with (fail)
   go_ret
   rw [HG.out]
   exact ⟨rfl, HB2.out, sv, HF.out⟩
end Ln
end Go.Proofs.YtoncnjhhdlpliaaGreat
namespace Go.Proofs.YtoncnjhhdlpliaaGreat
open Go.RowKit
namespace Ln
open Ch
theorem own_zero {w : World} {base g : Nat} {e : TypeId} {size : Nat} (hg : w.heap[g]? = some (.cells #[] e (0, 0))) (hb : base ≤ g) : w.ownsRow base e size (.slice (some ⟨g, 0, none⟩) 0 0) 0 [] :=
 ⟨by simp, .inr ⟨g, 0, _, rfl, hb, hg, Nat.le_refl _, by unfold maxLen; omega, by simp, by simp⟩⟩
set_option maxRecDepth 100000 in
theorem clone_any (v : Value) (xs : List Gl) (n : Nat) (w : World) (hl : Row.Leads w v n (xs.flatMap glC)) (hn : xs.length = n) (hn2 : n ≤ 4294967296) :
  Calls Tryz.prog 31 #[v] w fun e w' => Below w.heap.size w w' ∧ ∃ v', e = .returned v' ∧ w'.ownsRow w.heap.size 47 2 v' n (xs.flatMap glC) := by
 have HL := Bas.hid hl
 have hqe : ∀ (a : Option Addr) (n c : Nat) (w : World), (Go.binOp .eql 39 (.slice a n c) (.slice none 0 0)).run Tryz.prog w = Result.ok (.bool a.isNone) w := fun a n c w => by
  have h : (Op.equalIn Op.maxDepth 39 (.slice a n c) (.slice none 0 0)).run Tryz.prog w = Result.ok a.isNone w := run_equalIn_slice_nil w (Op.maxDepth - 1) _ _ a n c Tryz.underlying39
  simp [go_sem, Go.binOp, Op.equal, h, Result.andThen]
 rcases hl with ⟨rfl, rfl, hx⟩ | ⟨ad, cp, rfl, _⟩
 ·rw [hx]
  have HO := Bas.hid (Row.owned_nil w w.heap.size 47 2)
  clear HL hx
  go_enter Tryz.func31, Tryz.ntmps31
  go_wp2_with (fail)
  go_ret
  exact ⟨Below.refl _ _, _, rfl, HO.out⟩
 ·have hb1 := (Below.refl w.heap.size w).alloc (Nat.le_refl _) (.cells #[] 47)
  have HO := Bas.hid (own_zero (size := 2) (Bas.heap_new w (.cells #[] 47)) (Nat.le_refl w.heap.size))
  have HL1 := Bas.hid (Row.leads_below HL.out hb1)
  have HB1 := Bas.hid hb1
  have hsz := hb1.size
  have HFL := Bas.hid (glC_flat xs)
  have hon := glC_one xs
  clear HL hb1
  go_enter Tryz.func31, Tryz.ntmps31
  go_wp2_with (at_builtin; refine Row.fence ?_)
  refine Row.unfence ?_
  generalize w.alloc (.cells #[] 47) = W1 at *
  refine Row.append_any rfl _ _ 39 47 rfl (.agg #[.int .i64 0, .int .i64 0]) 2 16 Tryz.underlying39 infoG rfl (by decide) w.heap.size (.slice (some ⟨w.heap.size, 0, none⟩) 0 0) 0 [] rfl HO.out (.slice (some ad) n cp) n (xs.flatMap glC) rfl HL1.out (by rw [HFL.out, hn]) hon (by unfold maxLen; omega) (by omega) hsz ?_
  intro v7 w7 ho7 hg7 _
  have HO7 := Bas.hid ho7
  have HB7 := Bas.hid (HB1.out.grown hg7 hsz (fun g' hg' => by cases hg'; exact Nat.le_refl _))
  clear ho7 hg7
  go_wp2_with (fail)
  go_ret
  refine ⟨HB7.out, v7, rfl, ?_⟩
  have h := HO7.out
  rw [Nat.zero_add, List.nil_append] at h
  exact h
end Ln
end Go.Proofs.YtoncnjhhdlpliaaGreat
namespace Go.Proofs.YtoncnjhhdlpliaaGreat
open Go.RowKit
namespace Ln
open Ch
theorem setCells_size (b : Nat) : ∀ (vs : List Value) (o : Nat) (w : World), (w.setCells b o vs).heap.size = w.heap.size
 | [], _, _ => rfl
 | v :: r, o, w => by rw [World.setCells, setCells_size b r]; simp [World.setCell]
theorem setCells_other (b k : Nat) (hk : k ≠ b) : ∀ (vs : List Value) (o : Nat) (w : World), (w.setCells b o vs).heap[k]? = w.heap[k]?
 | [], _, _ => rfl
 | v :: r, o, w => by rw [World.setCells, setCells_other b k hk r]; exact Below.heap_setCell _ _ _ _ (by exact hk)
theorem setCells_heap (b : Nat) (t : TypeId) : ∀ (vs : List Value) (o : Nat) (w : World) (cur : List Value), w.heap[b]? = some (.cells cur.toArray t (0, 0)) → o + vs.length ≤ cur.length →
  (w.setCells b o vs).heap[b]? = some (.cells (cur.take o ++ vs ++ cur.drop (o + vs.length)).toArray t (0, 0))
 | [], o, w, cur, h, _ => by simpa [World.setCells] using h
 | v :: r, o, w, cur, h, hl => by
  simp only [List.length_cons] at hl
  have h1 := heap_set (i := o) h v
  rw [List.setIfInBounds_toArray] at h1
  have ih := setCells_heap b t r (o + 1) _ _ h1 (by rw [List.length_set]; omega)
  have e1 : (cur.set o v).take o = cur.take o := by rw [List.take_set, List.set_eq_of_length_le (by simp; omega)]
  have e2 : (cur.set o v)[o]? = some v := by rw [List.getElem?_set_self (by omega)]
  have e3 : (cur.set o v).drop (o + 1 + r.length) = cur.drop (o + 1 + r.length) := List.drop_set_of_lt (by omega)
  rw [World.setCells, ih, List.take_add_one, e1, e2, e3]
  simp only [Option.toList_some, List.append_assoc, List.cons_append, List.nil_append, List.length_cons]
  rw [show o + 1 + r.length = o + (r.length + 1) by omega]
theorem setCells_frame (b : Nat) (vs : List Value) (o : Nat) (w : World) : (w.setCells b o vs).os = w.os ∧ (w.setCells b o vs).tape = w.tape ∧ (w.setCells b o vs).output = w.output := by
 induction vs generalizing o w with
 | nil => exact ⟨rfl, rfl, rfl⟩
 | cons v r ih => rw [World.setCells]; exact ih _ _
theorem setCells_grown {a w : World} {b : Nat} (h : a.grownBy w (some b)) (o : Nat) (vs : List Value) : a.grownBy (w.setCells b o vs) (some b) := by
 obtain ⟨h1, h2, h3⟩ := setCells_frame b vs o w
 exact Bas.gtrans h ⟨h1, h2, h3, by rw [setCells_size]; exact Nat.le_refl _, fun k _ hk => setCells_other b k (fun e => hk (by rw [e])) vs o w⟩
theorem run_copy_size {P : Program} (w : World) (dT sT ty elem : TypeId) (size b o dLen dCap : Nat) (a : Addr) (sLen sCap : Nat) (cs : List Value)
  (hu : P.underlying dT = some (.slice elem)) (hs : (P.info? elem).map (·.size) = some size) (hn : cs.length = Nat.min sLen dLen * size)
  (hsrc : ∀ j v, cs[j]? = some v → w.cell? (a.add j) = some v) (hc : ∀ j, j < cs.length → (w.cell? ⟨b, o + j, none⟩).isSome = true) (hf : ∀ j, j < cs.length → w.frozen? ⟨b, o + j, none⟩ = false) (h1 : ∀ v ∈ cs, v.oneCell' = true) :
  (Builtin.copy_ #[dT, sT] ty #[.slice (some ⟨b, o, none⟩) dLen dCap, .slice (some a) sLen sCap]).run P w = .ok (goInt (Nat.min sLen dLen)) (w.setCells b o cs) := by
 have hl := run_loadCells_list (P := P) w a cs hsrc
 have hst := run_storeCells_cells (P := P) b o cs 0 w (by simpa using hc) (by simpa using hf) h1
 cases hq : P.info? elem with
 | none => simp [hq] at hs
 | some i =>
  have hi : i.size = size := by simpa [hq] using hs
  subst hi
  simp [Builtin.copy_, run_underlying hu, Builtin.lenOf, Builtin.firstCells, sizeOf, typeInfo, hq, ← hn, hl, hst]
theorem wp_copy {P : Program} (w : World) {o : Oper} {a : Act} {K : Act → World → Prop} {Q : Exit → Act → World → Prop} (d s : Operand) (t t' : TypeId)
  (ho : o.op = .call { callee := .builtin .copy, args := #[d, s], argTypes := #[t, t'] }) (v u : Value) (hd : a.eval d = v) (hs : a.eval s = u) {v' : Value} {w' : World}
  (hr : (Builtin.copy_ #[t, t'] o.type #[v, u]).run P w = .ok v' w') (h : K (a.put o.dst v') w') : o.wp P a w K Q := by
 unfold Oper.wp execOp
 simp only [ho, resolve, invoke, builtin, Sem.run_bind, Sem.run_pure, Result.andThen_ok, List.map_toArray, List.map_cons, List.map_nil, hd, hs, hr]
 exact h
theorem wpList_copy {P : Program} (w : World) {ops : Array Oper} {rest : List Oper} {o : Oper} {a : Act} {Q : Exit → Act → World → Prop} (hgd : o.guard = none) (d s : Operand) (t t' : TypeId)
  (ho : o.op = .call { callee := .builtin .copy, args := #[d, s], argTypes := #[t, t'] }) (v u : Value) (hd : a.eval d = v) (hs : a.eval s = u) {v' : Value} {w' : World}
  (hr : (Builtin.copy_ #[t, t'] o.type #[v, u]).run P w = .ok v' w') (h : wpList P ops Q rest (a.put o.dst v') w') : wpList P ops Q (o :: rest) a w :=
 wpList_plain hgd fun _ hK => wp_copy w d s t t' ho v u hd hs hr (hK _ _ h)
def RawAt (w : World) (b : Nat) (cur : List Value) : Prop := w.heap[b]? = some (.cells cur.toArray 47 (0, 0))
theorem RawAt.cell {w : World} {b : Nat} {cur : List Value} (h : RawAt w b cur) {j : Nat} {v : Value} (hv : cur[j]? = some v) : w.cell? ⟨b, j, none⟩ = some v := cell_of_heap h (by simpa using hv)
theorem RawAt.free {w : World} {b : Nat} {cur : List Value} (h : RawAt w b cur) (j : Nat) : w.frozen? ⟨b, j, none⟩ = false := free_of_heap h
theorem RawAt.set {w : World} {b : Nat} {cur : List Value} (h : RawAt w b cur) (o : Nat) (vs : List Value) (hl : o + vs.length ≤ cur.length) : RawAt (w.setCells b o vs) b (cur.take o ++ vs ++ cur.drop (o + vs.length)) := setCells_heap b _ vs o w cur h hl
theorem RawAt.below {w w' : World} {b : Nat} {cur : List Value} (h : RawAt w b cur) (hb : Below w.heap.size w w') : RawAt w' b cur := (hb.block _ (heap_lt h)).trans h
theorem RawAt.owned {w : World} {base b n cp : Nat} {cur : List Value} (h : RawAt w b cur) (hb : base ≤ b) (hn : n ≤ cp) (hc : cp ≤ maxLen) (hl : cur.length = cp * 2) (xs : List Value) (hx : cur.take (n * 2) = xs) : w.ownsRow base 47 2 (.slice (some ⟨b, 0, none⟩) n cp) n xs := by
 subst hx
 refine ⟨by rw [List.length_take]; omega, .inr ⟨b, cp, cur.toArray, rfl, hb, h, hn, hc, by simpa using hl, by simp⟩⟩
theorem raw_of_owned {w : World} {base n : Nat} {sv : Value} {xs : List Value} (h : w.ownsRow base 47 2 sv n xs) (hn : 0 < n) : ∃ b cp cur, sv = .slice (some ⟨b, 0, none⟩) n cp ∧ base ≤ b ∧ RawAt w b cur ∧ n ≤ cp ∧ cp ≤ maxLen ∧ cur.length = cp * 2 ∧ cur.take (n * 2) = xs := by
 obtain ⟨_, ⟨_, h0⟩ | ⟨g, cap, cur, hv, hb, hh, hc, hm, hs, ht⟩⟩ := h
 ·omega
 ·exact ⟨g, cap, cur.toList, hv, hb, by simpa [RawAt] using hh, hc, hm, by simpa using hs, ht⟩
theorem copy_raw {w : World} {ops : Array Oper} {rest : List Oper} {o : Oper} {a : Act} {Q : Exit → Act → World → Prop} (hgd : o.guard = none) (d s : Operand)
  (ho : o.op = .call { callee := .builtin .copy, args := #[d, s], argTypes := #[39, 39] })
  (b off dLen dCap : Nat) (sb so sLen sCap : Nat) (hd : a.eval d = .slice (some ⟨b, off, none⟩) dLen dCap) (hs : a.eval s = .slice (some ⟨sb, so, none⟩) sLen sCap)
  (cur cs : List Value) (hraw : RawAt w b cur) (hn : cs.length = Nat.min sLen dLen * 2) (hfit : off + cs.length ≤ cur.length) (hsrc : ∀ j v, cs[j]? = some v → w.cell? ⟨sb, so + j, none⟩ = some v) (h1 : ∀ v ∈ cs, v.oneCell' = true)
  (h : ∀ k, RawAt (w.setCells b off cs) b (cur.take off ++ cs ++ cur.drop (off + cs.length)) → wpList Tryz.prog ops Q rest (a.put o.dst k) (w.setCells b off cs)) : wpList Tryz.prog ops Q (o :: rest) a w := by
 refine wpList_copy w hgd d s _ _ ho _ _ hd hs (run_copy_size w _ _ _ 47 2 b off dLen dCap ⟨sb, so, none⟩ sLen sCap cs Tryz.underlying39 (by kernel_rfl) hn (fun j v hv => by rw [Addr.add_lit]; exact hsrc j v hv) (fun j hj => ?_) (fun j _ => hraw.free _) h1) (h _ (hraw.set off cs hfit))
 have : off + j < cur.length := by omega
 rw [hraw.cell (List.getElem?_eq_getElem this)]
 rfl
theorem copy_run {w : World} (ty : TypeId) (b off dLen dCap : Nat) (sb so sLen sCap : Nat) (cur cs : List Value) (hraw : RawAt w b cur) (hn : cs.length = Nat.min sLen dLen * 2) (hfit : off + cs.length ≤ cur.length)
  (hsrc : ∀ j v, cs[j]? = some v → w.cell? ⟨sb, so + j, none⟩ = some v) (h1 : ∀ v ∈ cs, v.oneCell' = true) :
  (Builtin.copy_ #[39, 39] ty #[.slice (some ⟨b, off, none⟩) dLen dCap, .slice (some ⟨sb, so, none⟩) sLen sCap]).run Tryz.prog w = .ok (goInt (Nat.min sLen dLen)) (w.setCells b off cs) ∧ RawAt (w.setCells b off cs) b (cur.take off ++ cs ++ cur.drop (off + cs.length)) := by
 refine ⟨run_copy_size w _ _ ty 47 2 b off dLen dCap ⟨sb, so, none⟩ sLen sCap cs Tryz.underlying39 (by kernel_rfl) hn (fun j v hv => by rw [Addr.add_lit]; exact hsrc j v hv) (fun j hj => ?_) (fun j _ => hraw.free _) h1, hraw.set off cs hfit⟩
 have : off + j < cur.length := by omega
 rw [hraw.cell (List.getElem?_eq_getElem this)]
 rfl
theorem zeroCells_len (z : Array Value) (k : Nat) : (Builtin.zeroCells z k).toList.length = k * z.size := by simp [Builtin.zeroCells]
theorem zeroG_one (n : Nat) : ∀ v ∈ (Builtin.zeroCells (Value.agg #[.int .i64 0, .int .i64 0]).cells n).toList, v.oneCell' = true := by
 intro v hv
 simp only [Builtin.zeroCells, Array.toList_map, List.mem_map, Array.mem_toList_iff, Array.mem_range] at hv
 obtain ⟨i, _, rfl⟩ := hv
 have hc : (Value.agg #[.int .i64 0, .int .i64 0]).cells = #[.int .i64 0, .int .i64 0] := rfl
 rw [hc]
 have : i % 2 = 0 ∨ i % 2 = 1 := by omega
 rcases this with h | h <;> simp [h] <;> rfl
theorem run_clear_gl (w : World) (ty : TypeId) (b off k cap : Nat) (hc : ∀ j, j < k * 2 → (w.cell? ⟨b, off + j, none⟩).isSome = true) (hf : ∀ j, j < k * 2 → w.frozen? ⟨b, off + j, none⟩ = false) :
  (Builtin.clear_ #[39] ty #[.slice (some ⟨b, off, none⟩) k cap]).run Tryz.prog w = .ok (.tuple #[]) (w.setCells b off (Builtin.zeroCells (Value.agg #[.int .i64 0, .int .i64 0]).cells k).toList) := by
 obtain ⟨i, hi, hz, hsz, hby⟩ := info_parts infoG
 have hlen : (Builtin.zeroCells (Value.agg #[.int .i64 0, .int .i64 0]).cells k).toList.length = k * 2 := zeroCells_len _ _
 have hst := run_storeCells_cells (P := Tryz.prog) b off (Builtin.zeroCells (Value.agg #[.int .i64 0, .int .i64 0]).cells k).toList 0 w (by rw [hlen]; simpa using hc) (by rw [hlen]; simpa using hf) (zeroG_one _)
 cases k with
 | zero => simp [Builtin.clear_, run_underlying Tryz.underlying39, Builtin.zeroCells, World.setCells]
 | succ k =>
  simp only [Nat.add_zero] at hst
  simp [Builtin.clear_, run_underlying Tryz.underlying39, zeroValue, typeInfo, hi, hz, hst]
end Ln
end Go.Proofs.YtoncnjhhdlpliaaGreat
namespace Go.Proofs.YtoncnjhhdlpliaaGreat
open Go.RowKit
namespace Ln
open Ch
theorem own_put2 {w : World} {base g n cp k : Nat} {xs : List Gl} (h : w.ownsRow base 47 2 (.slice (some ⟨g, 0, none⟩) n cp) n (xs.flatMap glC)) (hk : k < xs.length) (a b : Int) :
  ((w.setCell ⟨g, k * 2, none⟩ (.int .i64 a)).setCell ⟨g, k * 2 + 1, none⟩ (.int .i64 b)).ownsRow base 47 2 (.slice (some ⟨g, 0, none⟩) n cp) n ((xs.set k (a, b)).flatMap glC) := by
 obtain ⟨x, hx⟩ : ∃ x, xs[k]? = some x := ⟨_, List.getElem?_eq_getElem hk⟩
 have h1 := own_putN h (k * 2) (.int .i64 a)
 rw [glC_set1 xs k a x hx] at h1
 have h2 := own_putN h1 (k * 2 + 1) (.int .i64 b)
 rw [glC_set2 (xs.set k (a, x.2)) k b (a, x.2) (by rw [List.getElem?_set_self hk])] at h2
 simpa using h2
theorem own_cells {w : World} {base n : Nat} {sv : Value} {xs : List Gl} (h : w.ownsRow base 47 2 sv n (xs.flatMap glC)) {k : Nat} {x : Gl} (hx : xs[k]? = some x) :
  ∃ bo cp, sv = .slice (some ⟨bo, 0, none⟩) n cp ∧ bo < w.heap.size ∧ base ≤ bo ∧ w.cell? ⟨bo, k * 2, none⟩ = some (.int .i64 x.1) ∧ w.cell? ⟨bo, k * 2 + 1, none⟩ = some (.int .i64 x.2) ∧ ∀ i, w.frozen? ⟨bo, i, none⟩ = false := by
 have hL := Row.leads_elem glC_len (Row.leads_owned h) hx (by omega)
 obtain ⟨hlen, ⟨h2, h3⟩ | ⟨bo, cap, cur, hv, hb, hh, hc, hm, hs, ht⟩⟩ := h
 ·have h4 := glC_flat xs
  rw [h3] at hlen
  have := (List.getElem?_eq_some_iff.1 hx).1
  omega
 ·obtain ⟨b2, o2, c2, hv2, hcell⟩ := hL
  rw [hv] at hv2
  cases hv2
  exact ⟨bo, cap, hv, heap_lt hh, hb, by simpa using hcell 0 _ rfl, by simpa using hcell 1 _ rfl, fun i => free_of_heap hh⟩
def RevTo (xs ys : List Gl) (i : Nat) : Prop := ys.length = xs.length ∧ ∀ k, k < xs.length → ys[k]? = xs[if k < i ∨ xs.length ≤ k + i then xs.length - 1 - k else k]?
theorem revTo_zero (xs : List Gl) : RevTo xs xs 0 := ⟨rfl, fun k hk => by rw [if_neg (by omega)]⟩
theorem revTo_succ {xs ys : List Gl} {i j : Nat} (h : RevTo xs ys i) (hij : i < j) (hj : j + i + 1 = xs.length) {a b : Gl} (ha : ys[i]? = some a) (hb : ys[j]? = some b) : RevTo xs ((ys.set i b).set j a) (i + 1) := by
 obtain ⟨h1, h2⟩ := h
 refine ⟨by simpa using h1, fun k hk => ?_⟩
 have hi2 := h2 i (by omega)
 have hj2 := h2 j (by omega)
 rw [if_neg (by omega)] at hi2 hj2
 by_cases hkj : k = j
 ·subst hkj
  rw [List.getElem?_set_self (by simp; omega), if_pos (by omega), ← ha, hi2]
  congr 1; omega
 ·rw [List.getElem?_set_ne (by omega)]
  by_cases hki : k = i
  ·subst hki
   rw [List.getElem?_set_self (by omega), if_pos (by omega), ← hb, hj2]
   congr 1; omega
  ·rw [List.getElem?_set_ne (by omega), h2 k hk]
   by_cases hc : k < i ∨ xs.length ≤ k + i
   ·rw [if_pos hc, if_pos (by omega)]
   ·rw [if_neg hc, if_neg (by omega)]
theorem revTo_end {xs ys : List Gl} {i : Nat} (h : RevTo xs ys i) (hi : xs.length ≤ i + i + 1) : ys = xs.reverse := by
 obtain ⟨h1, h2⟩ := h
 apply List.ext_getElem?
 intro k
 by_cases hk : k < xs.length
 ·rw [h2 k hk, List.getElem?_reverse hk]
  split
  ·rfl
  ·congr 1; omega
 ·rw [List.getElem?_eq_none (by omega), List.getElem?_eq_none (by simp; omega)]
set_option maxRecDepth 100000 in
set_option maxHeartbeats 4000000 in
theorem reverse_any (base : Nat) (sv : Value) (xs : List Gl) (n : Nat) (w : World) (ho : w.ownsRow base 47 2 sv n (xs.flatMap glC)) (hn : xs.length = n) (hn2 : n ≤ 4294967296) :
  Calls Tryz.prog 32 #[sv] w fun e w' => e = .returned (.tuple #[]) ∧ w'.ownsRow base 47 2 sv n (xs.reverse.flatMap glC) ∧ w.grownBy w' sv.ownBlock := by
 obtain ⟨ad, cp, rfl⟩ := own_slice ho
 have HO := Bas.hid ho
 have HN := Bas.hid hn
 clear ho hn
 go_enter Tryz.func32, Tryz.ntmps32
 go_wp2_with (fail)
 go_loopw [2, 3] (fun vi vj wr => ∃ (i : Nat) (ji : Int) (ys : List Gl), i ≤ n ∧ vi = .int .i64 i ∧ vj = .int .i64 ji ∧ ji = (n : Int) - 1 - i ∧ wr.ownsRow base 47 2 (.slice ad n cp) n (ys.flatMap glC) ∧ RevTo xs ys i ∧ w.grownBy wr (Value.ownBlock (.slice ad n cp))) (fun vi _ _ => n - (intOf vi).toNat)
 case atStart => exact ⟨0, (n : Int) - 1, xs, Nat.zero_le _, rfl, rfl, by omega, HO.out, revTo_zero xs, Bas.grefl _ _⟩
 case round =>
  obtain ⟨i, ji, ys, hi, rfl, rfl, hji, ho, hr, hg⟩ := hrel
  have HOY := Bas.hid ho
  have HR := Bas.hid hr
  have HG := Bas.hid hg
  by_cases hij : (i : Int) < ji
  ·obtain ⟨j, rfl⟩ := Int.eq_ofNat_of_zero_le (show 0 ≤ ji by omega)
   have e1 : decide ((i : Int) < (j : Int)) = true := by simp; omega
   have HJ := Bas.hid hji
   have hyl := hr.1
   have hjn : j < n := by omega
   have hin : i < n := by omega
   obtain ⟨⟨x0, x1⟩, hx⟩ : ∃ x, ys[i]? = some x := ⟨_, List.getElem?_eq_getElem (by rw [hyl, HN.out]; exact hin)⟩
   obtain ⟨⟨y0, y1⟩, hy⟩ : ∃ y, ys[j]? = some y := ⟨_, List.getElem?_eq_getElem (by rw [hyl, HN.out]; exact hjn)⟩
   obtain ⟨bo, cp', hv, hlt, hbb, c0, c1, hfr⟩ := own_cells ho hx
   cases hv
   obtain ⟨_, _, hv2, _, _, d0, d1, _⟩ := own_cells ho hy
   cases hv2
   have HX := Bas.hid hx
   have HY := Bas.hid hy
   have HYL := Bas.hid hyl
   have e5 : decide ((i : Int) < (n : Int)) = true := by simp; omega
   have e6 : decide ((j : Int) < (n : Int)) = true := by simp; omega
   simp only at c0 c1 d0 d1
   clear ho hr hg hji hx hy hfr hyl
   go_wp2_with (fail)
   refine' Pl.region_v0 28 [2, 3] [0, 1, 4, 5, 6, 7, 8, 9, 10, 11, 12] [13, 14, 15] _ (by kernel_rfl) (by kernel_rfl) (by simp) (fun _ _ _ _ e h => ⟨e ▸ h.1, h.2⟩) ?_ ?_
   rotate_left
   ·intro I F hI hF
    simp only [Pl.selN, List.nil_append, List.cons_append, List.drop_succ_cons, List.drop_zero]
    have t0 := fun i => hF.cell hlt c0 i
    have t1 := fun i => hF.cell hlt c1 i
    have t2 := fun i => hF.cell hlt d0 i
    have t3 := fun i => hF.cell hlt d1 i
    repeat (go_big_quiet_step (fail))
    refine wpQuiet_nil ?_
    rfl
   intro w5 hw5
   simp only [Pl.selN, List.drop_succ_cons, List.drop_zero]
   have HO5 := Bas.hid (Row.owned_below HOY.out hw5)
   have HG5 := Bas.hid (Bas.gbelow HG.out hw5)
   obtain ⟨_, _, hv3, hlt5, _, p0, p1, hfr⟩ := own_cells HO5.out HX.out
   cases hv3
   obtain ⟨_, _, hv4, _, _, q0, q1, _⟩ := own_cells HO5.out HY.out
   cases hv4
   have f0 := hfr (i * 2)
   have f1 := hfr (i * 2 + 1)
   have f2 := hfr (j * 2)
   have f3 := hfr (j * 2 + 1)
   have HS := Bas.hid (own_put2 HO5.out (k := i) (by rw [HYL.out, HN.out]; exact hin) y0 y1)
   have HS2 := Bas.hid (own_put2 HS.out (k := j) (by rw [List.length_set, HYL.out, HN.out]; exact hjn) x0 x1)
   have HGS := Bas.hid (Bas.gset (Bas.gset (Bas.gset (Bas.gset HG5.out (i * 2) (.int .i64 y0)) (i * 2 + 1) (.int .i64 y1)) (j * 2) (.int .i64 x0)) (j * 2 + 1) (.int .i64 x1))
   simp only at p0 p1 q0 q1
   clear hw5 hfr HS c0 c1 d0 d1 hlt
   go_wp2_with (fail)
   go_roundw
   case rel =>
    exact ⟨i + 1, (j : Int) - 1, _, by omega, by go_num, by go_num, by have := HJ.out; omega, HS2.out, revTo_succ HR.out (by omega) (by rw [HN.out]; have := HJ.out; omega) HX.out HY.out, HGS.out⟩
   case measure => simp [intOf]; omega
  ·have e1 : decide ((i : Int) < ji) = false := by simp; omega
   have HF : Hid (ys = xs.reverse) := revTo_end HR.out (by rw [HN.out]; omega)
   clear ho hr hg hji
   go_wp2_with (fail)
   go_end0
   exact ⟨rfl, HF.out ▸ HOY.out, HG.out⟩
end Ln
end Go.Proofs.YtoncnjhhdlpliaaGreat
namespace Go.Proofs.YtoncnjhhdlpliaaGreat
open Go.RowKit
namespace Ln
open Ch
theorem clean1_any (a b : Int) (w : World) : Calls Tryz.prog 48 #[.agg #[.int .i64 a, .int .i64 b]] w fun e w' => e = .returned (.bool (decide (a = 65535))) ∧ Below w.heap.size w w' := by
 have HB := Bas.hid ((Below.refl w.heap.size w).alloc (Nat.le_refl _) (.cells #[.int .i64 a, .int .i64 b] 47))
 have k := Bas.heap_new w (.cells #[.int .i64 a, .int .i64 b] 47)
 have c0 := cell_of_heap (i := 0) k rfl
 have lk := heap_lt k
 clear k
 go_enter Tryz.func48, Tryz.ntmps48
 go_wp2_with (fail)
 go_ret
 exact ⟨by simp; rfl, HB.out⟩
end Ln
end Go.Proofs.YtoncnjhhdlpliaaGreat
namespace Go.Proofs.YtoncnjhhdlpliaaGreat
open Go.RowKit
namespace Ln
open Ch
def IdxP (w : World) (xs : List Gl) (e : Ending) (w' : World) : Prop :=
 Below w.heap.size w w' ∧ ((∃ k x, e = .returned (.int .i64 (k : Nat)) ∧ xs[k]? = some x ∧ x.1 = 65535 ∧ ∀ (j : Nat) (y : Gl), j < k → xs[j]? = some y → y.1 ≠ 65535) ∨ (e = .returned (.int .i64 (-1)) ∧ ∀ (j : Nat) (y : Gl), xs[j]? = some y → y.1 ≠ 65535))
set_option maxRecDepth 100000 in
theorem index_any (ad : Option Addr) (cp : Nat) (xs : List Gl) (n : Nat) (w : World) (hl : Row.Leads w (.slice ad n cp) n (xs.flatMap glC)) (hn : xs.length = n) (hn2 : n ≤ 4294967296) :
  Calls Tryz.prog 71 #[.slice ad n cp, .func (.func 48) #[] #[]] w (IdxP w xs) := by
 have HL := Bas.hid hl
 have HN := Bas.hid hn
 clear hl hn
 go_enter Tryz.func71, Tryz.ntmps71
 go_wp2_with (fail)
 go_loopw [8] (fun vi wr => ∃ i : Nat, i ≤ n ∧ vi = .int .i64 i ∧ Below w.heap.size w wr ∧ ∀ (j : Nat) (y : Gl), j < i → xs[j]? = some y → y.1 ≠ 65535) (fun vi _ => n - (intOf vi).toNat)
 case atStart => exact ⟨0, Nat.zero_le _, rfl, Below.refl _ _, fun j y h => by omega⟩
 case round =>
  obtain ⟨i, hi, rfl, hb, hno⟩ := hrel
  have HB := Bas.hid hb
  have HNO := Bas.hid hno
  by_cases hin : i < n
  ·have e1 : decide ((i : Int) < (n : Int)) = true := by simp; omega
   have e2 : decide (i < n) = true := by simp; omega
   obtain ⟨⟨x0, x1⟩, hx⟩ : ∃ x, xs[i]? = some x := ⟨_, List.getElem?_eq_getElem (by rw [HN.out]; exact hin)⟩
   obtain ⟨b, o, c, hv, hc⟩ := Row.leads_elem glC_len (Row.leads_below HL.out hb) hx (by omega)
   cases hv
   have d0 := hc 0 _ rfl
   have d1 := hc 1 _ rfl
   simp only [Nat.add_zero] at d0
   have lb := World.block_lt_of_cell? _ _ d0
   have HX := Bas.hid hx
   have HC := Bas.hid (clean1_any x0 x1 wr)
   clear hb hno hc hx
   go_wp2_with (fail)
   refine HC.out.mono ?_
   rintro e w2 ⟨rfl, hb2⟩
   have HB2 := Bas.hid (HB.out.trans (hb2.mono HB.out.size))
   clear hb2 HC d0 d1 lb
   by_cases h5 : x0 = 65535
   ·have e5 : decide (x0 = 65535) = true := decide_eq_true h5
    have H5 := Bas.hid h5
    clear h5
    go_wp2_with (fail)
    go_ret
    exact ⟨HB2.out, .inl ⟨i, (x0, x1), rfl, HX.out, H5.out, HNO.out⟩⟩
   ·have e5 : decide (x0 = 65535) = false := decide_eq_false h5
    have HNO2 : Hid (∀ (j : Nat) (y : Gl), j < i + 1 → xs[j]? = some y → y.1 ≠ 65535) := fun j y hj hy => by
     by_cases hji : j = i
     ·subst hji; rw [HX.out] at hy; cases hy; exact h5
     ·exact HNO.out j y (by omega) hy
    clear h5
    go_wp2_with (fail)
    go_roundw
    case rel => exact ⟨i + 1, by omega, by go_num, HB2.out, HNO2.out⟩
    case measure => simp [intOf]; omega
  ·have e1 : decide ((i : Int) < (n : Int)) = false := by simp; omega
   have e2 : decide (i < n) = false := by simp; omega
   have e3 : ¬ (i : Int) < (n : Int) := by omega
   have HALL : Hid (∀ (j : Nat) (y : Gl), xs[j]? = some y → y.1 ≠ 65535) := fun j y hy => HNO.out j y (by have := (List.getElem?_eq_some_iff.1 hy).1; rw [HN.out] at this; omega) hy
   clear hb hno
   go_wp2_with (fail)
   go_ret
   exact ⟨HB.out, .inr ⟨rfl, HALL.out⟩⟩
end Ln
end Go.Proofs.YtoncnjhhdlpliaaGreat
namespace Go.Proofs.YtoncnjhhdlpliaaGreat
open Go.RowKit
namespace Row
theorem append_at {P : Program} {w : World} {ops : Array Oper} {rest : List Oper} {o : Oper} {a : Act} {Q : Exit → Act → World → Prop} (hgd : o.guard = none) (s x : Operand) (t e : TypeId)
  (ho : o.op = .call { callee := .builtin .append, args := #[s, x], argTypes := #[t, t] })
  (z : Value) (size bytes : Nat) (ht : P.underlying t = some (.slice e)) (hinfo : (P.info? e).map (fun i => (i.zero, i.size, i.bytes)) = some (some z, size, bytes)) (hzs : z.cells.size = size) (hsz : 0 < size)
  (base : Nat) (v : Value) (n : Nat) (xs : List Value) (hs : a.eval s = v) (hown : w.ownsRow base e size v n xs)
  (vx : Value) (len : Nat) (news : List Value) (hx : a.eval x = vx) (hl : Leads w vx len news) (hln : news.length = len * size) (h1 : ∀ u ∈ news, u.oneCell' = true)
  (h63 : n + len ≤ maxLen) (hbd : (n + len) * bytes ≤ 140737488355328) (hbase : base ≤ w.heap.size)
  (h : ∀ v' w', w'.ownsRow base e size v' (n + len) (xs ++ news) → w.grownBy w' v.ownBlock → (v' = .slice none 0 0 → v = .slice none 0 0) → (v'.ownBlock = v.ownBlock ∨ v'.ownBlock = some w.heap.size) → wpList P ops Q rest (a.put o.dst v') w') :
  wpList P ops Q (o :: rest) a w := by
 obtain ⟨i8, hi8, hz1, hz2, hz3⟩ := info_parts hinfo
 rcases hl with ⟨rfl, rfl, rfl⟩ | ⟨ad, cap, rfl, hc⟩
 ·exact wpList_append_own_none hgd s x t ho base e i8 size ht hi8 v n _ hs hown hx (h v w (by simpa using hown) (Bas.grefl _ _) id (.inl rfl))
 ·exact wpList_append_own_at _ hgd s x t ho base e i8 z size bytes ht hi8 hz1 hz2 hz3 hzs hsz v n _ hs hown ad len cap news hx hln hc h1 h63 hbd hbase fun v' w' h1 h2 h3 h4 => h v' w' h1 h2 (fun e => (h3.1 e).1) h4
end Row
namespace Wr
open Vw
def putB (n : Int) : Nat → List Int
 | 0 => []
 | k + 1 => (n / 256 ^ k) % 256 :: putB n k
theorem putB_len (n : Int) (k : Nat) : (putB n k).length = k := by induction k <;> simp [putB, *]
theorem putB_byte (n : Int) (k : Nat) : ∀ x ∈ putB n k, 0 ≤ x ∧ x ≤ 255 := by
 induction k with
 | zero => intro x hx; cases hx
 | succ k ih =>
  intro x hx
  rcases List.mem_cons.1 hx with rfl | h
  ·omega
  ·exact ih x h
structure Grown (w : World) (base : Nat) (v : Value) (ys : List Int) (v' : Value) (w' : World) : Prop where
 own : w'.ownsRow base 5 1 v' ys.length (ys.map (Value.int .u8))
 grow : w.grownBy w' v.ownBlock
 at' : v'.ownBlock = v.ownBlock ∨ ∃ g, v'.ownBlock = some g ∧ w.heap.size ≤ g
theorem Grown.refl {w : World} {base : Nat} {v : Value} {ys : List Int} (h : w.ownsRow base 5 1 v ys.length (ys.map (Value.int .u8))) : Grown w base v ys v w := ⟨h, Bas.grefl _ _, .inl rfl⟩
theorem Grown.trans {w w1 w2 : World} {base : Nat} {v v1 v2 : Value} {ys zs : List Int} (h : Grown w base v ys v1 w1) (k : Grown w1 base v1 zs v2 w2) : Grown w base v zs v2 w2 := by
 have hs := h.grow.size
 refine ⟨k.own, ⟨k.grow.os.trans h.grow.os, k.grow.tape.trans h.grow.tape, k.grow.output.trans h.grow.output, Nat.le_trans hs k.grow.size, fun i hi hr => ?_⟩, ?_⟩
 ·refine (k.grow.block i (Nat.lt_of_lt_of_le hi hs) fun e => ?_).trans (h.grow.block i hi hr)
  rcases h.at' with h1 | ⟨g, h1, h2⟩
  ·exact hr (e.trans h1)
  ·rw [h1] at e; cases e; omega
 ·rcases k.at' with h1 | ⟨g, h1, h2⟩
  ·rcases h.at' with h3 | ⟨g, h3, h4⟩
   ·exact .inl (h1.trans h3)
   ·exact .inr ⟨g, h1.trans h3, h4⟩
  ·exact .inr ⟨g, h1, by omega⟩
theorem Grown.add {w wr wa w2 : World} {base : Nat} {v u v' : Value} {cur : List Int} (h : Grown w base v cur u wr) (zs : List Int) (hown : w2.ownsRow base 5 1 v' (cur ++ zs).length ((cur ++ zs).map (Value.int .u8)))
  (ha : wr.grownBy wa u.ownBlock) (hg : wa.grownBy w2 u.ownBlock) (hat : v'.ownBlock = u.ownBlock ∨ ∃ g, v'.ownBlock = some g ∧ wr.heap.size ≤ g) : Grown w base v (cur ++ zs) v' w2 :=
 h.trans ⟨hown, Bas.gtrans ha hg, hat⟩
theorem Grown.below {w w' : World} {base B : Nat} {v v' : Value} {ys : List Int} {a : World} (h : Grown w base v ys v' w') (hb : Below B a w) (hB : B ≤ w.heap.size) (hv : ∀ g, v.ownBlock = some g → B ≤ g) : Below B a w' :=
 hb.grown h.grow hB hv
def PutPost (w : World) (base : Nat) (v : Value) (ys : List Int) (e : Ending) (w' : World) : Prop := ∃ v', e = .returned v' ∧ Grown w base v ys v' w'
theorem quo_bd (n : Int) (t : Nat) (hn : 0 ≤ n) : 0 ≤ n / 256 ^ t ∧ n / 256 ^ t ≤ n := by
 have h : (0 : Int) < 256 ^ t := Int.pow_pos (by omega)
 exact ⟨Int.ediv_nonneg hn (by omega), Int.ediv_le_self _ hn⟩
theorem quo_succ (n : Int) (t : Nat) (_hn : 0 ≤ n) : n / 256 ^ (t + 1) = n / 256 ^ t / 256 := by
 have h : (0 : Int) < 256 ^ t := Int.pow_pos (by omega)
 rw [Int.pow_succ, Int.ediv_ediv_of_nonneg (by omega)]
set_option maxRecDepth 20000 in
set_option maxHeartbeats 2000000 in
theorem put_any (n : Int) (size : Nat) (base : Nat) (v : Value) (xs : List Int) (w : World) (hn : 0 ≤ n) (hn2 : n ≤ 9223372036854775807) (hs : size ≤ 8) (hxs : xs.length ≤ 1000000000) (hbase : base ≤ w.heap.size)
  (hown : w.ownsRow base 5 1 v xs.length (xs.map (Value.int .u8))) :
  Calls Tryz.prog 39 #[v, .int .i64 n, .int .i64 size] w (PutPost w base v (xs ++ putB n size)) := by
 have HG := Bas.hid (Grown.refl hown)
 clear hown
 go_enter Tryz.func39, Tryz.ntmps39
 go_wp2_with (fail)
 go_loopw [0, 7] (fun cv c wr => ∃ (k : Nat) (cur : List Int), k ≤ size ∧ c = .int .i64 ((k : Int) - 1) ∧ cur ++ putB n k = xs ++ putB n size ∧ Grown w base v cur cv wr) (fun _ c _ => (intOf c + 1).toNat)
 case atStart => exact ⟨size, xs, Nat.le_refl _, rfl, rfl, HG.out⟩
 case round =>
  obtain ⟨k, cur, hk, rfl, hcur, hg⟩ := hrel
  have hcl : cur.length ≤ 1000000008 := by
   have := congrArg List.length hcur
   simp [putB_len] at this
   omega
  have HC := Bas.hid hcur
  have HGR := Bas.hid hg
  clear hcur hg
  by_cases hk0 : 0 < k
  ·obtain ⟨j, rfl⟩ : ∃ j, k = j + 1 := ⟨k - 1, by omega⟩
   have e1 : ((j + 1 : Nat) : Int) - 1 = (j : Int) := by omega
   rw [e1]
   clear e1
   go_wp2_with (fail)
   go_loop [8, 9] (fun kv jv => ∃ t : Nat, t ≤ j ∧ jv = .int .i64 t ∧ kv = .int .i64 (n / 256 ^ t)) (fun _ jv => j - (intOf jv).toNat)
   case atStart => exact ⟨0, Nat.zero_le _, rfl, by simp⟩
   case round =>
    obtain ⟨t, ht, rfl, rfl⟩ := hrel
    obtain ⟨b1, b2⟩ := quo_bd n t hn
    by_cases htj : t < j
    ·have hs := Bas.hid (quo_succ n t hn)
     generalize n / 256 ^ t = q at *
     go_wp2_with (fail)
     go_round
     case rel => exact ⟨t + 1, by omega, by go_num, by rw [hs.out]⟩
     case measure => simp [intOf]; omega
    ·have htj2 : t = j := by omega
     subst htj2
     have hp : Hid (putB n (t + 1) = (n / 256 ^ t) % 256 :: putB n t) := rfl
     generalize n / 256 ^ t = q at *
     have b3 : 0 ≤ q % 256 := by omega
     have b4 : q % 256 ≤ 255 := by omega
     go_wp2_with (at_builtin; refine Row.append_at rfl _ _ 42 5 rfl (.int .u8 0) 1 1 Tryz.underlying42 info8 rfl (by decide) base _ cur.length (cur.map (Value.int .u8)) rfl (HGR.out.own.alloc _) (.slice (some ⟨wr.heap.size, 0, none⟩) 1 1) 1 [.int .u8 (q % 256)] rfl (Row.leads_one _ _ _) rfl (by simp; rfl) (by unfold maxLen; omega) (by omega) (by have := HGR.out.grow.size; simp; omega) ?_)
     intro v' w2 hown2 hg2 _ hat
     have HG2 := Bas.hid (HGR.out.add [q % 256] (by simpa using hown2) (Bas.galloc (Bas.grefl _ _) _) hg2 (hat.imp id fun h => ⟨_, h, by omega⟩))
     clear hown2 hg2 hat
     go_wp2_with (fail)
     go_roundw
     case rel => exact ⟨t, cur ++ [q % 256], by omega, by go_num, by rw [← HC.out, hp.out]; simp, HG2.out⟩
     case measure => simp [intOf]
  ·have hk00 : k = 0 := by omega
   subst hk00
   go_wp2_with (fail)
   go_ret
   have h1 := HGR.out
   have h2 := HC.out
   simp only [putB, List.append_nil] at h2
   rw [h2] at h1
   exact ⟨_, rfl, h1⟩
end Wr
end Go.Proofs.YtoncnjhhdlpliaaGreat
namespace Go.Proofs.YtoncnjhhdlpliaaGreat
open Go.RowKit
namespace Row
theorem zeroCells_list (z : Value) (k : Nat) (hz : z.cells = #[z]) : Builtin.zeroCells z.cells k = (List.replicate k z).toArray := by
 unfold Builtin.zeroCells
 rw [hz]
 apply Array.ext
 ·simp
 ·intro i h1 h2
  simp only [Array.getElem_map, Array.getElem_range, List.getElem_toArray, List.getElem_replicate]
  simp [Nat.mod_one]
theorem run_append_own_zeros {P : Program} (w : World) (base : Nat) (t tn ty e : TypeId) (i : TypeInfo) (z : Value) (bytes : Nat) (kq kn : IntKind) (ht : P.underlying t = some (.slice e)) (htn : P.underlying tn = some (.int kn)) (hi : P.info? e = some i) (hz : i.zero = some z)
  (hsize : i.size = 1) (hby : i.bytes = bytes) (hzs : z.cells = #[z]) (hz1 : z.oneCell' = true)
  (v : Value) (n : Nat) (xs : List Value) (hown : w.ownsRow base e 1 v n xs) (k : Nat) (h63 : n + k ≤ maxLen) (hbytes : (n + k) * bytes ≤ 140737488355328) (hbase : base ≤ w.heap.size) :
  ∃ v' w', (Builtin.append_ #[t, tn] ty #[v, .int kq k]).run P w = .ok v' w' ∧ w'.ownsRow base e 1 v' (n + k) (xs ++ List.replicate k z) ∧ w.grownBy w' v.ownBlock ∧ (v' = .slice none 0 0 → v = .slice none 0 0) ∧ (v'.ownBlock = v.ownBlock ∨ v'.ownBlock = some w.heap.size) := by
 subst hby
 have hsmall : n + k ≤ 9223372036854775807 := by simp only [maxLen] at h63; omega
 have hw : IntKind.i64.wrap (k : Int) = k := by rw [IntKind.wrap_i64]; omega
 have hkb : k * i.bytes ≤ 140737488355328 := Nat.le_trans (Nat.mul_le_mul_right _ (by omega)) hbytes
 have h48i : ¬ (281474976710656 < (k : Int) * (i.bytes : Int)) := by rw [← Int.natCast_mul]; omega
 have hneg : ¬ ((k : Int) < 0) := by omega
 have hlen : (xs ++ List.replicate k z).length = (n + k) * 1 := by rw [List.length_append, hown.1, List.length_replicate]; omega
 have grown : ∀ (old : Nat), old < n + k → ∀ (row : Option Nat),
   (w.drew.alloc (.cells (xs.toArray ++ Builtin.zeroCells z.cells k ++ Builtin.zeroCells z.cells (grownCap w (n + k) old e - (n + k))) e)).ownsRow base e 1
    (.slice (some ⟨w.heap.size, 0, none⟩) (n + k) (grownCap w (n + k) old e)) (n + k) (xs ++ List.replicate k z) ∧
   w.grownBy (w.drew.alloc (.cells (xs.toArray ++ Builtin.zeroCells z.cells k ++ Builtin.zeroCells z.cells (grownCap w (n + k) old e - (n + k))) e)) row := by
  intro old ho row
  have hge := grownCap_ge w (n + k) old e
  have hcm : grownCap w (n + k) old e ≤ maxLen := grownCap_le_maxLen w (n + k) old e h63
  refine ⟨⟨hlen, .inr ⟨w.heap.size, _, _, rfl, hbase, heap_alloc_new w.drew _, hge, hcm, ?_, ?_⟩⟩, ⟨rfl, rfl, rfl, by simp, fun j hj _ => Below.heap_alloc w.drew _ _ hj⟩⟩
  ·rw [zeroCells_list z _ hzs, zeroCells_list z _ hzs]
   have := hown.1
   simp; omega
  ·rw [zeroCells_list z _ hzs, zeroCells_list z _ hzs]
   simp only [Array.toList_append, List.append_assoc]
   rw [← List.append_assoc, ← hlen]
   exact List.take_left
 by_cases hk : k = 0
 ·subst hk
  refine ⟨v, w, ?_, by simpa using hown, Bas.grefl _ _, id, .inl rfl⟩
  have hw0 : IntKind.i64.wrap 0 = 0 := by rw [IntKind.wrap_i64]; rfl
  rcases hown.2 with ⟨rfl, rfl⟩ | ⟨g, cap, cur, rfl, hbg, hg, hnc, hcm, hcs, htake⟩
  ·simp [Builtin.append_, run_underlying ht, run_underlying htn, sizeOf, typeInfo, hi, asInt, asIntOf, hw0]
  ·simp [Builtin.append_, run_underlying ht, run_underlying htn, sizeOf, typeInfo, hi, asInt, asIntOf, hw0, hnc, storeCells]
 ·rcases hown.2 with ⟨rfl, rfl⟩ | ⟨g, cap, cur, rfl, hbg, hg, hnc, hcm, hcs, htake⟩
  ·have hx : xs = [] := List.eq_nil_of_length_eq_zero (by simpa using hown.1)
   subst hx
   have hr := Lib.run_append_nil_zeros (P := P) w t tn ty e i z kq kn ht htn hi hz k (by omega) (by omega) (by omega) (by omega)
   have hgr := grown 0 (by omega) (Value.ownBlock (.slice none 0 0))
   simp only [Nat.zero_add, List.nil_append, Array.empty_append] at hgr ⊢
   exact ⟨_, _, hr, hgr.1, hgr.2, by simp, Or.inr rfl⟩
  ·by_cases hroom : n + k ≤ cap
   ·have hfit : n * 1 + (List.replicate k z).length ≤ cur.size := by rw [List.length_replicate, hcs]; omega
    have hst := run_storeCells_at P g (n * 1) e (List.replicate k z) 0 cur w hg (by simpa using hfit) (by intro u hu; rw [List.mem_replicate] at hu; rw [hu.2]; exact hz1)
    simp only [Nat.add_zero] at hst
    have hr : (Builtin.append_ #[t, tn] ty #[.slice (some ⟨g, 0, none⟩) n cap, .int kq k]).run P w =
      .ok (.slice (some ⟨g, 0, none⟩) (n + k) cap) (w.setRow g (cur.toList.take (n * 1) ++ List.replicate k z ++ cur.toList.drop (n * 1 + (List.replicate k z).length)).toArray) := by
     simp only [Nat.mul_one] at hst
     simp [Builtin.append_, run_underlying ht, run_underlying htn, sizeOf, typeInfo, zeroValue, hi, hz, asInt, asIntOf, hw, hk, hneg, h48i, hsize, hroom, Addr.add_lit, zeroCells_list z _ hzs, hst]
    refine ⟨_, _, hr, ⟨hlen, .inr ⟨g, cap, _, rfl, hbg, setRow_heap w g cur _ e _ hg, hroom, hcm, ?_, ?_⟩⟩, ⟨rfl, rfl, rfl, by simp, fun j _ hj => setRow_other w g j _ (fun e => hj (by simp [Value.ownBlock, e]))⟩, by simp, Or.inl rfl⟩
    ·simp only [List.size_toArray, List.length_append, List.length_take, List.length_drop, Array.length_toList, List.length_replicate]
     omega
    ·rw [htake, ← hlen]
     exact List.take_left
   ·have holds : ∀ j u, xs[j]? = some u → w.cell? ((⟨g, 0, none⟩ : Addr).add j) = some u := hown.cells (g := g) rfl
    have hf := run_firstCells_some (P := P) w.drew i.size n ⟨g, 0, none⟩ n cap xs (by rw [hsize]; exact hown.1) (fun j u hu => by simpa using holds j u hu)
    have hr := Lib.run_append_grow_zeros (P := P) w t tn ty e i z kq kn ht htn hi hz (some ⟨g, 0, none⟩) n cap xs hf k (by omega) (by omega) (by omega) (by omega) (by omega) (growslice_fits (by omega) hbytes)
    have hgr := grown cap (by omega) (Value.ownBlock (.slice (some ⟨g, 0, none⟩) n cap))
    exact ⟨_, _, hr, hgr.1, hgr.2, by simp, Or.inr rfl⟩
theorem append_zeros {P : Program} {w : World} {ops : Array Oper} {rest : List Oper} {o : Oper} {a : Act} {Q : Exit → Act → World → Prop} (hgd : o.guard = none) (s x : Operand) (t tn e : TypeId)
  (ho : o.op = .call { callee := .builtin .append, args := #[s, x], argTypes := #[t, tn] })
  (z : Value) (bytes : Nat) (kq kn : IntKind) (ht : P.underlying t = some (.slice e)) (htn : P.underlying tn = some (.int kn)) (hinfo : (P.info? e).map (fun i => (i.zero, i.size, i.bytes)) = some (some z, 1, bytes)) (hzs : z.cells = #[z]) (hz1 : z.oneCell' = true)
  (base : Nat) (v : Value) (n : Nat) (xs : List Value) (hs : a.eval s = v) (hown : w.ownsRow base e 1 v n xs) (k : Nat) (hx : a.eval x = .int kq k)
  (h63 : n + k ≤ maxLen) (hbd : (n + k) * bytes ≤ 140737488355328) (hbase : base ≤ w.heap.size)
  (h : ∀ v' w', w'.ownsRow base e 1 v' (n + k) (xs ++ List.replicate k z) → w.grownBy w' v.ownBlock → (v' = .slice none 0 0 → v = .slice none 0 0) → (v'.ownBlock = v.ownBlock ∨ v'.ownBlock = some w.heap.size) → wpList P ops Q rest (a.put o.dst v') w') :
  wpList P ops Q (o :: rest) a w := by
 obtain ⟨i, hi, hz, hsz, hby⟩ := info_parts hinfo
 obtain ⟨v', w', hr, h1, h2, h3, h4⟩ := run_append_own_zeros (P := P) w base t tn o.type e i z bytes kq kn ht htn hi hz hsz hby hzs hz1 v n xs hown k h63 hbd hbase
 exact Lib.wpList_append_run w hgd s x t tn ho _ _ hs hx v' w' hr (h v' w' h1 h2 h3 h4)
theorem leads_apart {w w' : World} {v : Value} {n : Nat} {xs : List Value} {r : Option Nat} (h : Leads w v n xs) (hg : w.grownBy w' r) (hr : ∀ g, r = some g → ∀ ad len cap, v = .slice (some ad) len cap → xs ≠ [] → ad.block ≠ g) : Leads w' v n xs := by
 rcases h with h | ⟨ad, cap, rfl, hc⟩
 ·exact .inl h
 ·refine .inr ⟨ad, cap, rfl, fun j u hu => ?_⟩
  have h1 := hc j u hu
  have hs := World.cell?_spot h1
  have hlt := World.block_lt_of_cell? _ _ h1
  have hne : xs ≠ [] := by intro e; rw [e] at hu; simp at hu
  have h2 : w'.heap[(ad.add j).block]? = w.heap[(ad.add j).block]? := hg.block _ hlt (fun e => by
   have hb : (ad.add j).block = ad.block := by unfold Addr.add; split <;> rfl
   exact hr _ e.symm ad n cap rfl hne hb.symm)
  exact (World.cell?_of_block h2).trans h1
end Row
end Go.Proofs.YtoncnjhhdlpliaaGreat
namespace Go.Proofs.YtoncnjhhdlpliaaGreat
open Go.RowKit
namespace Ln
open Ch
def InsP (w : World) (base : Nat) (sv : Value) (ys : List Gl) (e : Ending) (w' : World) : Prop :=
 ∃ sv', e = .returned sv' ∧ w'.ownsRow base 47 2 sv' ys.length (ys.flatMap glC) ∧ w.grownBy w' sv.ownBlock ∧ (sv'.ownBlock = sv.ownBlock ∨ ∃ g, sv'.ownBlock = some g ∧ w.heap.size ≤ g)
theorem run_grow_gl (w : World) (ty : TypeId) (b i cp k : Nat) (cur : List Value) (hraw : RawAt w b cur) (hl : cur.length = cp * 2) (hi : i ≤ cp) (hk : 0 < k) (hg : cp < i + k) (h32 : i + k ≤ 4294967296) (_hcp : cp ≤ maxLen) :
  ∃ cp' z, (Builtin.append_ #[39, 3] ty #[.slice (some ⟨b, 0, none⟩) i cp, .int .i64 k]).run Tryz.prog w = .ok (.slice (some ⟨w.heap.size, 0, none⟩) (i + k) cp') (w.drew.alloc (.cells (cur.take (i * 2) ++ z).toArray 47)) ∧ i + k ≤ cp' ∧ cp' ≤ maxLen ∧ (cur.take (i * 2) ++ z).length = cp' * 2 := by
 obtain ⟨t, hi8, hz1, hz2, hz3⟩ := info_parts infoG
 have hold := run_firstCells_some (P := Tryz.prog) w.drew t.size i ⟨b, 0, none⟩ i cp (cur.take (i * 2)) (by rw [hz2, List.length_take]; omega) (fun j u hu => by
  rw [Addr.add_lit, Nat.zero_add]
  rw [List.getElem?_take] at hu
  split at hu
  ·exact hraw.cell hu
  ·cases hu)
 have hr := Lib.run_append_grow_zeros (P := Tryz.prog) w 39 3 ty 47 t _ .i64 .i64 Tryz.underlying39 Tryz.underlying3 hi8 hz1 (some ⟨b, 0, none⟩) i cp (cur.take (i * 2)) hold k hk (by rw [hz2]; omega) (by omega) (by omega) (by rw [hz3]; omega) (by rw [hz3]; exact growslice_fits (by omega) (by omega))
 have hge := grownCap_ge w (i + k) cp 47
 refine ⟨grownCap w (i + k) cp 47, (Builtin.zeroCells (Value.agg #[.int .i64 0, .int .i64 0]).cells k ++ Builtin.zeroCells (Value.agg #[.int .i64 0, .int .i64 0]).cells (grownCap w (i + k) cp 47 - (i + k))).toList, ?_, hge, grownCap_le_maxLen w (i + k) cp 47 (by unfold maxLen; omega), ?_⟩
 ·have e : ∀ (l : List Value) (a b : Array Value), (l ++ (a ++ b).toList).toArray = l.toArray ++ a ++ b := fun l a b => by apply Array.ext'; simp
  rw [hr, e]
 ·have e1 := zeroCells_len (Value.agg #[.int .i64 0, .int .i64 0]).cells k
  have e2 := zeroCells_len (Value.agg #[.int .i64 0, .int .i64 0]).cells (grownCap w (i + k) cp 47 - (i + k))
  have e3 : (Value.agg #[.int .i64 0, .int .i64 0]).cells.size = 2 := rfl
  rw [e3] at e1 e2
  rw [List.length_append, Array.toList_append, List.length_append, e1, e2, List.length_take]
  omega
theorem flat_take (xs : List Gl) (k : Nat) : (xs.flatMap glC).take (k * 2) = (xs.take k).flatMap glC := by
 induction xs generalizing k with
 | nil => simp
 | cons x xs ih =>
  cases k with
  | zero => simp
  | succ k =>
   rw [List.flatMap_cons, show (k + 1) * 2 = (glC x).length + k * 2 by rw [glC_len]; omega, List.take_length_add_append, ih, List.take_succ_cons, List.flatMap_cons]
theorem flat_drop (xs : List Gl) (k : Nat) : (xs.flatMap glC).drop (k * 2) = (xs.drop k).flatMap glC := by
 induction xs generalizing k with
 | nil => simp
 | cons x xs ih =>
  cases k with
  | zero => simp
  | succ k =>
   rw [List.flatMap_cons, show (k + 1) * 2 = (glC x).length + k * 2 by rw [glC_len]; omega, List.drop_length_add_append, ih, List.drop_succ_cons]
theorem splice_lo {l cs : List Value} {o k : Nat} (hk : k ≤ o) (ho : o ≤ l.length) : (l.take o ++ cs ++ l.drop (o + cs.length)).take k = l.take k := by
 rw [List.append_assoc, List.take_append_of_le_length (by rw [List.length_take]; omega), List.take_take, Nat.min_eq_left hk]
theorem splice_to {l cs : List Value} {o : Nat} (ho : o ≤ l.length) : (l.take o ++ cs ++ l.drop (o + cs.length)).take (o + cs.length) = l.take o ++ cs := by
 rw [List.take_append_of_le_length (by rw [List.length_append, List.length_take]; omega)]
 exact List.take_of_length_le (by rw [List.length_append, List.length_take]; omega)
theorem splice_len {l cs : List Value} {o : Nat} (ho : o + cs.length ≤ l.length) : (l.take o ++ cs ++ l.drop (o + cs.length)).length = l.length := by
 rw [List.length_append, List.length_append, List.length_take, List.length_drop]; omega
theorem below_setCells {B b : Nat} {a w : World} (h : Below B a w) (hB : B ≤ w.heap.size) (o : Nat) (vs : List Value) (hb : B ≤ b) : Below B a (w.setCells b o vs) :=
 Bas.below_g h (setCells_grown (Bas.grefl w (some b)) o vs) hB hb
theorem setCells_raw {w : World} {b b2 : Nat} {cur : List Value} (h : RawAt w b2 cur) (hne : b2 ≠ b) (o : Nat) (vs : List Value) : RawAt (w.setCells b o vs) b2 cur := (setCells_other b b2 hne vs o w).trans h
theorem run_overlap (w : World) (b b2 o la ca lb cb : Nat) (cur cur2 : List Value) (h1 : RawAt w b2 cur2) (h2 : RawAt w b cur) (hne : b2 ≠ b) (hk : cur.length ≠ 0) :
  (callFunc 151 #[.slice (some ⟨b2, 0, none⟩) la ca, .slice (some ⟨b, o, none⟩) lb cb]).run Tryz.prog w = .ok (.value (.bool false)) w := by
 obtain ⟨i, hi, hz, hs, hb⟩ := info_parts infoG
 have hsz : ∀ w, (Go.sizeOf 47).run Tryz.prog w = .ok 2 w := fun w => by simp [sizeOf, typeInfo, hi, hs]
 rw [run_callFunc_extern Tryz.func151 (by kernel_rfl) (by kernel_rfl) (by kernel_rfl) (e := Extern.SlicesOverlaps.overlaps #[39, 39] #[4]) (by kernel_rfl),
  Lib.run_overlaps_apart w 39 4 47 Tryz.underlying39 2 hsz ⟨b2, 0, none⟩ ⟨b, o, none⟩ la ca lb cb hne _ _ _ _ (by unfold RawAt at h1; simp [World.shape?, h1]; exact ⟨rfl, rfl⟩) (by unfold RawAt at h2; simp [World.shape?, h2]; exact ⟨rfl, rfl⟩) (by simpa using hk) (h1.free 0) (h1.free _)]
 rfl
set_option maxRecDepth 100000 in
set_option maxHeartbeats 4000000 in
theorem insert_any (base base2 : Nat) (sv va : Value) (xs vs : List Gl) (n m i : Nat) (w : World) (ho : w.ownsRow base 47 2 sv n (xs.flatMap glC)) (hn : xs.length = n) (hv : w.ownsRow base2 47 2 va m (vs.flatMap glC)) (hm : vs.length = m)
  (hi : i ≤ n) (hne : ∀ g, sv.ownBlock = some g → va.ownBlock ≠ some g) (h32 : n + m ≤ 4294967296) (hbase : base ≤ w.heap.size) :
  Calls Tryz.prog 149 #[sv, .int .i64 i, va] w (InsP w base sv (xs.take i ++ vs ++ xs.drop i)) := by
 obtain ⟨ys, hys⟩ : ∃ ys, xs.take i ++ vs ++ xs.drop i = ys := ⟨_, rfl⟩
 have HYS := Bas.hid hys
 have HYL : Hid (ys.length = n + m) := by unfold Hid; rw [← hys]; simp; omega
 have HYF : Hid (ys.flatMap glC = (xs.flatMap glC).take (i * 2) ++ vs.flatMap glC ++ (xs.flatMap glC).drop (i * 2)) := by unfold Hid; rw [← hys, List.flatMap_append, List.flatMap_append, flat_take, flat_drop]
 rw [hys]
 clear hys
 obtain ⟨ad, cp, rfl⟩ := own_slice ho
 obtain ⟨av, cv, rfl⟩ := own_slice hv
 have hcp : n ≤ cp ∧ cp ≤ 9223372036854775807 := by
  rcases Row.owned_parts ho with ⟨h1, h2, _⟩ | ⟨_, _, h1, _, _, h2, h3, _⟩
  ·cases h1; omega
  ·cases h1; unfold maxLen at h3; omega
 have HO := Bas.hid ho
 have HV := Bas.hid hv
 have HN := Bas.hid hn
 have HM := Bas.hid hm
 have HNE := Bas.hid hne
 by_cases hm0 : m = 0
 ·subst hm0
  have HF : Hid (ys = xs) := by
   unfold Hid
   rw [← HYS.out, List.eq_nil_of_length_eq_zero hm]; simp
  clear ho hv hn hm hne HV HM HNE HYS HYF HYL
  rcases Nat.eq_or_lt_of_le (Nat.le_trans hi hcp.1) with hic | hic
  ·subst hic
   go_enter Tryz.func149, Tryz.ntmps149
   go_wp2_with (fail)
   go_ret
   refine ⟨_, rfl, ?_, Bas.grefl _ _, .inl rfl⟩
   rw [HF.out, HN.out]
   exact HO.out
  ·go_enter Tryz.func149, Tryz.ntmps149
   go_wp2_with (fail)
   go_ret
   refine ⟨_, rfl, ?_, Bas.grefl _ _, .inl rfl⟩
   rw [HF.out, HN.out]
   exact HO.out
 ·have em : decide ((m : Int) = 0) = false := by simp; omega
  by_cases hin : i = n
  ·subst hin
   have HF : Hid (ys = xs ++ vs) := by unfold Hid; rw [← HYS.out, ← hn, List.take_length, List.drop_length, List.append_nil]
   have HFL := Bas.hid (glC_flat vs)
   have hon := glC_one vs
   clear ho hv hn hm hne HNE HYS HYF HYL
   rcases Nat.eq_or_lt_of_le (Nat.le_trans hi hcp.1) with hic | hic
   ·subst hic
    go_enter Tryz.func149, Tryz.ntmps149
    go_wp2_with (at_builtin; refine Row.fence ?_)
    refine Row.unfence ?_
    refine Row.append_at rfl _ _ 39 47 rfl (.agg #[.int .i64 0, .int .i64 0]) 2 16 Tryz.underlying39 infoG rfl (by decide) base _ i _ rfl HO.out _ m _ rfl (Row.leads_owned HV.out) (by rw [HFL.out, HM.out]) hon (by unfold maxLen; omega) (by omega) hbase ?_
    intro v7 w7 ho7 hg7 _ hat7
    have HO7 := Bas.hid ho7
    have HG7 := Bas.hid hg7
    have HAT := Bas.hid (hat7.imp id (fun h => (⟨_, h, Nat.le_refl _⟩ : ∃ g, v7.ownBlock = some g ∧ w.heap.size ≤ g)))
    clear ho7 hg7 hat7
    go_wp2_with (fail)
    go_ret
    refine ⟨v7, rfl, ?_, HG7.out, HAT.out⟩
    rw [HF.out, List.flatMap_append, List.length_append, HN.out, HM.out]
    exact HO7.out
   ·go_enter Tryz.func149, Tryz.ntmps149
    go_wp2_with (at_builtin; refine Row.fence ?_)
    refine Row.unfence ?_
    refine Row.append_at rfl _ _ 39 47 rfl (.agg #[.int .i64 0, .int .i64 0]) 2 16 Tryz.underlying39 infoG rfl (by decide) base _ i _ rfl HO.out _ m _ rfl (Row.leads_owned HV.out) (by rw [HFL.out, HM.out]) hon (by unfold maxLen; omega) (by omega) hbase ?_
    intro v7 w7 ho7 hg7 _ hat7
    have HO7 := Bas.hid ho7
    have HG7 := Bas.hid hg7
    have HAT := Bas.hid (hat7.imp id (fun h => (⟨_, h, Nat.le_refl _⟩ : ∃ g, v7.ownBlock = some g ∧ w.heap.size ≤ g)))
    clear ho7 hg7 hat7
    go_wp2_with (fail)
    go_ret
    refine ⟨v7, rfl, ?_, HG7.out, HAT.out⟩
    rw [HF.out, List.flatMap_append, List.length_append, HN.out, HM.out]
    exact HO7.out
  ·have ei : decide ((i : Int) = (n : Int)) = false := by simp; omega
   obtain ⟨b, cp2, cur, h1, hbb, hraw, hncp, hcpm, hcl, hct⟩ := raw_of_owned ho (by omega)
   cases h1
   obtain ⟨b2, cv2, cur2, h1, hbb2, hraw2, hmcv, hcvm, hcl2, hct2⟩ := raw_of_owned hv (by omega)
   cases h1
   have hb12 : b ≠ b2 := fun e => hne b rfl (by rw [e]; rfl)
   have hcn : cp = cp := rfl
   have HRAW := Bas.hid hraw
   have HRAW2 := Bas.hid hraw2
   have HFL : Hid ((xs.flatMap glC).length = n * 2) := by unfold Hid; rw [glC_flat, hn]
   have HFV : Hid ((vs.flatMap glC).length = m * 2) := by unfold Hid; rw [glC_flat, hm]
   have hon := glC_one vs
   have hon2 : ∀ v ∈ (xs.flatMap glC).drop (i * 2), v.oneCell' = true := fun v hv => glC_one xs v (List.mem_of_mem_drop hv)
   obtain ⟨X, hX⟩ : ∃ X, xs.flatMap glC = X := ⟨_, rfl⟩
   obtain ⟨V, hV⟩ : ∃ V, vs.flatMap glC = V := ⟨_, rfl⟩
   rw [hX] at hct HFL HYF hon2
   rw [hV] at hct2 HFV HYF hon
   have HCT := Bas.hid hct
   have HCT2 := Bas.hid hct2
   have HCM := Bas.hid hcpm
   have HCL := Bas.hid hcl
   have HX : Hid (∀ j v, (X.drop (i * 2))[j]? = some v → cur[i * 2 + j]? = some v) := fun j v h => by
    rw [List.getElem?_drop, ← hct, List.getElem?_take] at h
    split at h
    ·exact h
    ·cases h
   have HVC : Hid (∀ j v, V[j]? = some v → cur2[0 + j]? = some v) := fun j v h => by
    rw [Nat.zero_add]
    rw [← hct2, List.getElem?_take] at h
    split at h
    ·exact h
    ·cases h
   have HTI : Hid (X.take (i * 2) = cur.take (i * 2)) := by unfold Hid; rw [← hct, List.take_take, Nat.min_eq_left (by omega)]
   clear ho hv hn hm hne hct hct2 hraw hraw2 hcpm hcl2 hcvm HYS HO HV HN HM HNE hX hV
   by_cases hroom : cp < n + m
   ·have er : decide ((cp : Int) < (n : Int) + (m : Int)) = true := by simp; omega
    have ek : (n : Int) + (m : Int) - (i : Int) = ((n + m - i : Nat) : Int) := by omega
    obtain ⟨cp', z, hrun, hge, hcm', hl'⟩ := run_grow_gl w 39 b i cp (n + m - i) cur HRAW.out hcl (by omega) (by omega) (by omega) (by omega) HCM.out
    have HB : Hid (Below w.heap.size w (w.drew.alloc (.cells (cur.take (i * 2) ++ z).toArray 47))) := Below.alloc (a := w) (w := w.drew) (Bas.below_drewN (Below.refl _ _) 1) (Nat.le_refl _) _
    have HRG : Hid (RawAt (w.drew.alloc (.cells (cur.take (i * 2) ++ z).toArray 47)) w.heap.size (cur.take (i * 2) ++ z)) := Bas.heap_new w.drew _
    have HGE := Bas.hid hge
    have HCM' := Bas.hid hcm'
    have HL' := Bas.hid hl'
    clear hge hcm' hl' hcl
    go_enter Tryz.func149, Tryz.ntmps149
    go_wp2_with (at_builtin; refine Row.fence ?_)
    refine Row.unfence ?_
    refine Lib.wpList_append_run w rfl _ _ _ _ rfl _ _ rfl (by rw [← ek]; rfl) _ _ hrun ?_
    have hblt := heap_lt HRAW.out
    have hb2lt := heap_lt HRAW2.out
    have HR1 := Bas.hid (HRAW.out.below HB.out)
    have HR2 := Bas.hid (HRAW2.out.below HB.out)
    have hik : i + (n + m - i) = n + m := by omega
    rw [hik]
    have hge2 : n + m ≤ cp' := by have := HGE.out; omega
    have hcm2 : cp' ≤ 9223372036854775807 := by have := HCM'.out; unfold maxLen at this; omega
    have HL2 : Hid ((cur.take (i * 2) ++ z).length = cp' * 2) := HL'.out
    have hgne : w.heap.size ≠ b := by omega
    have hgne2 : w.heap.size ≠ b2 := by omega
    have HGS : Hid (w.heap.size ≤ (w.drew.alloc (.cells (cur.take (i * 2) ++ z).toArray 47)).heap.size) := HB.out.size
    clear hik hrun hblt hb2lt HGE HCM' HL'
    generalize (w.drew.alloc (.cells (cur.take (i * 2) ++ z).toArray 47)) = W1 at *
    obtain ⟨G, hG⟩ : ∃ G, w.heap.size = G := ⟨_, rfl⟩
    have HGG := Bas.hid hG
    rw [hG] at HB HRG hgne hgne2 HGS
    rw [hG]
    clear hG
    obtain ⟨C, hC⟩ : ∃ C, cur.take (i * 2) ++ z = C := ⟨_, rfl⟩
    have HC0 : Hid (C.take (i * 2) = X.take (i * 2)) := by
     unfold Hid
     have hcl := HCL.out
     rw [← hC, HTI.out, List.take_append_of_le_length (by rw [List.length_take]; omega), List.take_take, Nat.min_self]
    rw [hC] at HRG HL2
    clear hC
    go_wp2_with (fail)
    obtain ⟨hrun1, hr1⟩ := copy_run 3 G (i * 2) (n + m - i) (cp' - i) b2 0 m cv C V HRG.out (by rw [HFV.out]; exact congrArg (· * 2) (Nat.min_eq_left (by omega)).symm) (by rw [HFV.out, HL2.out]; omega) (fun j v hv => HR2.out.cell (HVC.out j v hv)) hon
    rw [hrun1]
    clear hrun1
    have HRA := Bas.hid hr1
    have HB2 := Bas.hid (below_setCells HB.out HGS.out (i * 2) V (Nat.le_refl _))
    have HR1b := Bas.hid (setCells_raw HR1.out (fun e => hgne e.symm) (i * 2) V)
    have HGS2 : Hid (G ≤ (W1.setCells G (i * 2) V).heap.size) := by unfold Hid; rw [setCells_size]; exact HGS.out
    clear hr1 HR2 HVC HRG HB HR1
    generalize (W1.setCells G (i * 2) V) = W2 at *
    go_wp2_with (fail)
    refine' Pl.region_v0 95 [] [0, 1, 2, 3, 4, 5, 6, 7] [8] _ (by kernel_rfl) (by kernel_rfl) (by simp) (fun _ _ _ _ e h => ⟨e ▸ h.1, h.2⟩) ?_ ?_
    rotate_left
    ·intro I F hI hF
     simp only [Pl.selN, List.nil_append, List.drop_succ_cons, List.drop_zero]
     repeat (go_big_quiet_step (fail))
     refine wpQuiet_nil ?_
     rfl
    intro w5 hw5
    simp only [Pl.selN, List.drop_succ_cons, List.drop_zero]
    have HB5 := Bas.hid (HB2.out.trans (hw5.mono HGS2.out))
    have HRA5 := Bas.hid (HRA.out.below hw5)
    have HR15 := Bas.hid (HR1b.out.below hw5)
    have HGS5 := Bas.hid (Nat.le_trans HGS2.out hw5.size)
    clear hw5 HB2 HRA HR1b HGS2
    have HLX : Hid ((X.drop (i * 2)).length = (n - i) * 2) := by unfold Hid; rw [List.length_drop, HFL.out]; omega
    have HLC : Hid ((C.take (i * 2) ++ V ++ C.drop (i * 2 + V.length)).length = cp' * 2) := by unfold Hid; rw [splice_len (by rw [HFV.out, HL2.out]; omega)]; exact HL2.out
    have HLT : Hid ((C.take (i * 2) ++ V ++ C.drop (i * 2 + V.length)).take ((i + m) * 2) = X.take (i * 2) ++ V) := by
     unfold Hid
     rw [show (i + m) * 2 = i * 2 + V.length by rw [HFV.out]; omega, splice_to (by rw [HL2.out]; omega), HC0.out]
    generalize C.take (i * 2) ++ V ++ C.drop (i * 2 + V.length) = C2 at *
    refine copy_raw rfl _ _ rfl G ((i + m) * 2) (n + m - (i + m)) (cp' - (i + m)) b (i * 2) (n - i) (cp - i) rfl rfl C2 (X.drop (i * 2)) HRA5.out (by rw [HLX.out]; exact congrArg (· * 2) (Nat.min_eq_left (by omega)).symm) (by rw [HLX.out, HLC.out]; omega) (fun j v hv => HR15.out.cell (HX.out j v hv)) hon2 ?_
    intro k2 hr2
    have HR2' := Bas.hid hr2
    have HB6 := Bas.hid (below_setCells HB5.out HGS5.out ((i + m) * 2) (X.drop (i * 2)) (Nat.le_refl _))
    clear hr2
    go_wp2_with (fail)
    go_ret
    have HYF2 := HYF.out
    refine ⟨_, rfl, ?_, Bas.gbelow (Bas.grefl _ _) (HGG.out ▸ HB6.out), .inr ⟨G, rfl, by rw [HGG.out]; exact Nat.le_refl _⟩⟩
    rw [HYL.out]
    refine HR2'.out.owned (by have := HGG.out; omega) (by omega) (by unfold maxLen; omega) (by rw [splice_len (by rw [HLX.out, HLC.out]; omega)]; exact HLC.out) _ ?_
    rw [show (n + m) * 2 = (i + m) * 2 + (X.drop (i * 2)).length by rw [HLX.out]; omega, splice_to (by rw [HLC.out]; omega), HLT.out, HYF2]
   ·have er : decide ((cp : Int) < (n : Int) + (m : Int)) = false := by simp; omega
    have hov := run_overlap w b b2 ((i + m) * 2) m cv (n + m - (i + m)) (cp - (i + m)) cur cur2 HRAW2.out HRAW.out (fun e => hb12 e.symm) (by rw [hcl]; omega)
    have HOV := Bas.hid hov
    clear hov
    go_enter Tryz.func149, Tryz.ntmps149
    go_wp2_with (at_builtin; refine Row.fence ?_)
    rw [HOV.out]
    have hb2lt := heap_lt HRAW2.out
    have HW0 : Hid (w.grownBy w (some b)) := Bas.grefl _ _
    go_wp2_with (fail)
    refine' Pl.region_v0 95 [] [0, 1, 2, 3, 4, 5, 6, 7] [8] _ (by kernel_rfl) (by kernel_rfl) (by simp) (fun _ _ _ _ e h => ⟨e ▸ h.1, h.2⟩) ?_ ?_
    rotate_left
    ·intro I F hI hF
     simp only [Pl.selN, List.nil_append, List.drop_succ_cons, List.drop_zero]
     repeat (go_big_quiet_step (fail))
     refine wpQuiet_nil ?_
     rfl
    intro w5 hw5
    simp only [Pl.selN, List.drop_succ_cons, List.drop_zero]
    have HG5 := Bas.hid (Bas.gbelow HW0.out hw5)
    have HRA5 := Bas.hid (HRAW.out.below hw5)
    have HR25 := Bas.hid (HRAW2.out.below hw5)
    clear hw5 HW0
    have HLX : Hid ((X.drop (i * 2)).length = (n - i) * 2) := by unfold Hid; rw [List.length_drop, HFL.out]; omega
    refine copy_raw rfl _ _ rfl b ((i + m) * 2) (n + m - (i + m)) (cp - (i + m)) b (i * 2) (n + m - i) (cp - i) rfl rfl cur (X.drop (i * 2)) HRA5.out (by rw [HLX.out, show Nat.min (n + m - i) (n + m - (i + m)) = n + m - (i + m) from Nat.min_eq_right (by omega)]; omega) (by rw [HLX.out, hcl]; omega) (fun j v hv => HRA5.out.cell (HX.out j v hv)) hon2 ?_
    intro k1 hr1
    have HRA6 := Bas.hid hr1
    have HG6 := Bas.hid (setCells_grown HG5.out ((i + m) * 2) (X.drop (i * 2)))
    have HR26 := Bas.hid (setCells_raw HR25.out (fun e => hb12 e.symm) ((i + m) * 2) (X.drop (i * 2)))
    have HLC : Hid ((cur.take ((i + m) * 2) ++ X.drop (i * 2) ++ cur.drop ((i + m) * 2 + (X.drop (i * 2)).length)).length = cp * 2) := by unfold Hid; rw [splice_len (by rw [HLX.out, hcl]; omega)]; exact hcl
    have HLT : Hid ((cur.take ((i + m) * 2) ++ X.drop (i * 2) ++ cur.drop ((i + m) * 2 + (X.drop (i * 2)).length)).take (i * 2) = X.take (i * 2)) := by unfold Hid; rw [splice_lo (by omega) (by omega)]; exact HTI.out.symm
    have HLD : Hid (((cur.take ((i + m) * 2) ++ X.drop (i * 2) ++ cur.drop ((i + m) * 2 + (X.drop (i * 2)).length)).drop ((i + m) * 2)).take ((n - i) * 2) = X.drop (i * 2)) := by
     unfold Hid
     have e : (cur.take ((i + m) * 2)).length = (i + m) * 2 := by rw [List.length_take]; omega
     rw [List.append_assoc]
     have e2 : ∀ (a b : List Value) (k : Nat), a.length = k → (a ++ b).drop k = b := fun a b k h => by subst h; exact List.drop_left
     rw [e2 _ _ _ e]
     rw [List.take_append_of_le_length (by rw [HLX.out]; omega)]
     exact List.take_of_length_le (by rw [HLX.out]; omega)
    clear hr1 HG5 HRA5 HR25
    generalize (w5.setCells b ((i + m) * 2) (X.drop (i * 2))) = W6 at *
    generalize cur.take ((i + m) * 2) ++ X.drop (i * 2) ++ cur.drop ((i + m) * 2 + (X.drop (i * 2)).length) = C2 at *
    go_wp2_with (fail)
    obtain ⟨hrun1, hr2⟩ := copy_run 3 b (i * 2) (n + m - i) (cp - i) b2 0 m cv C2 V HRA6.out (by rw [HFV.out]; exact congrArg (· * 2) (Nat.min_eq_left (by omega)).symm) (by rw [HFV.out, HLC.out]; omega) (fun j v hv => HR26.out.cell (HVC.out j v hv)) hon
    rw [hrun1]
    clear hrun1
    have HR2' := Bas.hid hr2
    have HG7 := Bas.hid (setCells_grown HG6.out (i * 2) V)
    clear hr2
    go_wp2_with (fail)
    go_ret
    have HYF2 := HYF.out
    refine ⟨_, rfl, ?_, HG7.out, .inl rfl⟩
    rw [HYL.out]
    refine HR2'.out.owned hbb (by omega) HCM.out (by rw [splice_len (by rw [HFV.out, HLC.out]; omega)]; exact HLC.out) _ ?_
    have e1 : (C2.take (i * 2) ++ V).length = (i + m) * 2 := by rw [List.length_append, List.length_take, HFV.out, HLC.out]; omega
    rw [show (n + m) * 2 = (C2.take (i * 2) ++ V).length + (n - i) * 2 by rw [e1]; omega, List.take_length_add_append, show i * 2 + V.length = (i + m) * 2 by rw [HFV.out]; omega, HLD.out, HLT.out, HYF2]
end Ln
end Go.Proofs.YtoncnjhhdlpliaaGreat
namespace Go.Proofs.YtoncnjhhdlpliaaGreat
open Go.RowKit
namespace Ln
open Ch
theorem clean_all {xs : List Gl} (h : ∀ (j : Nat) (y : Gl), xs[j]? = some y → y.1 ≠ 65535) : cleanL xs = xs := by
 unfold cleanL
 rw [List.filter_eq_self]
 intro y hy
 obtain ⟨j, hj⟩ := List.getElem?_of_mem hy
 simpa using h j y hj
theorem clean_snoc (xs : List Gl) (j : Nat) (y : Gl) (h : xs[j]? = some y) : cleanL (xs.take (j + 1)) = if y.1 = 65535 then cleanL (xs.take j) else cleanL (xs.take j) ++ [y] := by
 unfold cleanL
 rw [List.take_add_one, h, List.filter_append]
 split <;> rename_i hy <;> simp [hy]
structure DelTo (xs ys : List Gl) (i j : Nat) : Prop where
 len : ys.length = xs.length
 pre : ys.take i = cleanL (xs.take j)
 at' : i ≤ j
 post : ∀ k, j ≤ k → ys[k]? = xs[k]?
theorem DelTo.skip {xs ys : List Gl} {i j : Nat} (h : DelTo xs ys i j) {y : Gl} (hy : xs[j]? = some y) (hd : y.1 = 65535) : DelTo xs ys i (j + 1) :=
 ⟨h.len, by rw [clean_snoc xs j y hy, if_pos hd]; exact h.pre, by have := h.at'; omega, fun k hk => h.post k (by omega)⟩
theorem DelTo.keep {xs ys : List Gl} {i j : Nat} (h : DelTo xs ys i j) {y : Gl} (hy : xs[j]? = some y) (hd : y.1 ≠ 65535) : DelTo xs (ys.set i y) (i + 1) (j + 1) := by
 have hj := (List.getElem?_eq_some_iff.1 hy).1
 have h3 := h.at'
 have h1 := h.len
 refine ⟨by simpa using h1, ?_, by omega, fun k hk => by rw [List.getElem?_set_ne (by omega)]; exact h.post k (by omega)⟩
 rw [clean_snoc xs j y hy, if_neg hd, ← h.pre, List.take_add_one, List.getElem?_set_self (by omega), List.take_set, List.set_eq_of_length_le (by rw [List.length_take]; exact Nat.min_le_left _ _)]
 rfl
theorem delTo_start {xs : List Gl} {k : Nat} {x : Gl} (hx : xs[k]? = some x) (h5 : x.1 = 65535) (hno : ∀ (j : Nat) (y : Gl), j < k → xs[j]? = some y → y.1 ≠ 65535) : DelTo xs xs k (k + 1) := by
 refine ⟨rfl, ?_, by omega, fun _ _ => rfl⟩
 rw [clean_snoc xs k x hx, if_pos h5, clean_all]
 intro j y hy
 rw [List.getElem?_take] at hy
 split at hy
 ·rename_i hj; exact hno j y hj hy
 ·cases hy
set_option maxRecDepth 100000 in
set_option maxHeartbeats 4000000 in
theorem delete_any (base : Nat) (sv : Value) (xs : List Gl) (n : Nat) (w : World) (ho : w.ownsRow base 47 2 sv n (xs.flatMap glC)) (hn : xs.length = n) (hn2 : n ≤ 4294967296) :
  Calls Tryz.prog 47 #[sv, .func (.func 48) #[] #[]] w fun e w' => ∃ sv', e = .returned sv' ∧ w'.ownsRow base 47 2 sv' (cleanL xs).length ((cleanL xs).flatMap glC) ∧ w.grownBy w' sv.ownBlock ∧ sv'.ownBlock = sv.ownBlock := by
 obtain ⟨ad, cp, rfl⟩ := own_slice ho
 have HO := Bas.hid ho
 have HN := Bas.hid hn
 have HIX := Bas.hid (index_any ad cp xs n w (Row.leads_owned ho) hn hn2)
 clear ho hn
 go_enter Tryz.func47, Tryz.ntmps47
 go_wp2_with (fail)
 refine HIX.out.mono ?_
 rintro e w1 ⟨hb1, ⟨k, x, rfl, hx, h5, hno⟩ | ⟨rfl, hno⟩⟩
 ·have hk := (List.getElem?_eq_some_iff.1 hx).1
  rw [HN.out] at hk
  have HD := Bas.hid (delTo_start hx h5 hno)
  have HO1 := Bas.hid (Row.owned_below HO.out hb1)
  have HG1 := Bas.hid (Bas.gbelow (Bas.grefl w (Value.ownBlock (.slice ad n cp))) hb1)
  have e0 : ((k : Int) == -1) = false := beq_eq_false_iff_ne.2 (by omega)
  clear hx h5 hno hb1 HIX
  go_wp2_with (fail)
  go_loopw [5, 6] (fun vi vj wr => ∃ (i j : Nat) (ys : List Gl), j ≤ n ∧ vi = .int .i64 i ∧ vj = .int .i64 j ∧ wr.ownsRow base 47 2 (.slice ad n cp) n (ys.flatMap glC) ∧ DelTo xs ys i j ∧ w.grownBy wr (Value.ownBlock (.slice ad n cp))) (fun _ vj _ => n - (intOf vj).toNat)
  case atStart => exact ⟨k, k + 1, xs, by omega, rfl, rfl, HO1.out, HD.out, HG1.out⟩
  case round =>
   obtain ⟨i, j, ys, hj, rfl, rfl, hoy, hd, hg⟩ := hrel
   have HOY := Bas.hid hoy
   have HDY := Bas.hid hd
   have HGY := Bas.hid hg
   have hij := hd.at'
   by_cases hjn : j < n
   ·have e1 : decide ((j : Int) < (n : Int)) = true := by simp; omega
    have hyl := hd.len
    rw [HN.out] at hyl
    obtain ⟨⟨y0, y1⟩, hy⟩ : ∃ y, ys[j]? = some y := ⟨_, List.getElem?_eq_getElem (by rw [hyl]; exact hjn)⟩
    have HXJ := Bas.hid ((hd.post j (Nat.le_refl _)).symm.trans hy)
    obtain ⟨bo, cp', hv, hlt, hbb, c0, c1, hfr⟩ := own_cells hoy hy
    cases hv
    have HYL := Bas.hid hyl
    simp only at c0 c1
    have k1 := Bas.heap_new wr (.cells #[.int .i64 y0, .int .i64 y1] 47)
    have hb1 := (Below.refl wr.heap.size wr).alloc (Nat.le_refl _) (.cells #[.int .i64 y0, .int .i64 y1] 47)
    clear hoy hd hg hfr hyl hy
    go_wp2_with (fail)
    refine (clean1_any y0 y1 _).mono ?_
    rintro e w2 ⟨rfl, hb2⟩
    have hb3 := hb1.trans (hb2.mono hb1.size)
    have HOY2 := Bas.hid (Row.owned_below HOY.out hb3)
    have HGY2 := Bas.hid (Bas.gbelow HGY.out hb3)
    have kT := (hb2.block _ (heap_lt k1)).trans k1
    clear hb1 hb2 hb3 k1 HOY HGY c0 c1 hlt
    by_cases h5 : y0 = 65535
    ·have e5 : decide (y0 = 65535) = true := decide_eq_true h5
     have HD2 := Bas.hid (HDY.out.skip HXJ.out h5)
     clear h5 kT
     go_wp2_with (fail)
     go_roundw
     case rel => exact ⟨i, j + 1, ys, by omega, rfl, by go_num, HOY2.out, HD2.out, HGY2.out⟩
     case measure => simp [intOf]; omega
    ·have e5 : decide (y0 = 65535) = false := decide_eq_false h5
     have HD2 := Bas.hid (HDY.out.keep HXJ.out h5)
     have hin : i < n := by omega
     obtain ⟨⟨x0, x1⟩, hx⟩ : ∃ x, ys[i]? = some x := ⟨_, List.getElem?_eq_getElem (by rw [HYL.out]; exact hin)⟩
     obtain ⟨_, _, hv3, hlt5, _, p0, p1, hfr⟩ := own_cells HOY2.out hx
     cases hv3
     have f0 := hfr (i * 2)
     have f1 := hfr (i * 2 + 1)
     have e6 : decide ((i : Int) < (n : Int)) = true := by simp; omega
     have HS := Bas.hid (own_put2 HOY2.out (k := i) (by rw [HYL.out]; exact hin) y0 y1)
     have HGS := Bas.hid (Bas.gset (Bas.gset HGY2.out (i * 2) (.int .i64 y0)) (i * 2 + 1) (.int .i64 y1))
     have t0 := cell_of_heap (i := 0) kT rfl
     have t1 := cell_of_heap (i := 1) kT rfl
     have lT := heap_lt kT
     clear h5 kT hfr hx
     go_wp2_with (fail)
     go_roundw
     case rel => exact ⟨i + 1, j + 1, _, by omega, by go_num, by go_num, HS.out, HD2.out, HGS.out⟩
     case measure => simp [intOf]; omega
   ·have e1 : decide ((j : Int) < (n : Int)) = false := by simp; omega
    have hjn2 : j = n := by omega
    have HF : Hid (ys.take i = cleanL xs) := by
     have h := HDY.out.pre
     rw [hjn2, List.take_of_length_le (l := xs) (by rw [HN.out]; exact Nat.le_refl _)] at h
     exact h
    have hyl := hd.len
    rw [HN.out] at hyl
    have HYL := Bas.hid hyl
    obtain ⟨b, cp2, cur, h1, hbb, hraw, hncp, hcpm, hcl, hct⟩ := raw_of_owned hoy (by omega)
    cases h1
    have HRAW := Bas.hid hraw
    have HCT := Bas.hid hct
    have HCL := Bas.hid hcl
    have HCM := Bas.hid hcpm
    have hin : i ≤ n := by omega
    have hk1 : i < n ∨ i = n := by omega
    have HLC : Hid ((cleanL xs).length = i) := by unfold Hid; rw [← HF.out, List.length_take]; omega
    have hcp63 : cp ≤ 9223372036854775807 := by unfold maxLen at hcpm; omega
    have HTK : Hid (cur.take (i * 2) = (cleanL xs).flatMap glC) := by
     unfold Hid
     have h : (cur.take (n * 2)).take (i * 2) = (ys.flatMap glC).take (i * 2) := by rw [HCT.out]
     rw [List.take_take, Nat.min_eq_left (by omega), flat_take, HF.out] at h
     exact h
    rcases Nat.eq_or_lt_of_le (Nat.le_trans hin hncp) with hic | hic
    ·have hcn : n = cp := by omega
     subst hcn
     subst hic
     clear hoy hd hg hyl hraw hcpm hcl hct hjn2 hij
     go_wp2_with (fail)
     have hz : ∀ ty, (Builtin.clear_ #[39] ty #[.slice (some ⟨b, 0, none⟩) 0 0]).run Tryz.prog wr = .ok (.tuple #[]) wr := fun ty => by
      rw [run_clear_gl wr ty b 0 0 0 (fun j hj => by omega) (fun j hj => by omega)]
      simp [Builtin.zeroCells, World.setCells]
     rw [hz]
     clear hz
     go_wp2_with (fail)
     go_ret
     refine ⟨_, rfl, ?_, ?_, rfl⟩
     ·rw [HLC.out]
      exact HRAW.out.owned hbb (Nat.le_refl _) HCM.out HCL.out _ HTK.out
     ·exact HGY.out
    ·have hrun := run_clear_gl wr 0 b (i * 2) (n - i) (cp - i) (fun j hj => by
      have : i * 2 + j < cur.length := by omega
      rw [hraw.cell (List.getElem?_eq_getElem this)]
      rfl) (fun j _ => hraw.free _)
     have hlen : (Builtin.zeroCells (Value.agg #[.int .i64 0, .int .i64 0]).cells (n - i)).toList.length = (n - i) * 2 := zeroCells_len _ _
     have HR2 := Bas.hid (hraw.set (i * 2) _ (by rw [hlen]; omega))
     have HG2 := Bas.hid (setCells_grown HGY.out (i * 2) (Builtin.zeroCells (Value.agg #[.int .i64 0, .int .i64 0]).cells (n - i)).toList)
     generalize (Builtin.zeroCells (Value.agg #[.int .i64 0, .int .i64 0]).cells (n - i)).toList = zs at *
     have HZ := Bas.hid hlen
     have HRUN := Bas.hid hrun
     clear hoy hd hg hyl hraw hcpm hcl hct hjn2 hij hlen hrun
     go_wp2_with (fail)
     rw [HRUN.out]
     go_wp2_with (fail)
     go_ret
     refine ⟨_, rfl, ?_, HG2.out, rfl⟩
     rw [HLC.out]
     have hcl := HCL.out
     refine HR2.out.owned hbb (Nat.le_of_lt hic) HCM.out (by rw [splice_len (by rw [HZ.out]; omega)]; exact HCL.out) _ ?_
     rw [splice_lo (Nat.le_refl _) (by omega)]
     exact HTK.out
 ·have HC := Bas.hid (clean_all hno)
  have HO1 := Bas.hid (Row.owned_below HO.out hb1)
  have HG1 := Bas.hid (Bas.gbelow (Bas.grefl w (Value.ownBlock (.slice ad n cp))) hb1)
  clear hno hb1 HIX
  go_wp2_with (fail)
  go_ret
  refine ⟨_, rfl, ?_, HG1.out, rfl⟩
  rw [HC.out, HN.out]
  exact HO1.out
end Ln
end Go.Proofs.YtoncnjhhdlpliaaGreat
namespace Go.Proofs.YtoncnjhhdlpliaaGreat
open Go.RowKit
namespace Ln
open Ch
theorem lnTo_same {w w' : World} {base g : Nat} {sv : Value} {xs ys : List Gl} (h : LineAt w base g sv xs) (ho : w'.ownsRow base 47 2 sv ys.length (ys.flatMap glC)) (hg : w.grownBy w' sv.ownBlock) : LnTo w base g sv ys w' :=
 ⟨sv, ⟨(hg.block g h.lt (fun e => h.ne e.symm)).trans h.head, ho, h.low⟩, Mod.of_grown hg (fun _k hk => .inr hk), fun _ h => .inl h⟩
theorem lnTo_store {w w' : World} {base g : Nat} {sv sv' : Value} {xs ys : List Gl} (h : LineAt w base g sv xs) (ho : w'.ownsRow base 47 2 sv' ys.length (ys.flatMap glC)) (hg : w.grownBy w' sv.ownBlock)
  (hat : sv'.ownBlock = sv.ownBlock ∨ ∃ k, sv'.ownBlock = some k ∧ w.heap.size ≤ k) : LnTo w base g sv ys (w'.setCell ⟨g, 0, none⟩ sv') := by
 have h7 := (hg.block g h.lt (fun e => h.ne e.symm)).trans h.head
 have k8 := heap_set (i := 0) h7 sv'
 refine ⟨sv', ⟨k8, ?_, h.low⟩, (Mod.of_grown hg (fun k hk => .inr hk)).set (S := blk g sv) sv' (.inl (.inl rfl)), fun k hk => ?_⟩
 ·exact Row.owned_keep ho fun k hk => Below.heap_setCell _ _ _ _ (fun e => own_ty ho h7 (by decide) (by rw [hk, e]))
 ·rcases hat with h1 | ⟨k', h1, h2⟩
  ·exact .inl (h1 ▸ hk)
  ·rw [h1] at hk; cases hk; exact .inr h2
theorem turn_any (base g : Nat) (sv : Value) (xs : List Gl) (w : World) (h : LineAt w base g sv xs) (hn : xs.length ≤ 4294967296) :
  Calls Tryz.prog 13 #[.pointer (some ⟨g, 0, none⟩)] w fun e w' => e = .returned (.tuple #[]) ∧ LnTo w base g sv xs.reverse w' := by
 have HC := Bas.hid (reverse_any base sv xs xs.length w h.own rfl hn)
 have HH := Bas.hid h
 obtain ⟨ad, cp, rfl⟩ := own_slice h.own
 have g0 := cell_of_heap (i := 0) (v := .slice ad xs.length cp) h.head rfl
 have lg := h.lt
 clear h
 go_enter Tryz.func13, Tryz.ntmps13
 go_wp2_with (fail)
 refine HC.out.mono ?_
 rintro e w2 ⟨rfl, ho, hg⟩
 have HR := Bas.hid (lnTo_same HH.out (by rw [List.length_reverse]; exact ho) hg)
 clear ho hg HC
 go_wp2_with (fail)
 go_end0
 exact ⟨rfl, HR.out⟩
theorem clean_any (base g : Nat) (sv : Value) (xs : List Gl) (w : World) (h : LineAt w base g sv xs) (hn : xs.length ≤ 4294967296) :
  Calls Tryz.prog 30 #[.pointer (some ⟨g, 0, none⟩)] w fun e w' => e = .returned (.tuple #[]) ∧ LnTo w base g sv (cleanL xs) w' := by
 have HC := Bas.hid (delete_any base sv xs xs.length w h.own rfl hn)
 have HH := Bas.hid h
 obtain ⟨ad, cp, rfl⟩ := own_slice h.own
 have g0 := cell_of_heap (i := 0) (v := .slice ad xs.length cp) h.head rfl
 have lg := h.lt
 clear h
 go_enter Tryz.func30, Tryz.ntmps30
 go_wp2_with (fail)
 refine HC.out.mono ?_
 rintro e w2 ⟨sv2, rfl, ho, hg, hat⟩
 obtain ⟨ad2, cp2, rfl⟩ := own_slice ho
 have HR := Bas.hid (lnTo_store HH.out ho hg (.inl hat))
 have k7 := (hg.block g HH.out.lt (fun e => HH.out.ne e.symm)).trans HH.out.head
 have c0 := cell_of_heap (i := 0) k7 rfl
 have f0 := free_of_heap (i := 0) k7
 have lk := heap_lt k7
 clear ho hg HC g0 lg k7 hat
 go_wp2_with (fail)
 go_end0
 exact ⟨rfl, HR.out⟩
end Ln
end Go.Proofs.YtoncnjhhdlpliaaGreat
namespace Go.Proofs.YtoncnjhhdlpliaaGreat
open Go.RowKit
namespace Ln
open Ch
theorem infoB : (Tryz.prog.info? 4).map (fun i => (i.zero, i.size, i.bytes)) = some (some (.bool false), 1, 1) := by kernel_rfl
theorem made_bool (n : Nat) : madeCells (Value.bool false).cells n = Array.replicate n (Value.bool false) := by
 apply Array.ext
 ·simp [madeCells]
 ·intro i h1 h2
  simp [madeCells, Value.cells, Nat.mod_one]
theorem mk_bool (w : World) (n : Nat) (hn : n ≤ 4294967296) : (Instr.makeSlice 58 (.int .i64 n) (.int .i64 n)).run Tryz.prog w = .ok (.slice (some ⟨w.heap.size, 0, none⟩) n n) (w.alloc (.cells (Array.replicate n (Value.bool false)) 4)) := by
 obtain ⟨i8, hi, hz, hs, hb⟩ := info_parts infoB
 have h := run_make (P := Tryz.prog) w 58 4 i8 (.bool false) Tryz.underlying58 hi hz .i64 .i64 n n (by omega) (Int.le_refl _) (by rw [hb]; omega) (by omega)
 rw [hs, Nat.mul_one, made_bool] at h
 simpa using h
def ordP (xs : List Gl) (f : Nat) (order : List Int) : List Gl := xs.take f ++ order.map (fun k => (xs.drop f).getD k.toNat (0, 0)) ++ xs.drop (f + order.length)
theorem ordP_len (xs : List Gl) (f : Nat) (order : List Int) (h : f + order.length ≤ xs.length) : (ordP xs f order).length = xs.length := by
 unfold ordP; simp; omega
theorem ordP_get (xs : List Gl) (f : Nat) (order : List Int) (h : f + order.length ≤ xs.length) (q : Nat) : (ordP xs f order)[q]? = if f ≤ q ∧ q < f + order.length then order[q - f]?.map (fun k => (xs.drop f).getD k.toNat (0, 0)) else xs[q]? := by
 have e1 : (xs.take f).length = f := by rw [List.length_take]; omega
 unfold ordP
 rw [List.append_assoc]
 by_cases h1 : q < f
 ·rw [List.getElem?_append_left (by omega), if_neg (by omega), List.getElem?_take, if_pos h1]
 ·rw [List.getElem?_append_right (by omega), e1]
  by_cases h2 : q < f + order.length
  ·rw [List.getElem?_append_left (by rw [List.length_map]; omega), if_pos ⟨by omega, h2⟩, List.getElem?_map]
  ·rw [List.getElem?_append_right (by rw [List.length_map]; omega), if_neg (by omega), List.length_map, List.getElem?_drop]
   congr 1; omega
theorem ordP_zero (xs : List Gl) (f : Nat) : ordP xs f [] = xs := by unfold ordP; simp
theorem ordP_succ {xs : List Gl} {f j : Nat} {order : List Int} {k : Int} (h : f + order.length ≤ xs.length) (hk : order[j]? = some k) : ordP xs f (order.take (j + 1)) = (ordP xs f (order.take j)).set (f + j) ((xs.drop f).getD k.toNat (0, 0)) := by
 have hj := (List.getElem?_eq_some_iff.1 hk).1
 have l1 : (order.take j).length = j := by rw [List.length_take]; omega
 have l2 : (order.take (j + 1)).length = j + 1 := by rw [List.length_take]; omega
 apply List.ext_getElem?
 intro q
 rw [ordP_get xs f _ (by omega) q, l2]
 by_cases hq : q = f + j
 ·subst hq
  rw [List.getElem?_set_self (by rw [ordP_len xs f _ (by omega)]; omega), if_pos (by omega), show f + j - f = j by omega, List.getElem?_take, if_pos (by omega), hk]
  rfl
 ·rw [List.getElem?_set_ne (by omega), ordP_get xs f _ (by omega) q, l1]
  by_cases h1 : f ≤ q ∧ q < f + j
  ·rw [if_pos (by omega), if_pos h1, List.getElem?_take, List.getElem?_take, if_pos (by omega), if_pos (by omega)]
  ·rw [if_neg (by omega), if_neg h1]
theorem leads_sub {w : World} {base m bo cp : Nat} {xs : List Gl} (h : w.ownsRow base 47 2 (.slice (some ⟨bo, 0, none⟩) m cp) m (xs.flatMap glC)) (f n c : Nat) : Row.Leads w (.slice (some ⟨bo, f * 2, none⟩) n c) n (((xs.drop f).take n).flatMap glC) := by
 refine .inr ⟨_, c, rfl, fun j u hu => ?_⟩
 rw [Addr.add_lit]
 rw [← flat_take, ← flat_drop, List.getElem?_take] at hu
 split at hu
 ·rw [List.getElem?_drop] at hu
  rcases Row.leads_owned h with ⟨h1, _⟩ | ⟨ad, cap, h1, h2⟩
  ·cases h1
  ·cases h1
   have := h2 _ u hu
   rwa [Addr.add_lit, Nat.zero_add] at this
 ·cases hu
def knownL (n : Nat) (order : List Int) (j : Nat) : List Bool := (List.range n).map fun (k : Nat) => decide ((k : Int) ∈ order.take j)
theorem knownL_zero (n : Nat) (order : List Int) : knownL n order 0 = List.replicate n false := by
 unfold knownL
 simp [List.map_const']
theorem knownL_succ (n : Nat) (order : List Int) (j k : Nat) (hk : order[j]? = some (k : Int)) : knownL n order (j + 1) = (knownL n order j).set k true := by
 apply List.ext_getElem?
 intro q
 unfold knownL
 rw [List.take_add_one, hk]
 by_cases hq : q < n
 ·by_cases hqk : q = k
  ·subst hqk
   rw [List.getElem?_set_self (by simpa using hq), List.getElem?_map, List.getElem?_range hq]
   simp
  ·rw [List.getElem?_set_ne (by omega), List.getElem?_map, List.getElem?_map, List.getElem?_range hq]
   simp
   intro e; omega
 ·rw [List.getElem?_eq_none (by simp; omega), List.getElem?_eq_none (by simp; omega)]
theorem knownL_at (n : Nat) (order : List Int) (j k : Nat) (hn : order.Nodup) (hk : order[j]? = some (k : Int)) (hkn : k < n) : (knownL n order j)[k]? = some false := by
 unfold knownL
 rw [List.getElem?_map, List.getElem?_range hkn]
 simp only [Option.map_some, Option.some.injEq, decide_eq_false_iff_not]
 intro hm
 obtain ⟨i, hi⟩ := List.getElem?_of_mem hm
 rw [List.getElem?_take] at hi
 split at hi
 ·rename_i hij
  have h1 := (List.getElem?_eq_some_iff.1 hk)
  have h2 := (List.getElem?_eq_some_iff.1 hi)
  obtain ⟨a1, a2⟩ := h1
  obtain ⟨b1, b2⟩ := h2
  exact List.pairwise_iff_getElem.1 hn i j b1 a1 hij (b2.trans a2.symm)
 ·cases hi
set_option maxRecDepth 100000 in
set_option maxHeartbeats 8000000 in
theorem lineOrder_any (base g : Nat) (sv va : Value) (xs : List Gl) (f : Nat) (order : List Int) (n : Nat) (w : World) (h : LineAt w base g sv xs) (hl : ∀ w', Mod (blk g sv) w w' → Row.Leads w' va n (order.map (Value.int .i64))) (hn : order.length = n) (hn1 : 1 ≤ n)
  (hfit : f + n ≤ xs.length) (hord : orderB n order = true) (h32 : xs.length ≤ 4294967296) :
  Calls Tryz.prog 82 #[.pointer (some ⟨g, 0, none⟩), .int .i64 f, va] w fun e w' => e = .returned (.bool true) ∧ LnTo w base g sv (ordP xs f order) w' := by
 obtain ⟨ad, cp, rfl⟩ := Row.leads_slice (hl w (Mod.refl _ _))
 obtain ⟨x0, hx0⟩ : ∃ x, xs[0]? = some x := ⟨_, List.getElem?_eq_getElem (by omega)⟩
 obtain ⟨bo, cs, rfl, hlt, hbb, hne, _, _, hfr⟩ := line_row h hx0
 have hcs : xs.length ≤ cs ∧ cs ≤ 9223372036854775807 := by
  rcases Row.owned_parts h.own with ⟨h1, h2, _⟩ | ⟨_, _, h1, _, _, h2, h3, _⟩
  ·cases h1
  ·cases h1; unfold maxLen at h3; omega
 simp only [orderB, Bool.and_eq_true, decide_eq_true_eq] at hord
 obtain ⟨hbd, hnd⟩ := hord
 have HL := Bas.hid hl
 have HN := Bas.hid hn
 have HH := Bas.hid h
 have HBD := Bas.hid hbd
 have HND := Bas.hid hnd
 have mkb := fun w => mk_bool w n (by omega)
 have HCL := Bas.hid (clone_any _ ((xs.drop f).take n) n w (leads_sub h.own f n (cs - f)) (by simp; omega) (by omega))
 have g0 := cell_of_heap (i := 0) (v := .slice (some ⟨bo, 0, none⟩) xs.length cs) h.head rfl
 have lg := h.lt
 obtain ⟨m, hm⟩ : ∃ m, xs.length = m := ⟨_, rfl⟩
 have HM := Bas.hid hm
 rw [hm] at g0 h32 hfit hcs
 have e1 : decide ((f : Int) < 0) = false := by simp
 have e2 : decide ((m : Int) < (f : Int)) = false := by simp; omega
 have e3 : decide ((m : Int) - (f : Int) < (n : Int)) = false := by simp; omega
 clear hl hn h hm hx0 hfr hbd hnd
 go_enter Tryz.func82, Tryz.ntmps82
 go_wp2_with (fail)
 refine HCL.out.mono ?_
 rintro e w1 ⟨hb1, v7, rfl, ho7⟩
 have HO7 := Bas.hid ho7
 have HB1 := Bas.hid hb1
 obtain ⟨a7, c7, rfl⟩ := own_slice ho7
 have hw1 := hb1.size
 clear hb1 ho7 HCL g0 lg
 go_wp2_with (fail)
 have HOB : Hid ((w1.alloc (.cells (Array.replicate n (Value.bool false)) 4)).ownsRow w1.heap.size 4 1 (.slice (some ⟨w1.heap.size, 0, none⟩) n n) n ((knownL n order 0).map Value.bool)) := by
  unfold Hid
  rw [knownL_zero]
  exact ⟨by simp, .inr ⟨w1.heap.size, n, _, rfl, Nat.le_refl _, Bas.heap_new _ _, Nat.le_refl _, by unfold maxLen; omega, by simp, by simp⟩⟩
 have HB2 := Bas.hid (HB1.out.trans (((Below.refl w1.heap.size w1).alloc (Nat.le_refl _) (.cells (Array.replicate n (Value.bool false)) 4)).mono HB1.out.size))
 have HO72 := Bas.hid (Row.owned_below HO7.out ((Below.refl w1.heap.size w1).alloc (Nat.le_refl _) (.cells (Array.replicate n (Value.bool false)) 4)))
 obtain ⟨KB, hKB⟩ : ∃ KB, w1.heap.size = KB := ⟨_, rfl⟩
 rw [hKB] at HOB hw1 ⊢
 generalize (w1.alloc (.cells (Array.replicate n (Value.bool false)) 4)) = W2 at *
 have HK7 : Hid (∀ q, (Value.slice a7 n c7).ownBlock = some q → w.heap.size ≤ q ∧ q < KB) := fun q hq => hKB ▸ Row.own_block HO7.out hq
 have HW1 := Bas.hid hw1
 clear hKB HB1 HO7 mkb hw1
 go_loopw [52] (fun vi wr => ∃ j : Nat, j ≤ n ∧ vi = .int .i64 j ∧ Below w.heap.size w wr ∧ wr.ownsRow KB 4 1 (.slice (some ⟨KB, 0, none⟩) n n) n ((knownL n order j).map Value.bool) ∧ wr.ownsRow w.heap.size 47 2 (.slice a7 n c7) n (((xs.drop f).take n).flatMap glC)) (fun vi _ => n - (intOf vi).toNat)
 case atStart => exact ⟨0, Nat.zero_le _, rfl, HB2.out, HOB.out, HO72.out⟩
 case round =>
  obtain ⟨j, hj, rfl, hb, hok, ho⟩ := hrel
  have HB := Bas.hid hb
  have HOK := Bas.hid hok
  have HO := Bas.hid ho
  by_cases hin : j < n
  ·have e5 : decide ((j : Int) < (n : Int)) = true := by simp; omega
   obtain ⟨y, hy⟩ : ∃ y, order[j]? = some y := ⟨_, List.getElem?_eq_getElem (by rw [HN.out]; exact hin)⟩
   obtain ⟨hy0, hyn⟩ := HBD.out y (List.mem_of_getElem? hy)
   obtain ⟨k, rfl⟩ := Int.eq_ofNat_of_zero_le hy0
   have hkn : k < n := by omega
   have hlw := HL.out wr (Mod.of_below hb)
   obtain ⟨bo2, oo, c2, hv, hc⟩ := St.leads_at hlw (i := j) (u := .int .i64 (k : Int)) (by rw [List.getElem?_map, hy]; rfl)
   cases hv
   have lb := World.block_lt_of_cell? _ _ hc
   have HKS := Bas.hid (knownL_succ n order j k hy)
   have hkf := knownL_at n order j k HND.out hy hkn
   have hcb : wr.cell? ⟨KB, k, none⟩ = some (.bool false) := by
    rcases Row.owned_parts hok with ⟨h1, _⟩ | ⟨_, _, h1, _, _, _, _, h2, _⟩
    ·cases h1
    ·cases h1
     exact h2 k _ (by rw [List.getElem?_map, hkf]; rfl)
   have lkb := World.block_lt_of_cell? _ _ hcb
   have fkb : wr.frozen? ⟨KB, k, none⟩ = false := by
    rcases Row.owned_parts hok with ⟨h1, _⟩ | ⟨_, _, h1, _, _, _, _, _, h2⟩
    ·cases h1
    ·cases h1
     exact h2 k
   have e6 : decide ((k : Int) < 0) = false := by simp
   have e7 : decide ((n : Int) ≤ (k : Int)) = false := by simp; omega
   have e8 : decide ((k : Int) < (n : Int)) = true := by simp; omega
   have HSB : Hid ((wr.setCell ⟨KB, k, none⟩ (.bool true)).ownsRow KB 4 1 (.slice (some ⟨KB, 0, none⟩) n n) n ((knownL n order (j + 1)).map Value.bool)) := by
    unfold Hid
    rw [HKS.out, List.map_set]
    exact own_putN hok k (.bool true)
   have HSO : Hid ((wr.setCell ⟨KB, k, none⟩ (.bool true)).ownsRow w.heap.size 47 2 (.slice a7 n c7) n (((xs.drop f).take n).flatMap glC)) :=
    Row.owned_keep ho fun q hq => Below.heap_setCell _ _ _ _ (fun e => by have := (HK7.out q hq).2; have e' : q = KB := e; omega)
   have HSW := Bas.hid (hb.setCell (p := ⟨KB, k, none⟩) HW1.out (.bool true))
   clear hb hok ho hlw hy hkf hy0 hyn
   go_wp2_with (fail)
   go_roundw
   case rel => exact ⟨j + 1, by omega, by go_num, HSW.out, HSB.out, HSO.out⟩
   case measure => simp [intOf]; omega
  ·have e5 : decide ((j : Int) < (n : Int)) = false := by simp; omega
   have e5b : decide (j < n) = false := by simp; omega
   have e5c : ¬ (j : Int) < (n : Int) := by omega
   clear hb hok ho
   go_wp2_with (fail)
   go_loopw [76] (fun vi wr => ∃ (q : Nat) (ys : List Gl), q ≤ n ∧ vi = .int .i64 q ∧ LineAt wr base g (.slice (some ⟨bo, 0, none⟩) xs.length cs) ys ∧ ys = ordP xs f (order.take q) ∧ ys.length = xs.length ∧ Mod (blk g (.slice (some ⟨bo, 0, none⟩) xs.length cs)) w wr ∧ wr.ownsRow w.heap.size 47 2 (.slice a7 n c7) n (((xs.drop f).take n).flatMap glC)) (fun vi _ => n - (intOf vi).toNat)
   case atStart => exact ⟨0, xs, Nat.zero_le _, rfl, HH.out.below HB.out, (ordP_zero xs f).symm, rfl, Mod.of_below HB.out, HO.out⟩
   case round =>
    obtain ⟨q, ys, hq, rfl, hA, hys, hyl, hmod, ho⟩ := hrel
    have HA := Bas.hid hA
    have HYS := Bas.hid hys
    have HYL := Bas.hid hyl
    have HMD := Bas.hid hmod
    have HOW := Bas.hid ho
    by_cases hqn : q < n
    ·have e6 : decide ((q : Int) < (n : Int)) = true := by simp; omega
     obtain ⟨y, hy⟩ : ∃ y, order[q]? = some y := ⟨_, List.getElem?_eq_getElem (by rw [HN.out]; exact hqn)⟩
     obtain ⟨hy0, hyn⟩ := HBD.out y (List.mem_of_getElem? hy)
     obtain ⟨k, rfl⟩ := Int.eq_ofNat_of_zero_le hy0
     have hkn : k < n := by omega
     have hlw := HL.out wr hmod
     obtain ⟨bo2, oo, c2, hv, hc⟩ := St.leads_at hlw (i := q) (u := .int .i64 (k : Int)) (by rw [List.getElem?_map, hy]; rfl)
     cases hv
     have lb := World.block_lt_of_cell? _ _ hc
     obtain ⟨⟨z0, z1⟩, hz⟩ : ∃ z, (xs.drop f)[k]? = some z := ⟨_, List.getElem?_eq_getElem (by rw [List.length_drop, HM.out]; omega)⟩
     have hz2 : ((xs.drop f).take n)[k]? = some (z0, z1) := by rw [List.getElem?_take, if_pos hkn]; exact hz
     obtain ⟨b7, c7', hv7, l7, _, d0, d1, _⟩ := own_cells ho hz2
     cases hv7
     have hsucc := ordP_succ (xs := xs) (f := f) (j := q) (order := order) (by rw [HN.out, HM.out]; exact hfit) hy
     have HST : Hid (ordP xs f (order.take (q + 1)) = ys.set (f + q) (z0, z1)) := by
      unfold Hid
      rw [hsucc, hys, Int.toNat_natCast, List.getD_eq_getElem?_getD, hz]
      rfl
     obtain ⟨⟨x0, x1⟩, hx⟩ : ∃ x, ys[f + q]? = some x := ⟨_, List.getElem?_eq_getElem (by rw [hyl, HM.out]; omega)⟩
     have HX := Bas.hid hx
     obtain ⟨_, _, hsv, lbo, _, _, p0, p1, hfr⟩ := line_row hA hx
     rw [hyl] at hsv
     cases hsv
     have kh := hA.head
     rw [HM.out] at kh
     have g1 := cell_of_heap (i := 0) kh rfl
     have lg1 := heap_lt kh
     have e7 : decide ((k : Int) < (n : Int)) = true := by simp; omega
     have e8 : decide ((f : Int) + (q : Int) < (m : Int)) = true := by simp; omega
     have e9 : decide (f + q < m) = true := by simp; omega
     have hcast : (f : Int) + (q : Int) = ((f + q : Nat) : Int) := by omega
     simp only at d0 d1
     clear hA hys hyl hmod ho hlw hy hz hz2 hsucc hy0 hyn hx kh hcast hfr p0 p1
     go_wp2_with (fail)
     refine' Pl.region_v0 94 [] [0, 1, 2, 3, 4, 5, 6, 7, 8, 9, 10, 11] [12] _ (by kernel_rfl) (by kernel_rfl) (by simp) (fun _ _ _ _ e h => ⟨e ▸ h.1, h.2⟩) ?_ ?_
     rotate_left
     ·intro I F hI hF
      simp only [Pl.selN, List.nil_append, List.drop_succ_cons, List.drop_zero]
      have t0 := fun i => hF.cell lg1 g1 i
      have t1 := fun i => hF.cell l7 d0 i
      have t2 := fun i => hF.cell l7 d1 i
      repeat (go_big_quiet_step (fail))
      refine wpQuiet_nil ?_
      rfl
     intro w6 hw6
     simp only [Pl.selN, List.drop_succ_cons, List.drop_zero]
     have HA6 := Bas.hid (HA.out.below hw6)
     have HMD6 := Bas.hid (HMD.out.on hw6)
     have HOW6 := Bas.hid (Row.owned_below HOW.out hw6)
     obtain ⟨_, _, hsv, lbo6, _, _, p0, p1, hfr⟩ := line_row HA6.out HX.out
     rw [HYL.out] at hsv
     cases hsv
     have f0 := hfr ((f + q) * 2)
     have f1 := hfr ((f + q) * 2 + 1)
     have hA7 := HA6.out
     have hne := hA7.ne
     have HA8 : Hid (LineAt ((w6.setCell ⟨bo, (f + q) * 2, none⟩ (.int .i64 z0)).setCell ⟨bo, (f + q) * 2 + 1, none⟩ (.int .i64 z1)) base g (.slice (some ⟨bo, 0, none⟩) xs.length cs) (ys.set (f + q) (z0, z1))) := by
      have ho8 := own_put2 (k := f + q) (by have h := hA7.own; rw [HYL.out] at h; exact h) (by rw [HYL.out, HM.out]; omega) z0 z1
      have hgb : g ≠ bo := fun e => hne (by rw [e]; rfl)
      refine ⟨(Below.heap_setCell _ _ _ _ (by exact hgb)).trans ((Below.heap_setCell _ _ _ _ (by exact hgb)).trans hA7.head), ?_, hA7.low⟩
      rw [List.length_set, HYL.out]
      exact ho8
     have HM8 := Bas.hid ((HMD6.out.set (b := bo) (o := (f + q) * 2) (.int .i64 z0) (.inl (.inr rfl))).set (b := bo) (o := (f + q) * 2 + 1) (.int .i64 z1) (.inl (.inr rfl)))
     have hb7 : bo ≠ b7 := fun e => by
      have h1 := (Row.own_block HOW6.out (g := b7) rfl).1
      have h2 := (Row.own_block HH.out.own (g := bo) rfl).2
      omega
     have HOW8 : Hid (((w6.setCell ⟨bo, (f + q) * 2, none⟩ (.int .i64 z0)).setCell ⟨bo, (f + q) * 2 + 1, none⟩ (.int .i64 z1)).ownsRow w.heap.size 47 2 (.slice (some ⟨b7, 0, none⟩) n c7) n (((xs.drop f).take n).flatMap glC)) :=
      Row.owned_keep HOW6.out fun r hr => by
       cases hr
       rw [Below.heap_setCell _ _ _ _ (by exact fun e => hb7 e.symm), Below.heap_setCell _ _ _ _ (by exact fun e => hb7 e.symm)]
     have HL8 : Hid ((ys.set (f + q) (z0, z1)).length = xs.length) := by unfold Hid; rw [List.length_set]; exact HYL.out
     clear hw6 hfr hA7 hne g1 lg1 d0 d1 l7 lbo
     go_wp2_with (fail)
     go_roundw
     case rel => exact ⟨q + 1, _, by omega, by go_num, HA8.out, HST.out.symm, HL8.out, HM8.out, HOW8.out⟩
     case measure => simp [intOf]; omega
    ·have e6 : decide ((q : Int) < (n : Int)) = false := by simp; omega
     have HF : Hid (ys = ordP xs f order) := by
      unfold Hid
      rw [hys, List.take_of_length_le (by rw [HN.out]; omega)]
     have e6b : decide (q < n) = false := by simp; omega
     have e6c : ¬ (q : Int) < (n : Int) := by omega
     clear hA hys hyl hmod ho
     go_wp2_with (fail)
     go_ret
     refine ⟨rfl, _, ?_, HMD.out, fun _ h => .inl h⟩
     rw [← HF.out]
     exact HA.out
end Ln
end Go.Proofs.YtoncnjhhdlpliaaGreat
namespace Go.Proofs.YtoncnjhhdlpliaaGreat
open Go.RowKit
namespace Vb
def endsV : Nat → Nat × Nat × Bool × Bool
 | 1 => (1, 0, false, false)
 | 2 => (0, 1, false, false)
 | 3 => (1, 1, false, false)
 | 4 => (2, 0, false, false)
 | 5 => (2, 0, true, false)
 | 6 => (0, 2, false, false)
 | 7 => (0, 2, false, true)
 | 8 => (1, 2, false, false)
 | 9 => (1, 2, false, true)
 | 10 => (2, 1, false, false)
 | 11 => (2, 1, true, false)
 | 12 => (2, 2, false, false)
 | 13 => (2, 2, true, false)
 | 14 => (2, 2, false, true)
 | 15 => (2, 2, true, true)
 | _ => (0, 0, false, false)
set_option maxRecDepth 10000 in
set_option maxHeartbeats 4000000 in
theorem of_any (v : Nat) (w : World) (h1 : 1 ≤ v) (h2 : v ≤ 15) :
  Calls Tryz.prog 105 #[.int .i64 v] w fun e w' => e = .returned (.agg #[.int .i64 (endsV v).1, .int .i64 (endsV v).2.1, .bool (endsV v).2.2.1, .bool (endsV v).2.2.2]) ∧ Below w.heap.size w w' := by
 have hi : ∀ w, (Instr.index 244 (.agg #[.int .i64 0, .int .i64 0, .bool false, .bool false, .int .i64 1, .int .i64 0, .bool false, .bool false, .int .i64 0, .int .i64 1, .bool false, .bool false, .int .i64 1, .int .i64 1, .bool false, .bool false, .int .i64 2, .int .i64 0, .bool false, .bool false, .int .i64 2, .int .i64 0, .bool true, .bool false, .int .i64 0, .int .i64 2, .bool false, .bool false, .int .i64 0, .int .i64 2, .bool false, .bool true, .int .i64 1, .int .i64 2, .bool false, .bool false, .int .i64 1, .int .i64 2, .bool false, .bool true, .int .i64 2, .int .i64 1, .bool false, .bool false, .int .i64 2, .int .i64 1, .bool true, .bool false, .int .i64 2, .int .i64 2, .bool false, .bool false, .int .i64 2, .int .i64 2, .bool true, .bool false, .int .i64 2, .int .i64 2, .bool false, .bool true, .int .i64 2, .int .i64 2, .bool true, .bool true]) (.int .i64 v)).run Tryz.prog w = .ok (.agg #[.int .i64 (endsV v).1, .int .i64 (endsV v).2.1, .bool (endsV v).2.2.1, .bool (endsV v).2.2.2]) w := by
  intro w
  rcases (by omega : v = 1 ∨ v = 2 ∨ v = 3 ∨ v = 4 ∨ v = 5 ∨ v = 6 ∨ v = 7 ∨ v = 8 ∨ v = 9 ∨ v = 10 ∨ v = 11 ∨ v = 12 ∨ v = 13 ∨ v = 14 ∨ v = 15) with rfl | rfl | rfl | rfl | rfl | rfl | rfl | rfl | rfl | rfl | rfl | rfl | rfl | rfl | rfl
  all_goals kernel_rfl
 generalize (endsV v).1 = e1 at hi ⊢
 generalize (endsV v).2.1 = e2 at hi ⊢
 generalize (endsV v).2.2.1 = e3 at hi ⊢
 generalize (endsV v).2.2.2 = e4 at hi ⊢
 go_enter Tryz.func105, Tryz.ntmps105
 go_wp2
 exact bodyPost_ret (v := .agg #[.int .i64 e1, .int .i64 e2, .bool e3, .bool e4]) (by simp [results, Tryz.results105, go_sem]) rfl ⟨rfl, (Below.refl _ _).alloc (Nat.le_refl _) _⟩
theorem ends_le (v : Nat) : (endsV v).1 ≤ 2 ∧ (endsV v).2.1 ≤ 2 := by
 unfold endsV
 split <;> simp
def spanL (p q : Nat) (turn : Bool) : List Int := (List.range (q - p)).map fun (i : Nat) => if turn then ((q : Int) - 1 - i) else ((p : Int) + i)
theorem infoI : (Tryz.prog.info? 3).map (fun i => (i.zero, i.size, i.bytes)) = some (some (.int .i64 0), 1, 8) := by kernel_rfl
def spanK (p q : Nat) (turn : Bool) (k : Nat) : List Int := (List.range k).map fun (i : Nat) => if turn then ((q : Int) - 1 - i) else ((p : Int) + i)
theorem spanK_succ (p q : Nat) (turn : Bool) (k : Nat) : spanK p q turn (k + 1) = spanK p q turn k ++ [if turn then ((q : Int) - 1 - k) else ((p : Int) + k)] := by
 unfold spanK; rw [List.range_succ, List.map_append]; rfl
def NewInts (w : World) (xs : List Int) (e : Ending) (w' : World) : Prop :=
 ∃ v, e = .returned v ∧ w'.ownsRow w.heap.size 3 1 v xs.length (xs.map (Value.int .i64)) ∧ Below w.heap.size w w'
set_option maxHeartbeats 1000000 in
theorem span_any (p q : Nat) (turn : Bool) (w : World) (hpq : p ≤ q) (hq : q ≤ 1000000) :
  Calls Tryz.prog 106 #[.int .i64 p, .int .i64 q, .bool turn] w (NewInts w (spanL p q turn)) := by
 go_enter Tryz.func106, Tryz.ntmps106
 go_wp2_with (fail)
 go_loopw [7, 12] (fun v i wr => ∃ k : Nat, k ≤ q - p ∧ i = .int .i64 k ∧ wr.ownsRow w.heap.size 3 1 v k ((spanK p q turn k).map (Value.int .i64)) ∧ Below w.heap.size w wr) (fun _ i _ => (q - p) - (intOf i).toNat)
 case atStart => exact ⟨0, by omega, rfl, Row.owned_nil _ _ _ _, Below.refl _ _⟩
 case round =>
  obtain ⟨k, hk, rfl, hown, hb⟩ := hrel
  have hbs := hb.size
  by_cases hkq : k < q - p
  ·have HSN := Bas.hid (spanK_succ p q turn k)
   cases turn with
   | false =>
    go_wp2_with (at_builtin; refine Row.append_any rfl _ _ 23 3 rfl (.int .i64 0) 1 8 Tryz.underlying23 infoI rfl (by decide) w.heap.size _ k _ rfl (hown.alloc _) (.slice (some ⟨wr.heap.size, 0, none⟩) 1 1) 1 _ rfl (Row.leads_one _ _ _) rfl (by simp; rfl) (by unfold maxLen; omega) (by omega) (by simp; omega) ?_)
    intro v' w' hown' hgrow _
    have hown2 : w'.ownsRow w.heap.size 3 1 v' (k + 1) ((spanK p q false (k + 1)).map (Value.int .i64)) := by rw [HSN.out, List.map_append]; exact hown'
    have hb2 : Below w.heap.size w w' := (hb.alloc hbs _).grown hgrow (by simp; omega) (fun g hg => by
     have := Row.owned_parts hown
     rcases this with ⟨rfl, _⟩ | ⟨g', cp, rfl, hg', _⟩
     ·cases hg
     ·cases hg; exact hg')
    clear hown' hgrow
    go_wp2_with (fail)
    go_roundw
    case rel => exact ⟨k + 1, by omega, by go_num, hown2, hb2⟩
    case measure => simp [intOf]; omega
   | true =>
    go_wp2_with (at_builtin; refine Row.append_any rfl _ _ 23 3 rfl (.int .i64 0) 1 8 Tryz.underlying23 infoI rfl (by decide) w.heap.size _ k _ rfl (hown.alloc _) (.slice (some ⟨wr.heap.size, 0, none⟩) 1 1) 1 _ rfl (Row.leads_one _ _ _) rfl (by simp; rfl) (by unfold maxLen; omega) (by omega) (by simp; omega) ?_)
    intro v' w' hown' hgrow _
    have hown2 : w'.ownsRow w.heap.size 3 1 v' (k + 1) ((spanK p q true (k + 1)).map (Value.int .i64)) := by rw [HSN.out, List.map_append]; exact hown'
    have hb2 : Below w.heap.size w w' := (hb.alloc hbs _).grown hgrow (by simp; omega) (fun g hg => by
     have := Row.owned_parts hown
     rcases this with ⟨rfl, _⟩ | ⟨g', cp, rfl, hg', _⟩
     ·cases hg
     ·cases hg; exact hg')
    clear hown' hgrow
    go_wp2_with (fail)
    go_roundw
    case rel => exact ⟨k + 1, by omega, by go_num, hown2, hb2⟩
    case measure => simp [intOf]; omega
  ·have hkk : k = q - p := by omega
   subst hkk
   have hfin : NewInts w (spanL p q turn) = NewInts w (spanK p q turn (q - p)) := rfl
   go_wp2_with (fail)
   go_ret
   exact ⟨_, rfl, by rw [show (spanL p q turn).length = q - p by simp [spanL]]; exact hown, hb⟩
end Vb
end Go.Proofs.YtoncnjhhdlpliaaGreat
