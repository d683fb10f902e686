/- Parts of a proof: texts Base, Own, LnD, CoverB, PickA, PickLay, PickSort, FeatTake, FeatExcl, PickMap, PickSettleD, PickSettle, NumB, ChainBackM, PickFeats, Open, PickCase, PickPre, IdleSpeak, IdleSpeakW, IdleSettled, ChainOpen, IdleSmall, IdleD, MorxIdleC, MorxIdleW. -/
import Derived.Test.YtoncnjhhdlpliaaGreatMA07
import Derived.Test.YtoncnjhhdlpliaaGreatRows
import Derived.WalkKit
import Derived.WalkSpells
import Derived.WalkLawsBesides
import Derived.Deep.QuietTactic
import Derived.BigQuiet
import Derived.Laws.AppendOwnNone
import Derived.Sort.Grow
import Derived.Shelf.SlSortCmp.WholeK
import Derived.Maps.RangeWalk
import Derived.Maps.Ext
import Derived.DeepKeys4
import Derived.Shelf.SlSortCmp.NoneTotal
import Derived.ProofKit
import Derived.OpenShut
import Derived.Deep.Slices
import Derived.Deep.Grids
namespace Go.Proofs.YtoncnjhhdlpliaaGreat
open Go.RowKit
namespace Bas
theorem wf_u16 {x : Int} (h : (Lit.int .u16 x).wf = true) : 0 ≤ x ∧ x ≤ 65535 := by
 simpa [Lit.wf, IntKind.min, IntKind.max, IntKind.bits, IntKind.signed] using h
theorem wf_u32 {x : Int} (h : (Lit.int .u32 x).wf = true) : 0 ≤ x ∧ x ≤ 4294967295 := by
 simpa [Lit.wf, IntKind.min, IntKind.max, IntKind.bits, IntKind.signed] using h
def IsBools (w : World) (a : Option Addr) (len cap : Nat) (B : Nat → Bool) : Prop :=
 len ≤ cap ∧ cap ≤ maxLen ∧ ∀ i, i < len → ∃ b o, a = some ⟨b, o, none⟩ ∧ w.cell? ⟨b, o + i, none⟩ = some (.bool (B i))
end Bas
end Go.Proofs.YtoncnjhhdlpliaaGreat
namespace Go.Proofs.YtoncnjhhdlpliaaGreat
open Go.RowKit
namespace Vw
theorem VB.block {w : World} {b o : Nat} {bs : List Int} {u : World} (h : VB w (some ⟨b, o, none⟩) bs) (hh : u.heap[b]? = w.heap[b]?) : VB u (some ⟨b, o, none⟩) bs :=
 ⟨h.len, h.byte, fun i hi => by
  obtain ⟨b', o', hab, hc⟩ := h.cell i hi
  simp only [Option.some.injEq, Addr.mk.injEq, and_true] at hab
  obtain ⟨rfl, rfl⟩ := hab
  exact ⟨b, o, rfl, (World.cell?_of_block (w := w) hh).trans hc⟩⟩
theorem OwnB.block {w u : World} {g n : Nat} (h : OwnB w g n) (hh : u.heap[g]? = w.heap[g]?) : OwnB u g n := by
 obtain ⟨cur, h1, h2⟩ := h
 exact ⟨cur, hh.trans h1, h2⟩
end Vw
end Go.Proofs.YtoncnjhhdlpliaaGreat
namespace Go.Proofs.YtoncnjhhdlpliaaGreat
open Go.RowKit
namespace Ln
open Ch
theorem LineAt.base {w : World} {base base' g : Nat} {sv : Value} {xs : List Gl} (h : LineAt w base g sv xs) (hb : base' ≤ base) : LineAt w base' g sv xs :=
 ⟨h.head, Row.owned_base h.own hb, Nat.le_trans hb h.low⟩
end Ln
end Go.Proofs.YtoncnjhhdlpliaaGreat
namespace Go.Proofs.YtoncnjhhdlpliaaGreat
open Go.RowKit
namespace Cov
theorem bit_i (x m : Int) (w : World) (h0 : 0 ≤ x) (h1 : x ≤ 4294967295) (h2 : 0 ≤ m) (hn : m ≤ 40) :
  Calls Tryz.prog 43 #[.int .u32 x, .int .i64 m] w fun e w' => e = .returned (.bool (bitB x m.toNat)) ∧ w = w' := by
 obtain ⟨n, rfl⟩ := Int.eq_ofNat_of_zero_le h2
 exact bit_any x n w h0 h1 (by omega)
set_option maxHeartbeats 400000 in
theorem rruns_any (x d : Int) (w : World) (h0 : 0 ≤ x) (h1 : x ≤ 4294967295) :
  Calls Tryz.prog 25 #[.int .u32 x, .int .i64 d] w fun e w' => e = .returned (.bool (runsM (bitB x 31) (bitB x 29) d)) ∧ w = w' := by
 rcases (by omega : d < 0 ∨ (¬ d < 0 ∧ 2 < d) ∨ (0 ≤ d ∧ d ≤ 2)) with ha | ⟨ha, hb⟩ | ⟨ha, hb⟩ <;> cases hc : bitB x 29
 all_goals
  go_enter Tryz.func25, Tryz.ntmps25
  go_wp2_with (go_at_call 43; refine (bit_i _ _ _ h0 h1 (by omega) (by omega)).mono ?_; rintro e w' ⟨rfl, rfl⟩)
  all_goals
   go_ret
   exact ⟨by simp [runsM, fits, isDir, *] <;> omega, rfl⟩
end Cov
end Go.Proofs.YtoncnjhhdlpliaaGreat
namespace Go.Proofs.YtoncnjhhdlpliaaGreat
open Go.RowKit
namespace Pk
open Ch
def setV (s : Int × Int) : Value := .agg #[.int .i64 s.1, .int .i64 s.2]
end Pk
end Go.Proofs.YtoncnjhhdlpliaaGreat
namespace Go.Proofs.YtoncnjhhdlpliaaGreat
open Go.RowKit Go.Shelf
namespace Pk
def sortSt_ren : Go.Shelf.Ren := ⟨fun | 6 => 68 | 15 => 97 | 14 => 96 | 28 => 130 | 29 => 131 | 20 => 122 | 21 => 123 | 22 => 124 | 23 => 125 | 24 => 126 | 25 => 127 | 26 => 128 | 27 => 129 | 46 => 141 | 47 => 142 | 48 => 143 | 49 => 144 | 50 => 145 | 57 => 150 | n => n, fun | 22 => 57 | 24 => 141 | 25 => 145 | 3 => 3 | 39 => 123 | 0 => 0 | 53 => 27 | 55 => 241 | 4 => 4 | 46 => 234 | 45 => 233 | 50 => 183 | 5 => 5 | 9 => 9 | 66 => 250 | 70 => 254 | 76 => 258 | 77 => 188 | n => n, fun | n => n⟩
theorem sortSt : Go.Proofs.SlLaysF0.n6 Tryz.prog sortSt_ren := {
 mixed := by kernel_rfl,
 f6 := ⟨Tryz.f68.name, by decide, Tryz.func68.trans (congrArg some (by kernel_rfl))⟩,
 f14 := ⟨Tryz.f96.name, by decide, Tryz.func96.trans (congrArg some (by kernel_rfl))⟩,
 f15 := Tryz.func97.trans (congrArg some (by kernel_rfl)),
 f20 := ⟨Tryz.f122.name, by decide, Tryz.func122.trans (congrArg some (by kernel_rfl))⟩,
 f21 := ⟨Tryz.f123.name, by decide, Tryz.func123.trans (congrArg some (by kernel_rfl))⟩,
 f22 := ⟨Tryz.f124.name, by decide, Tryz.func124.trans (congrArg some (by kernel_rfl))⟩,
 f23 := ⟨Tryz.f125.name, by decide, Tryz.func125.trans (congrArg some (by kernel_rfl))⟩,
 f24 := ⟨Tryz.f126.name, by decide, Tryz.func126.trans (congrArg some (by kernel_rfl))⟩,
 f25 := ⟨Tryz.f127.name, by decide, Tryz.func127.trans (congrArg some (by kernel_rfl))⟩,
 f26 := ⟨Tryz.f128.name, by decide, Tryz.func128.trans (congrArg some (by kernel_rfl))⟩,
 f27 := ⟨Tryz.f129.name, by decide, Tryz.func129.trans (congrArg some (by kernel_rfl))⟩,
 f28 := Tryz.func130.trans (congrArg some (by kernel_rfl)),
 f29 := Tryz.func131.trans (congrArg some (by kernel_rfl)),
 f46 := ⟨Tryz.f141.name, by decide, Tryz.func141.trans (congrArg some (by kernel_rfl))⟩,
 f47 := Tryz.func142.trans (congrArg some (by kernel_rfl)),
 f48 := Tryz.func143.trans (congrArg some (by kernel_rfl)),
 f49 := ⟨Tryz.f144.name, by decide, Tryz.func144.trans (congrArg some (by kernel_rfl))⟩,
 f50 := ⟨Tryz.f145.name, by decide, Tryz.func145.trans (congrArg some (by kernel_rfl))⟩,
 f57 := ⟨Tryz.f150.name, by decide, Tryz.func150.trans (congrArg some (by kernel_rfl))⟩,
 t0 := Tryz.underlying0,
 a0 := Tryz.isAgg0,
 z0 := Tryz.sizeOf0,
 v0 := Tryz.zeroValue0,
 t3 := Tryz.underlying3,
 a3 := Tryz.isAgg3,
 z3 := Tryz.sizeOf3,
 v3 := Tryz.zeroValue3,
 t4 := Tryz.underlying4,
 a4 := Tryz.isAgg4,
 z4 := Tryz.sizeOf4,
 v4 := Tryz.zeroValue4,
 t5 := Tryz.underlying5,
 a5 := Tryz.isAgg5,
 z5 := Tryz.sizeOf5,
 v5 := Tryz.zeroValue5,
 t9 := Tryz.underlying9,
 a9 := Tryz.isAgg9,
 z9 := Tryz.sizeOf9,
 v9 := Tryz.zeroValue9,
 t22 := Tryz.underlying57,
 a22 := Tryz.isAgg57,
 z22 := Tryz.sizeOf57,
 v22 := Tryz.zeroValue57,
 t25 := Tryz.underlying145,
 a25 := Tryz.isAgg145,
 z25 := Tryz.sizeOf145,
 v25 := Tryz.zeroValue145,
 t39 := Tryz.underlying123,
 a39 := Tryz.isAgg123,
 z39 := Tryz.sizeOf123,
 v39 := Tryz.zeroValue123,
 t45 := Tryz.underlying233,
 a45 := Tryz.isAgg233,
 z45 := Tryz.sizeOf233,
 v45 := Tryz.zeroValue233,
 t46 := Tryz.underlying234,
 a46 := Tryz.isAgg234,
 z46 := Tryz.sizeOf234,
 v46 := Tryz.zeroValue234,
 t50 := Tryz.underlying183,
 a50 := Tryz.isAgg183,
 z50 := Tryz.sizeOf183,
 v50 := Tryz.zeroValue183,
 t53 := Tryz.underlying27,
 a53 := Tryz.isAgg27,
 z53 := Tryz.sizeOf27,
 v53 := Tryz.zeroValue27,
 t55 := Tryz.underlying241,
 a55 := Tryz.isAgg241,
 z55 := Tryz.sizeOf241,
 v55 := Tryz.zeroValue241,
 t66 := Tryz.underlying250,
 a66 := Tryz.isAgg250,
 z66 := Tryz.sizeOf250,
 v66 := Tryz.zeroValue250,
 t70 := Tryz.underlying254,
 a70 := Tryz.isAgg254,
 z70 := Tryz.sizeOf254,
 v70 := Tryz.zeroValue254,
 t76 := Tryz.underlying258,
 a76 := Tryz.isAgg258,
 z76 := Tryz.sizeOf258,
 v76 := Tryz.zeroValue258,
 t77 := Tryz.underlying188,
 a77 := Tryz.isAgg188,
 z77 := Tryz.sizeOf188,
 v77 := Tryz.zeroValue188 }
end Pk
end Go.Proofs.YtoncnjhhdlpliaaGreat
namespace Go.Proofs.YtoncnjhhdlpliaaGreat
open Go.RowKit Go.Shelf
namespace Pk
open Ch
theorem swo : Go.Sort.SWO (ltOf cmpP) where
 irrefl x := by rw [ltOf_eq]; simp [ltP]
 trans x y z h1 h2 := by rw [ltOf_eq] at *; simp [ltP] at *; omega
 ntrans x y z h1 h2 := by rw [ltOf_eq] at *; simp [ltP] at *; omega
theorem cmpLays (blk off size : Nat) (w : World) : CmpLays Tryz.prog 69 #[] setC 2 cmpP blk off size w :=
 fun _ _ _ _ x y => compare_any x y _
theorem flat_list (d : Array (Int × Int)) : (Go.Sort.flatK setC 2 d).toList = d.toList.flatMap setC := by
 refine List.ext_getElem? fun t => ?_
 by_cases ht : t < d.size * 2
 ·have h1 : t / 2 < d.size := by omega
  have hsz : (Go.Sort.flatK setC 2 d).size = d.size * 2 := by simp
  have hg := Go.Sort.get_flatK setC 2 d t ht
  rw [getElem!_pos _ t (by omega), getElem!_pos d _ h1] at hg
  rw [Array.getElem?_toList, Array.getElem?_eq_getElem (by omega), hg]
  have hx : d.toList[t / 2]? = some d[t / 2] := by rw [Array.getElem?_toList, Array.getElem?_eq_getElem h1]
  obtain ⟨x, hx'⟩ : ∃ x, d[t / 2] = x := ⟨_, rfl⟩
  rw [hx'] at hx ⊢
  have hm : t % 2 = 0 ∨ t % 2 = 1 := by omega
  rcases hm with hm | hm
  ·have h := Row.flat_get (f := setC) setC_len d.toList (t / 2) 0 x (.int .i64 x.1) hx rfl
   rw [show t / 2 * 2 + 0 = t by omega] at h
   rw [h, hm]; rfl
  ·have h := Row.flat_get (f := setC) setC_len d.toList (t / 2) 1 x (.int .i64 x.2) hx rfl
   rw [show t / 2 * 2 + 1 = t by omega] at h
   rw [h, hm]; rfl
 ·rw [List.getElem?_eq_none (by simp; omega), List.getElem?_eq_none]
  have : (d.toList.flatMap setC).length = d.size * 2 := by
   rw [List.length_flatMap]
   have : (d.toList.map fun a => (setC a).length) = List.replicate d.size 2 := by
    rw [List.eq_replicate_iff]
    exact ⟨by simp, fun b hb => by obtain ⟨x, _, rfl⟩ := List.mem_map.1 hb; rfl⟩
   rw [this]; simp
  omega
theorem put_heap (w : World) (n blk : Nat) (F : Array Value) (os : Array Obj) (cur : Array Value) (e : TypeId) (h : w.heap[blk]? = some (.cells cur e)) :
  (Go.Sort.grow (Go.Sort.putRow id (Go.Sort.ahead w n) blk 0 F) os).heap[blk]? = some (.cells (Go.Sort.putCells id 0 F cur) e) := by
 have hlt : blk < w.heap.size := heap_lt h
 rw [Go.Sort.heap_grow_old _ _ (by simp [Go.Sort.putRow, Go.Sort.mapBlock, Go.Sort.ahead]; exact hlt)]
 simp [Go.Sort.putRow, Go.Sort.mapBlock, Go.Sort.ahead, Array.getElem?_modify, h, Go.Sort.onCells]
theorem put_grown (w : World) (n blk : Nat) (F : Array Value) (os : Array Obj) : w.grownBy (Go.Sort.grow (Go.Sort.putRow id (Go.Sort.ahead w n) blk 0 F) os) (some blk) := by
 refine ⟨rfl, rfl, rfl, by simp [Go.Sort.putRow, Go.Sort.mapBlock, Go.Sort.ahead], fun k hk hne => ?_⟩
 rw [Go.Sort.heap_grow_old _ _ (by simp [Go.Sort.putRow, Go.Sort.mapBlock, Go.Sort.ahead]; exact hk)]
 have : blk ≠ k := fun e => hne (by rw [e])
 simp [Go.Sort.putRow, Go.Sort.mapBlock, Go.Sort.ahead, Array.getElem?_modify, this]
theorem put_take (F cur : Array Value) (h : F.size ≤ cur.size) : (Go.Sort.putCells id 0 F cur).toList.take F.size = F.toList ∧ (Go.Sort.putCells id 0 F cur).size = cur.size := by
 refine ⟨List.ext_getElem? fun t => ?_, by simp [Go.Sort.putCells]⟩
 by_cases ht : t < F.size
 ·rw [List.getElem?_take_of_lt ht, Array.getElem?_toList, Array.getElem?_toList]
  simp only [Go.Sort.putCells, Array.getElem?_mapIdx]
  rw [Array.getElem?_eq_getElem (by omega), Array.getElem?_eq_getElem ht, Option.map_some, if_pos ⟨by omega, by omega⟩, Nat.sub_zero, getElem!_pos F t ht]
  rfl
 ·rw [List.getElem?_take_eq_none (by omega), List.getElem?_eq_none (by simpa using ht)]
def Rises (xs : List (Int × Int)) : Prop := xs.Pairwise fun x y => ltP y x = false
set_option maxHeartbeats 1000000 in
theorem sort_any (base g cap : Nat) (xs : List (Int × Int)) (w : World) (hown : w.ownsRow base 141 2 (.slice (some ⟨g, 0, none⟩) xs.length cap) xs.length (xs.flatMap setC)) (hlen : xs.length ≤ 1000000000) :
  Calls Tryz.prog 68 #[.slice (some ⟨g, 0, none⟩) xs.length cap, .func (.func 69) #[] #[]] w fun e w' =>
   e = .returned (.tuple #[]) ∧ ∃ ys : List (Int × Int), ys.Perm xs ∧ Rises ys ∧ w'.ownsRow base 141 2 (.slice (some ⟨g, 0, none⟩) ys.length cap) ys.length (ys.flatMap setC) ∧ w.grownBy w' (some g) := by
 obtain ⟨hl, ⟨h, _⟩ | ⟨g', cp, cur, h, hb, hh, hn, hm, hc, ht⟩⟩ := hown
 ·cases h
 cases h
 have eg : ∀ args w, (callFunc 69 args).run Tryz.prog w = .ok (.enter 69 args) w := fun args w => by simp [go_sem]
 have hH : Go.Sort.HoldsK setC 2 w g 0 xs.toArray := by
  intro j hj
  have hj' : j < xs.length * 2 := by simpa using hj
  have hfl := flat_list xs.toArray
  have h1 : (Go.Sort.flatK setC 2 xs.toArray)[j]? = cur[j]? := by
   rw [← Array.getElem?_toList, hfl, ← ht, List.getElem?_take_of_lt hj', Array.getElem?_toList]
  rw [getElem!_pos _ j hj]
  rw [Array.getElem?_eq_getElem hj] at h1
  refine ⟨?_, ?_⟩
  ·rw [Nat.zero_add]
   exact cell_of_heap hh h1.symm
  ·exact free_of_heap hh
 have hs := AnyQ.slices_SortFunc sortSt 2 Tryz.isAgg141 Tryz.sizeOf141 setC setC_len (fun x v hv => by simp [setC] at hv; rcases hv with rfl | rfl <;> rfl) cmpP swo 69 #[] g 0 cap xs.toArray w eg (cmpLays g 0 _ w) hH (heap_lt hh) (by simp; omega)
 have hs' : Calls Tryz.prog 68 #[.slice (some ⟨g, 0, none⟩) xs.length cap, .func (.func 69) #[] #[]] w _ := hs
 refine hs'.mono ?_
 rintro e w' ⟨rfl, d', n, os, ⟨hp1, _, hp3⟩, hsd, rfl⟩
 refine ⟨rfl, d'.toList, ?_, ?_, ?_, put_grown w n g _ os⟩
 ·have e1 : d'.extract 0 xs.toArray.size = d' := by rw [← hp1]; simp
  have e2 : xs.toArray.extract 0 xs.toArray.size = xs.toArray := by simp
  rw [e1, e2] at hp3
  simpa using hp3
 ·unfold Rises
  rw [List.pairwise_iff_getElem]
  intro i j hi hj hij
  have hsz : d'.size = xs.toArray.size := hp1
  have h := hsd i j (Nat.zero_le _) hij (by rw [← hsz]; simpa using hj)
  rw [ltOf_eq, getElem!_pos d' j (by simpa using hj), getElem!_pos d' i (by simpa using hi)] at h
  simpa using h
 ·have hsz : d'.size = xs.length := by simpa using hp1
  have hfs : (Go.Sort.flatK setC 2 d').size = xs.length * 2 := by simp [hsz]
  have hcs : cur.size = cap * 2 := hc
  obtain ⟨h1, h2⟩ := put_take (Go.Sort.flatK setC 2 d') cur (by rw [hfs, hcs]; omega)
  have hlen2 : d'.toList.length = xs.length := by simpa using hsz
  have hll : (d'.toList.flatMap setC).length = d'.toList.length * 2 := by rw [← flat_list]; simp
  refine ⟨hll, .inr ⟨g, cap, _, by rw [hlen2], hb, put_heap w n g _ os cur _ hh, by rw [hlen2]; exact hn, hm, by rw [h2]; exact hc, ?_⟩⟩
  rw [hlen2, ← hfs, h1, flat_list]
end Pk
end Go.Proofs.YtoncnjhhdlpliaaGreat
namespace Go.Proofs.YtoncnjhhdlpliaaGreat
open Go.RowKit
namespace Ft
open Vw Ch
def fC (x : FeatD × Value) : List Value := [.int .i64 x.1.type, .bool x.1.excl, .int .i64 x.1.dflt, x.2]
theorem fC_len (x : FeatD × Value) : (fC x).length = 4 := rfl
structure FRow (w : World) (base : Nat) (v : Value) (fs : List FeatD) (ss : List Value) : Prop where
 len : ss.length = fs.length
 own : w.ownsRow base 137 4 v fs.length ((fs.zip ss).flatMap fC)
 sets : ∀ (i : Nat) (f : FeatD) (s : Value), fs[i]? = some f → ss[i]? = some s → w.ownsRow base 3 1 s f.sets.length (f.sets.map (Value.int .i64))
theorem fRow_below {w w' : World} {base : Nat} {v : Value} {fs : List FeatD} {ss : List Value} (h : FRow w base v fs ss) (hb : Below w.heap.size w w') : FRow w' base v fs ss :=
 ⟨h.len, Row.owned_below h.own hb, fun i f s hf hs => Row.owned_below (h.sets i f s hf hs) hb⟩
theorem infoFt : (Tryz.prog.info? 137).map (fun i => (i.zero, i.size, i.bytes)) = some (some (.agg #[.int .i64 0, .bool false, .int .i64 0, .slice none 0 0]), 4, 48) := by kernel_rfl
end Ft
end Go.Proofs.YtoncnjhhdlpliaaGreat
namespace Go.Proofs.YtoncnjhhdlpliaaGreat
open Go.RowKit
namespace Ft
open Vw Ch
def exclF (kind : Int) (f : FeatD) : Bool := decide (f.type = kind) && f.excl
def exclL (fs : List FeatD) (kind : Int) : Bool := fs.any (exclF kind)
set_option maxHeartbeats 2000000 in
theorem clo_any (ty dflt : Int) (ex : Bool) (s : Value) (hs : ∃ a n c, s = .slice a n c) (kind : Int) (bk : Nat) (w : World) (hk : w.cell? ⟨bk, 0, none⟩ = some (.int .i64 kind)) :
  Calls Tryz.prog 95 #[.agg #[.int .i64 ty, .bool ex, .int .i64 dflt, s], .pointer (some ⟨bk, 0, none⟩)] w fun e w' => e = .returned (.bool (decide (ty = kind) && ex)) ∧ Below w.heap.size w w' := by
 obtain ⟨a, n, c, rfl⟩ := hs
 have lk : bk < w.heap.size := World.block_lt_of_cell? _ _ hk
 by_cases h : ty = kind
 ·subst h
  cases ex
  all_goals
   go_enter Tryz.func95, Tryz.ntmps95
   go_wp2_with (fail)
   go_ret
   exact ⟨by simp, (Below.refl _ _).alloc (Nat.le_refl _) _⟩
 ·have e1 : (ty == kind) = false := by simpa using h
  have e2 : decide (ty = kind) = false := by simpa using h
  rw [e2]
  go_enter Tryz.func95, Tryz.ntmps95
  go_wp2_with (fail)
  go_ret
  exact ⟨by simp, (Below.refl _ _).alloc (Nat.le_refl _) _⟩
def IdxPost (w : World) (b : Bool) (e : Ending) (w' : World) : Prop := ∃ r : Int, e = .returned (.int .i64 r) ∧ decide (0 ≤ r) = b ∧ Below w.heap.size w w' ∧ -1 ≤ r
set_option maxRecDepth 100000 in
set_option maxHeartbeats 4000000 in
theorem index_any (v : Value) (fs : List FeatD) (ss : List Value) (base : Nat) (kind : Int) (bk : Nat) (w : World) (hr : FRow w base v fs ss) (hk : w.cell? ⟨bk, 0, none⟩ = some (.int .i64 kind)) (hlen : fs.length ≤ 1000000000) :
  Calls Tryz.prog 121 #[v, .func (.func 95) #[] #[.pointer (some ⟨bk, 0, none⟩)]] w (IdxPost w (exclL fs kind)) := by
 have hcf : ∀ (args : Array Value) w, (callFunc 95 args).run Tryz.prog w = .ok (.enter 95 args) w := fun args w => by simp [go_sem]
 obtain ⟨ad, cp, rfl⟩ := own_slice hr.own
 obtain ⟨n, hn⟩ : ∃ n, n = fs.length := ⟨_, rfl⟩
 rw [← hn] at hlen ⊢
 have HN := Bas.hid hn
 have HR := Bas.hid hr
 have lk : bk < w.heap.size := World.block_lt_of_cell? _ _ hk
 have HK := Bas.hid hk
 clear hr hn hk
 go_enter Tryz.func121, Tryz.ntmps121
 go_wp2_with (fail)
 go_loopw [5, 8] (fun _ vi wr => ∃ i : Nat, i ≤ n ∧ vi = .int .i64 i ∧ (∀ f ∈ fs.take i, exclF kind f = false) ∧ Below w.heap.size w wr) (fun _ vi _ => n - (intOf vi).toNat)
 case atStart => exact ⟨0, Nat.zero_le _, rfl, fun f hf => by simp at hf, Below.refl _ _⟩
 case round =>
  obtain ⟨i, hi, rfl, hno, hb⟩ := hrel
  have HNO := Bas.hid hno
  have HB := Bas.hid hb
  by_cases hin : i < n
  ·have hlen2 := HN.out
   obtain ⟨f, hf⟩ : ∃ f, fs[i]? = some f := ⟨_, List.getElem?_eq_getElem (by omega)⟩
   obtain ⟨s, hs⟩ : ∃ s, ss[i]? = some s := ⟨_, List.getElem?_eq_getElem (by rw [HR.out.len]; omega)⟩
   have hz : (fs.zip ss)[i]? = some (f, s) := List.getElem?_zip_eq_some.2 ⟨hf, hs⟩
   obtain ⟨G, C, hvG, -, hG, -, hcl⟩ := Row.elem_cells fC_len HR.out.own hz (by omega) (by rw [List.length_zip, HR.out.len, Nat.min_self])
   obtain ⟨sa, sc, rfl⟩ := own_slice (HR.out.sets i f s hf hs)
   rw [← hlen2] at hvG
   cases hvG
   have q0 := (hb.cell (p := ⟨G, i * 4, none⟩) hG).trans (hcl 0 _ rfl)
   have q1 := (hb.cell (p := ⟨G, i * 4 + 1, none⟩) hG).trans (hcl 1 _ rfl)
   have q2 := (hb.cell (p := ⟨G, i * 4 + 2, none⟩) hG).trans (hcl 2 _ rfl)
   have q3 := (hb.cell (p := ⟨G, i * 4 + 3, none⟩) hG).trans (hcl 3 _ rfl)
   have CL := clo_any f.type f.dflt f.excl (.slice sa f.sets.length sc) ⟨_, _, _, rfl⟩ kind bk wr ((hb.cell (p := ⟨bk, 0, none⟩) lk).trans HK.out)
   have HCL := Bas.hid CL
   have HF := Bas.hid hf
   obtain ⟨x, hx⟩ : ∃ x, x = (decide (f.type = kind) && f.excl) := ⟨_, rfl⟩
   rw [← hx] at HCL
   have HX := Bas.hid hx
   clear hcl hz hf hs hlen2 hb hno CL hx
   go_wp2_with (fail)
   refine HCL.out.mono ?_
   rintro e w2 ⟨rfl, hb2⟩
   have HB2 := Bas.hid (HB.out.trans (hb2.mono HB.out.size))
   clear hb2 q0 q1 q2 q3
   cases x with
   | true =>
    have hany : exclL fs kind = true := by
     unfold exclL
     rw [List.any_eq_true]
     exact ⟨f, List.mem_of_getElem? HF.out, HX.out.symm⟩
    have HANY := Bas.hid hany
    clear hany
    go_wp2_with (fail)
    exact bodyPost_ret (v := .int .i64 i) (by simp [results, Tryz.results121, go_sem]) rfl ⟨i, rfl, by rw [HANY.out]; simp, HB2.out, by omega⟩
   | false =>
    go_wp2_with (fail)
    go_roundw
    case rel => exact ⟨i + 1, by omega, by go_num, fun y hy => by
     rw [List.take_add_one, HF.out] at hy
     rcases List.mem_append.1 hy with h | h
     ·exact HNO.out y h
     ·simp at h; subst h; exact HX.out.symm, HB2.out⟩
    case measure => simp [intOf]; omega
  ·have hin2 : i = n := by omega
   have hany : exclL fs kind = false := by
    unfold exclL
    rw [List.any_eq_false]
    intro f hf
    have h := HNO.out f
    rw [hin2, HN.out, List.take_length] at h
    rw [h hf]; decide
   have HANY := Bas.hid hany
   clear hany hb hno
   go_wp2_with (fail)
   exact bodyPost_ret (v := .int .i64 (-1)) (by simp [results, Tryz.results121, go_sem]) rfl ⟨-1, rfl, by rw [HANY.out]; simp, HB.out, by omega⟩
set_option maxHeartbeats 2000000 in
theorem contains_any (v : Value) (fs : List FeatD) (ss : List Value) (base : Nat) (kind : Int) (bk : Nat) (w : World) (hr : FRow w base v fs ss) (hk : w.cell? ⟨bk, 0, none⟩ = some (.int .i64 kind)) (hlen : fs.length ≤ 1000000000) :
  Calls Tryz.prog 94 #[v, .func (.func 95) #[] #[.pointer (some ⟨bk, 0, none⟩)]] w fun e w' => e = .returned (.bool (exclL fs kind)) ∧ Below w.heap.size w w' := by
 have H := Bas.hid (index_any v fs ss base kind bk w hr hk hlen)
 clear hr hk
 go_enter Tryz.func94, Tryz.ntmps94
 go_wp2_with (fail)
 refine H.out.mono ?_
 rintro e w1 ⟨r, rfl, hr, hb, hm⟩
 have HB := Bas.hid hb
 clear hb H
 go_wp2_with (fail)
 go_ret
 exact ⟨rfl, HB.out⟩
set_option maxHeartbeats 2000000 in
theorem excl_any (v : Value) (fs : List FeatD) (ss : List Value) (base : Nat) (kind : Int) (w : World) (hr : FRow w base v fs ss) (hlen : fs.length ≤ 1000000000) :
  Calls Tryz.prog 67 #[v, .int .i64 kind] w fun e w' => e = .returned (.bool (exclL fs kind)) ∧ Below w.heap.size w w' := by
 have hmf : ∀ (fn : Fn) (first cap : Array Value) (w : World), (Instr.makeFunc fn first cap).run Tryz.prog w = .ok (.func fn first cap) w := fun _ _ _ _ => rfl
 have hb0 := (Below.refl w.heap.size w).alloc (Nat.le_refl _) (.cells #[.int .i64 kind] 3)
 have H := Bas.hid (contains_any v fs ss base kind w.heap.size (w.alloc (.cells #[.int .i64 kind] 3)) (fRow_below hr hb0) (cell_of_heap (i := 0) (Bas.heap_new _ _) rfl) hlen)
 have HB0 := Bas.hid hb0
 obtain ⟨ad, cp, rfl⟩ := own_slice hr.own
 clear hr hb0
 go_enter Tryz.func67, Tryz.ntmps67
 go_wp2_with (fail)
 refine H.out.mono ?_
 rintro e w1 ⟨rfl, hb⟩
 have HB := Bas.hid (Bas.on HB0.out hb)
 clear hb H
 go_wp2_with (fail)
 go_ret
 exact ⟨rfl, HB.out⟩
end Ft
end Go.Proofs.YtoncnjhhdlpliaaGreat
namespace Go.Proofs.YtoncnjhhdlpliaaGreat
open Go.RowKit
namespace Pk
open Ch Ft Go.Maps
def kl (s : Int × Int) : Lit := .string (keyBytes [.int .i64 s.1, .int .i64 s.2])
def wf64 (s : Int × Int) : Prop := (Lit.int .i64 s.1).wf = true ∧ (Lit.int .i64 s.2).wf = true
theorem laidOut : laidOutB Tryz.prog = true := by kernel_rfl
theorem keyed : Keyed Tryz.prog 141 := Keyed.of_law (deep_law_laid laidOut (m := 2) (by omega) (of_decide_eq_true (by kernel_rfl)) (by kernel_rfl) (by rw [Tryz.underlying141]))
theorem key_type : Tryz.prog.keyType 141 = true := by kernel_rfl
theorem cells_set : Tryz.prog.cellsOf 141 = 2 := by kernel_rfl
theorem cells_int : Tryz.prog.cellsOf 3 = 1 := by kernel_rfl
theorem types_size : ∃ m, Tryz.prog.types.size = m + 1 := ⟨Tryz.prog.types.size - 1, by have : 0 < Tryz.prog.types.size := of_decide_eq_true (by kernel_rfl); omega⟩
theorem keyOf_set (s : Int × Int) (h : wf64 s) : keyOf Tryz.prog 141 (setV s) = some (kl s) := by
 obtain ⟨m, hm⟩ := types_size
 have h1 : (Value.agg #[Value.int IntKind.i64 s.1, Value.int IntKind.i64 s.2]).formed Tryz.prog 141 = true := by simp [Value.formed, Tryz.underlying141, cells_set]
 unfold keyOf setV
 simp only [Tryz.underlying141, key_type, h1, Bool.and_self, if_true]
 rw [hm]
 simp [Program.keyLits, Tryz.underlying141, Tryz.underlying3, Value.cells, cells_set, cells_int, h.1, h.2, kl]
set_option maxRecDepth 100000 in
theorem keyOf_set_inv {v : Value} {l : Lit} (h : keyOf Tryz.prog 141 v = some l) : ∃ s, wf64 s ∧ v = setV s ∧ l = kl s := by
 obtain ⟨m, hm⟩ := types_size
 unfold keyOf at h
 simp only [Tryz.underlying141, key_type, Bool.true_and] at h
 rw [hm] at h
 split at h
 ·rename_i hf
  cases v with
  | agg cs =>
   simp only [Value.formed, Tryz.underlying141, cells_set, beq_iff_eq] at hf
   obtain ⟨cs⟩ := cs
   have hf2 : cs.length = 2 := by simpa using hf
   clear hf
   rcases cs with _ | ⟨c0, _ | ⟨c1, _ | ⟨c2, cs⟩⟩⟩
   ·cases hf2
   ·cases hf2
   ·simp [Program.keyLits, Tryz.underlying141, Tryz.underlying3, Value.cells, cells_set, cells_int] at h
    cases c0 <;> simp at h
    rename_i k0 n0
    by_cases hk0 : k0 = IntKind.i64 ∧ (Lit.int IntKind.i64 n0).wf = true
    ·rw [if_pos hk0] at h
     cases c1 <;> simp at h
     rename_i k1 n1
     by_cases hk1 : k1 = IntKind.i64 ∧ (Lit.int IntKind.i64 n1).wf = true
     ·rw [if_pos hk1] at h
      simp at h
      obtain ⟨rfl, hw0⟩ := hk0
      obtain ⟨rfl, hw1⟩ := hk1
      exact ⟨(n0, n1), ⟨hw0, hw1⟩, rfl, h.symm⟩
     ·rw [if_neg hk1] at h
      simp at h
    ·rw [if_neg hk0] at h
     simp at h
   ·simp at hf2
  | _ => simp [Value.formed, Tryz.underlying141] at hf
 ·cases h
theorem kl_inj {a b : Int × Int} (ha : wf64 a) (hb : wf64 b) (h : kl a = kl b) : a = b := by
 have h1 := keyOf_set a ha
 rw [h] at h1
 have h2 := keyed.inj h1 (keyOf_set b hb)
 simp [setV] at h2
 exact Prod.ext h2.1 h2.2
theorem kl_key (a : Int × Int) (ha : wf64 a) : WideAt.IsKeyLit (kl a) := keyed.key (keyOf_set a ha)
def dS (s : Int × Int) : DataW Unit := .agg [.lit (.int .i64 s.1), .lit (.int .i64 s.2)]
def readS : Value → Option (DataW Unit × List MemPlace)
 | .agg ⟨[.int .i64 a, .int .i64 b]⟩ => some (dS (a, b), [])
 | _ => none
theorem readS_mk (s : Int × Int) : readS (setV s) = some (dS s, []) := rfl
theorem readS_inv {v : Value} {y : DataW Unit × List MemPlace} (h : readS v = some y) : ∃ s : Int × Int, v = setV s ∧ y = (dS s, []) := by
 unfold readS at h
 split at h
 ·cases h; exact ⟨(_, _), rfl, rfl⟩
 ·cases h
theorem dS_inj {a b : Int × Int} (h : dS a = dS b) : a = b := by
 simp [dS] at h
 exact Prod.ext h.1 h.2
def rightB (s : Int × Int) : Bool := decide (0 ≤ s.1 ∧ s.1 ≤ 65535 ∧ 0 ≤ s.2 ∧ s.2 ≤ 65535)
def ck (fs : List FeatD) (s : Int × Int) : Int × Int := if exclL fs s.1 then (s.1, -1) else (s.1, s.2 / 2)
theorem ck_wf (fs : List FeatD) (s : Int × Int) (h : rightB s = true) : wf64 (ck fs s) := by
 have h2 := of_decide_eq_true h
 unfold ck wf64
 split <;> refine ⟨?_, ?_⟩ <;> simp [Lit.wf, IntKind.min, IntKind.max, IntKind.bits, IntKind.signed] <;> omega
def Dm (fs : List FeatD) : List (Int × Int) → DataW Unit := fun l => l.foldl (fun D s => if rightB s then D.put (kl (ck fs s)) (dS s) else D) (.map [])
theorem Dm_snoc (fs : List FeatD) (l : List (Int × Int)) (s : Int × Int) : Dm fs (l ++ [s]) = if rightB s then (Dm fs l).put (kl (ck fs s)) (dS s) else Dm fs l := by
 unfold Dm; rw [List.foldl_append]; rfl
theorem Dm_map (fs : List FeatD) (l : List (Int × Int)) : IsMap (Dm fs l) := by
 have key : ∀ (l : List (Int × Int)) (D : DataW Unit), IsMap D → IsMap (l.foldl (fun D s => if rightB s then D.put (kl (ck fs s)) (dS s) else D) D) := by
  intro l
  induction l with
  | nil => exact fun D h => h
  | cons s l ih =>
   intro D h
   refine ih _ ?_
   show IsMap (if rightB s then D.put (kl (ck fs s)) (dS s) else D)
   split
   ·exact h.put _ _
   ·exact h
 exact key l _ isMap_empty
def lastK (fs : List FeatD) (l : List (Int × Int)) (c : Int × Int) : Option (Int × Int) := l.foldl (fun o s => if rightB s && decide (ck fs s = c) then some s else o) none
theorem lastK_snoc (fs : List FeatD) (l : List (Int × Int)) (s c : Int × Int) : lastK fs (l ++ [s]) c = if rightB s && decide (ck fs s = c) then some s else lastK fs l c := by
 unfold lastK; rw [List.foldl_append]; rfl
theorem rev_ind {α : Type} {p : List α → Prop} (h0 : p []) (h1 : ∀ l x, p l → p (l ++ [x])) : ∀ l, p l := fun l => by
 have key : ∀ n (l : List α), l.length = n → p l := by
  intro n
  induction n with
  | zero => intro l h; rw [List.length_eq_zero_iff.1 h]; exact h0
  | succ n ih =>
   intro l h
   have hne : l ≠ [] := fun e => by rw [e] at h; cases h
   rw [← List.dropLast_concat_getLast hne]
   exact h1 _ _ (ih _ (by rw [List.length_dropLast]; omega))
 exact key _ l rfl
theorem lastK_some (fs : List FeatD) {c s : Int × Int} : ∀ l, lastK fs l c = some s → s ∈ l ∧ rightB s = true ∧ ck fs s = c := by
 refine rev_ind (fun h => by cases h) fun l x ih h => ?_
 rw [lastK_snoc] at h
 split at h
 ·rename_i hc
  cases h
  simp at hc
  exact ⟨by simp, hc.1, hc.2⟩
 ·obtain ⟨h1, h2⟩ := ih h
  exact ⟨by simp [h1], h2⟩
theorem Dm_reads (fs : List FeatD) (c : Int × Int) (hc : wf64 c) : ∀ l, (has (Dm fs l) (kl c) = (lastK fs l c).isSome) ∧ ∀ s, lastK fs l c = some s → ∀ z, (Dm fs l).atKey (kl c) z = dS s := by
 refine rev_ind ⟨rfl, fun s h => by cases h⟩ fun l x ih => ?_
 rw [Dm_snoc, lastK_snoc]
 cases hr : rightB x with
 | false => simp only [Bool.false_and, if_false, Bool.false_eq_true]; exact ih
 | true =>
  simp only [Bool.true_and, if_true]
  by_cases h : ck fs x = c
  ·rw [h]
   simp only [decide_true, if_true]
   refine ⟨by rw [has_put_same (Dm_map fs l) (kl_key c hc)]; rfl, fun s hs z => ?_⟩
   cases hs
   exact atKey_put_same (Dm_map fs l) (kl_key c hc) _ z
  ·have hne : kl c ≠ kl (ck fs x) := fun e => h (kl_inj (ck_wf fs x hr) hc e.symm)
   rw [decide_eq_false h]
   simp only [if_false, Bool.false_eq_true]
   exact ⟨by rw [has_put_other hne]; exact ih.1, fun s hs z => by rw [atKey_put_other hne]; exact ih.2 s hs z⟩
end Pk
end Go.Proofs.YtoncnjhhdlpliaaGreat
namespace Go.Proofs.YtoncnjhhdlpliaaGreat
open Go.RowKit
namespace Pk
open Ch Ft Go.Maps
structure Met (fs : List FeatD) (l : List (Int × Int)) (left : Lit → Bool) (xs : List (Int × Int)) : Prop where
 nodup : xs.Nodup
 has : ∀ z, left z = true → has (Dm fs l) z = true
 mem : ∀ s, s ∈ xs ↔ ∃ c, wf64 c ∧ lastK fs l c = some s ∧ left (kl c) = false
theorem met_start (fs : List FeatD) (l : List (Int × Int)) : Met fs l (has (Dm fs l)) [] := by
 refine ⟨List.nodup_nil, fun _ h => h, fun s => ⟨fun h => (by cases h), fun ⟨c, hc, h1, h2⟩ => ?_⟩⟩
 rw [(Dm_reads fs c hc l).1, h1] at h2
 cases h2
theorem met_step {fs : List FeatD} {l : List (Int × Int)} {left : Lit → Bool} {xs : List (Int × Int)} (h : Met fs l left xs) {x s : Int × Int} (hx : wf64 x) (hl : left (kl x) = true) (hat : ∀ z, (Dm fs l).atKey (kl x) z = dS s) :
  Met fs l (fun z => left z && !z.sameKey (kl x)) (xs ++ [s]) := by
 have h0 := h.has _ hl
 rw [(Dm_reads fs x hx l).1] at h0
 obtain ⟨s', hs'⟩ := Option.isSome_iff_exists.1 h0
 have e : s' = s := dS_inj (((Dm_reads fs x hx l).2 s' hs' .nil).symm.trans (hat .nil))
 subst e
 have same : ∀ c, wf64 c → ((kl c).sameKey (kl x) = true ↔ c = x) := fun c hc => by
  constructor
  ·intro hk; exact kl_inj hc hx (WideAt.sameKey_eq hk)
  ·rintro rfl; exact WideAt.sameKey_self (kl_key _ hc)
 have hnot : s' ∉ xs := fun hm => by
  obtain ⟨c, hc, h1, h2⟩ := (h.mem s').1 hm
  have e1 := (lastK_some fs l h1).2.2
  have e2 := (lastK_some fs l hs').2.2
  rw [← e1, e2, hl] at h2
  cases h2
 refine ⟨?_, fun z hz => h.has z (by simp at hz; exact hz.1), fun s => ?_⟩
 ·rw [List.nodup_append]
  exact ⟨h.nodup, by simp, fun a ha b hb e => by simp at hb; subst hb; subst e; exact hnot ha⟩
 ·rw [List.mem_append, List.mem_singleton]
  constructor
  ·rintro (hm | rfl)
   ·obtain ⟨c, hc, h1, h2⟩ := (h.mem s).1 hm
    exact ⟨c, hc, h1, by simp [h2]⟩
   ·exact ⟨x, hx, hs', by simp [(same x hx).2 rfl]⟩
  ·rintro ⟨c, hc, h1, h2⟩
   cases hlc : left (kl c) with
   | false => exact .inl ((h.mem s).2 ⟨c, hc, h1, hlc⟩)
   | true =>
    rw [hlc] at h2
    simp at h2
    have e := (same c hc).1 h2
    subst e
    rw [hs'] at h1
    cases h1
    exact .inr rfl
def IsSet (fs : List FeatD) (l ys : List (Int × Int)) : Prop := ys.Pairwise (fun x y => ltP x y = true) ∧ ∀ s, s ∈ ys ↔ rightB s = true ∧ lastK fs l (ck fs s) = some s
theorem ltP_total {x y : Int × Int} (h : ltP y x = false) (hne : x ≠ y) : ltP x y = true := by
 simp [ltP] at h ⊢
 have : ¬ (x.1 = y.1 ∧ x.2 = y.2) := fun e => hne (Prod.ext e.1 e.2)
 omega
theorem met_end {fs : List FeatD} {l : List (Int × Int)} {left : Lit → Bool} {xs ys : List (Int × Int)} (h : Met fs l left xs) (hl : ∀ z, left z = false) (hp : ys.Perm xs) (hr : Rises ys) : IsSet fs l ys := by
 have hnd : ys.Nodup := hp.nodup_iff.2 h.nodup
 refine ⟨?_, fun s => ?_⟩
 ·exact (List.Pairwise.and hr hnd).imp fun ⟨h1, h2⟩ => ltP_total h1 h2
 ·rw [hp.mem_iff, h.mem]
  constructor
  ·rintro ⟨c, hc, h1, _⟩
   obtain ⟨_, h2, h3⟩ := lastK_some fs l h1
   exact ⟨h2, by rw [h3]; exact h1⟩
  ·rintro ⟨h1, h2⟩
   exact ⟨ck fs s, ck_wf fs s h1, h2, hl _⟩
theorem isSet_sub {fs : List FeatD} {l ys : List (Int × Int)} (h : IsSet fs l ys) : ∀ s ∈ ys, s ∈ l := fun s hs => (lastK_some fs l ((h.2 s).1 hs).2).1
theorem isSet_nodup {fs : List FeatD} {l ys : List (Int × Int)} (h : IsSet fs l ys) : ys.Nodup := h.1.imp fun {a b} hab e => by subst e; simp [ltP] at hab
theorem isSet_len {fs : List FeatD} {l ys : List (Int × Int)} (h : IsSet fs l ys) : ys.length ≤ l.length :=
 (isSet_nodup h).length_le_of_subset (isSet_sub h)
theorem met_len {fs : List FeatD} {l : List (Int × Int)} {left : Lit → Bool} {xs : List (Int × Int)} (h : Met fs l left xs) : xs.length ≤ l.length :=
 h.nodup.length_le_of_subset fun s hs => by obtain ⟨c, _, h1, _⟩ := (h.mem s).1 hs; exact (lastK_some fs l h1).1
end Pk
end Go.Proofs.YtoncnjhhdlpliaaGreat
namespace Go.Proofs.YtoncnjhhdlpliaaGreat
open Go.RowKit
namespace Pk
open Ch Ft Go.Maps
set_option maxHeartbeats 2000000 in
theorem right_any (t v : Int) (w : World) : Calls Tryz.prog 66 #[.agg #[.int .i64 t, .int .i64 v]] w fun e w' => e = .returned (.bool (rightB (t, v))) ∧ Below w.heap.size w w' := by
 have HB := Bas.hid ((Below.refl w.heap.size w).alloc (Nat.le_refl _) (.cells #[.int .i64 t, .int .i64 v] 141))
 by_cases h1 : 0 ≤ t
 ·have a1 : decide (t ≥ 0) = true := decide_eq_true h1
  have b1 : decide (0 ≤ t) = true := decide_eq_true h1
  by_cases h2 : t ≤ 65535
  ·have a2 : decide (t ≤ 65535) = true := decide_eq_true h2
   by_cases h3 : 0 ≤ v
   ·have a3 : decide (v ≥ 0) = true := decide_eq_true h3
    have b3 : decide (0 ≤ v) = true := decide_eq_true h3
    by_cases h4 : v ≤ 65535
    ·have a4 : decide (v ≤ 65535) = true := decide_eq_true h4
     have hr : rightB (t, v) = true := decide_eq_true ⟨h1, h2, h3, h4⟩
     rw [hr]
     clear h1 h2 h3 h4 hr
     go_enter Tryz.func66, Tryz.ntmps66
     go_wp2_with (fail)
     go_ret
     exact ⟨rfl, HB.out⟩
    ·have a4 : decide (v ≤ 65535) = false := decide_eq_false h4
     have hr : rightB (t, v) = false := decide_eq_false (fun h => h4 h.2.2.2)
     rw [hr]
     clear h1 h2 h3 h4 hr
     go_enter Tryz.func66, Tryz.ntmps66
     go_wp2_with (fail)
     go_ret
     exact ⟨rfl, HB.out⟩
   ·have a3 : decide (v ≥ 0) = false := decide_eq_false h3
    have b3 : decide (0 ≤ v) = false := decide_eq_false h3
    have hr : rightB (t, v) = false := decide_eq_false (fun h => h3 h.2.2.1)
    rw [hr]
    clear h1 h2 h3 hr
    go_enter Tryz.func66, Tryz.ntmps66
    go_wp2_with (fail)
    go_ret
    exact ⟨rfl, HB.out⟩
  ·have a2 : decide (t ≤ 65535) = false := decide_eq_false h2
   have hr : rightB (t, v) = false := decide_eq_false (fun h => h2 h.2.1)
   rw [hr]
   clear h1 h2 hr
   go_enter Tryz.func66, Tryz.ntmps66
   go_wp2_with (fail)
   go_ret
   exact ⟨rfl, HB.out⟩
 ·have a1 : decide (t ≥ 0) = false := decide_eq_false h1
  have b1 : decide (0 ≤ t) = false := decide_eq_false h1
  have hr : rightB (t, v) = false := decide_eq_false (fun h => h1 h.1)
  rw [hr]
  clear h1 hr
  go_enter Tryz.func66, Tryz.ntmps66
  go_wp2_with (fail)
  go_ret
  exact ⟨rfl, HB.out⟩
theorem sort_none (w : World) : Calls Tryz.prog 68 #[.slice none 0 0, .func (.func 69) #[] #[]] w fun e w' => e = .returned (.tuple #[]) ∧ w' = w :=
 AnyF.slices_SortFunc_none sortSt none 0 _ w
theorem map_below {w w' : World} {b n : Nat} {D : DataW Unit} (h : w.ownsMap Tryz.prog 141 readS b n D) (hb : Below w.heap.size w w') : w'.ownsMap Tryz.prog 141 readS b n D :=
 h.kept (Bas.gbelow (Bas.grefl w none) hb) (by simp)
theorem infoS : (Tryz.prog.info? 141).map (fun i => (i.zero, i.size, i.bytes)) = some (some (.agg #[.int .i64 0, .int .i64 0]), 2, 16) := by kernel_rfl
theorem own_map {w : World} {base size n m b : Nat} {e : TypeId} {v : Value} {xs : List Value} {D : DataW Unit} (h : w.ownsRow base e size v n xs) (hm : w.ownsMap Tryz.prog 141 readS b m D) : some b ≠ v.ownBlock := by
 intro he
 obtain ⟨_, ⟨rfl, _⟩ | ⟨g', cp, cur, rfl, _, hh, _⟩⟩ := h
 ·cases he
 ·cases he
  obtain ⟨es, clock, hb, _⟩ := hm
  rw [hh] at hb; cases hb
theorem own_iter {w : World} {base size n m b r cnt : Nat} {e : TypeId} {v : Value} {xs : List Value} {D : DataW Unit} {left : Lit → Bool} (h : w.ownsRow base e size v n xs) (hm : w.ranges Tryz.prog 141 readS b r m D left cnt) : some r ≠ v.ownBlock := by
 intro he
 obtain ⟨_, ⟨rfl, _⟩ | ⟨g', cp, cur, rfl, _, hh, _⟩⟩ := h
 ·cases he
 ·cases he
  obtain ⟨es, clock, since, seen, c0, _, _, _, _, hr, _⟩ := hm
  rw [hh] at hr; cases hr
set_option maxRecDepth 100000 in
set_option maxHeartbeats 8000000 in
theorem settle_any (a : Option Addr) (len cap : Nat) (l : List (Int × Int)) (fv : Value) (fs : List FeatD) (ss : List Value) (fb : Nat) (w : World) (hl : Row.Leads w (.slice a len cap) len (l.flatMap setC)) (hn : l.length = len) (hlen : len ≤ 100000) (hf : FRow w fb fv fs ss) (hfl : fs.length ≤ 1000000000) (hwf : ∀ s ∈ l, wf64 s) :
  Calls Tryz.prog 41 #[.slice a len cap, fv] w fun e w' => ∃ v ys, e = .returned v ∧ IsSet fs l ys ∧ w'.ownsRow w.heap.size 141 2 v ys.length (ys.flatMap setC) ∧ Below w.heap.size w w' := by
 have hmm := @run_makeMap Tryz.prog
 have HL := Bas.hid hl
 have HN := Bas.hid hn
 have HF := Bas.hid hf
 have HWF := Bas.hid hwf
 have HFL := Bas.hid hfl
 obtain ⟨fa, fc, rfl⟩ := own_slice hf.own
 clear hl hn hf hwf hfl
 go_enter Tryz.func41, Tryz.ntmps41
 go_wp2_with (fail)
 go_loopw [14] (fun vi wr => ∃ i : Nat, i ≤ len ∧ vi = .int .i64 i ∧ wr.ownsMap Tryz.prog 141 readS w.heap.size i (Dm fs (l.take i)) ∧ Below w.heap.size w wr) (fun vi _ => len - (intOf vi).toNat)
 case atStart => exact ⟨0, Nat.zero_le _, rfl, World.ownsMap_made _ _ _ _, (Below.refl _ _).alloc (Nat.le_refl _) _⟩
 case round =>
  obtain ⟨i, hi, rfl, hown, hb⟩ := hrel
  have HO := Bas.hid hown
  have HB := Bas.hid hb
  clear hown hb
  by_cases hin : i < len
  ·have e1 : decide ((i : Int) < (len : Int)) = true := by simp; omega
   have e2 : decide (i < len) = true := by simp; omega
   obtain ⟨s, hs⟩ : ∃ s, l[i]? = some s := ⟨_, List.getElem?_eq_getElem (by rw [HN.out]; exact hin)⟩
   obtain ⟨t, v⟩ := s
   obtain ⟨B, Of, cp0, hv0, hcl⟩ := Row.leads_elem setC_len HL.out hs (by omega)
   cases hv0
   have h0 := hcl 0 _ rfl
   have h1 := hcl 1 _ rfl
   simp only [Nat.add_zero] at h0
   have c0 := (HB.out.cell (p := ⟨B, Of + i * 2, none⟩) (World.block_lt_of_cell? _ _ h0)).trans h0
   have c1 := (HB.out.cell (p := ⟨B, Of + i * 2 + 1, none⟩) (World.block_lt_of_cell? _ _ h1)).trans h1
   have HW := Bas.hid (HWF.out _ (List.mem_of_getElem? hs))
   have hTK : l.take (i + 1) = l.take i ++ [(t, v)] := by rw [List.take_add_one, hs]; rfl
   have hTKE := Bas.hid hTK
   clear hs hcl h0 h1 hTK
   go_wp2_with (fail)
   have k7 := Bas.heap_new wr (.cells #[.int .i64 t, .int .i64 v] 141)
   have HB1 := Bas.hid (HB.out.alloc HB.out.size (.cells #[.int .i64 t, .int .i64 v] 141))
   have HO1 := Bas.hid (HO.out.alloc (.cells #[.int .i64 t, .int .i64 v] 141))
   generalize wr.alloc (.cells #[.int .i64 t, .int .i64 v] 141) = W1 at *
   generalize wr.heap.size = T7 at *
   clear c0 c1 HB HO
   refine (right_any t v W1).mono ?_
   rintro e w2 ⟨rfl, hb2⟩
   have k72 := (hb2.block _ (heap_lt k7)).trans k7
   have HB2 := Bas.hid (HB1.out.trans (hb2.mono HB1.out.size))
   have HO2 := Bas.hid (map_below HO1.out hb2)
   clear hb2 HB1 HO1 k7
   have hsn := Dm_snoc fs (l.take i) (t, v)
   rw [← hTKE.out] at hsn
   obtain ⟨rb, hrb⟩ : ∃ rb, rightB (t, v) = rb := ⟨_, rfl⟩
   have HRB := Bas.hid hrb
   rw [hrb] at hsn ⊢
   clear hrb
   cases rb with
   | false =>
    simp only [if_false, Bool.false_eq_true] at hsn
    have HSN := Bas.hid hsn
    clear hsn
    go_wp2_with (fail)
    go_roundw
    case rel => exact ⟨i + 1, by omega, by go_num, by rw [HSN.out]; exact HO2.out.mono (by omega), HB2.out⟩
    case measure => simp [intOf]; omega
   | true =>
    simp only [if_true] at hsn
    have HSN := Bas.hid hsn
    clear hsn
    have q0 := cell_of_heap (i := 0) (v := .int .i64 t) k72 rfl
    have q1 := cell_of_heap (i := 1) (v := .int .i64 v) k72 rfl
    go_wp2_with (fail)
    have hrt := of_decide_eq_true HRB.out
    obtain ⟨rt0, rt1, rv0, rv1⟩ := hrt
    simp only at rt0 rt1 rv0 rv1
    refine (excl_any (.slice fa fs.length fc) fs ss fb t w2 (fRow_below HF.out HB2.out) HFL.out).mono ?_
    rintro e w3 ⟨rfl, hb3⟩
    have k73 := (hb3.block _ (heap_lt k72)).trans k72
    have HB3 := Bas.hid (HB2.out.trans (hb3.mono HB2.out.size))
    have HO3 := Bas.hid (map_below HO2.out hb3)
    clear hb3 HB2 HO2 k72 q0 q1
    have p0 := cell_of_heap (i := 0) (v := .int .i64 t) k73 rfl
    have p1 := cell_of_heap (i := 1) (v := .int .i64 v) k73 rfl
    have hck : ck fs (t, v) = if exclL fs t then (t, -1) else (t, v / 2) := rfl
    have hcw := ck_wf fs (t, v) HRB.out
    obtain ⟨x, hx⟩ : ∃ x, exclL fs t = x := ⟨_, rfl⟩
    rw [hx] at hck ⊢
    clear hx
    cases x with
    | true =>
     simp only [if_true] at hck
     rw [hck] at HSN hcw
     have HKEY := Bas.hid (keyOf_set _ hcw)
     clear hck hcw
     go_wp2_with (at_mapUpdate; refine Row.fence ?_)
     refine Row.unfence ?_
     refine wpList_mapUpdate_own _ rfl _ _ _ 139 rfl 141 141 keyed Tryz.underlying139 _ w.heap.size i _ rfl HO3.out (by unfold maxLen; omega) _ _ _ rfl rfl HKEY.out _ [] (readS_mk (t, v)) ?_
     intro w4 hown4 hgrow4
     have HB4 := Bas.hid (HB3.out.grown hgrow4 HB3.out.size (fun j hj => by cases hj; exact Nat.le_refl _))
     have HO4 := Bas.hid hown4
     clear hown4 hgrow4 HB3 HO3 HKEY p0 p1 k73
     go_wp2_with (fail)
     go_roundw
     case rel => exact ⟨i + 1, by omega, by go_num, by rw [HSN.out]; exact HO4.out, HB4.out⟩
     case measure => simp [intOf]; omega
    | false =>
     simp only [if_false, Bool.false_eq_true] at hck
     rw [hck] at HSN hcw
     have HKEY := Bas.hid (keyOf_set _ hcw)
     have hdv : v.tdiv 2 = v / 2 := Int.tdiv_eq_ediv_of_nonneg rv0
     clear hck hcw
     go_wp2_with (at_mapUpdate; refine Row.fence ?_)
     refine Row.unfence ?_
     refine wpList_mapUpdate_own _ rfl _ _ _ 139 rfl 141 141 keyed Tryz.underlying139 _ w.heap.size i _ rfl HO3.out (by unfold maxLen; omega) _ _ _ rfl rfl HKEY.out _ [] (readS_mk (t, v)) ?_
     intro w4 hown4 hgrow4
     have HB4 := Bas.hid (HB3.out.grown hgrow4 HB3.out.size (fun j hj => by cases hj; exact Nat.le_refl _))
     have HO4 := Bas.hid hown4
     clear hown4 hgrow4 HB3 HO3 HKEY p0 p1 k73
     go_wp2_with (fail)
     go_roundw
     case rel => exact ⟨i + 1, by omega, by go_num, by rw [HSN.out]; exact HO4.out, HB4.out⟩
     case measure => simp [intOf]; omega
  ·have hin2 : i = len := by omega
   subst hin2
   have hlt : l.take i = l := List.take_of_length_le (by rw [HN.out]; exact Nat.le_refl _)
   rw [hlt] at HO
   have HM0 := Bas.hid (met_start fs l)
   clear hlt
   go_wp2_with (at_range; refine Row.fence ?_)
   refine Row.unfence ?_
   refine wpList_range_own _ rfl _ 139 rfl 141 141 keyed Tryz.underlying139 _ w.heap.size i _ rfl HO.out ?_
   intro w0 hrg0 hg0 hs0
   go_frame
   have HB0 := Bas.hid (HB.out.grown hg0 HB.out.size (fun j hj => by cases hj))
   have hwr : w.heap.size ≤ wr.heap.size := HB.out.size
   obtain ⟨r, hr⟩ : ∃ r, wr.heap.size = r := ⟨_, rfl⟩
   rw [hr] at hrg0 hwr ⊢
   have HR0 := Bas.hid hrg0
   clear hr hrg0 hg0 hs0 HB HO
   go_wp2_with (fail)
   go_loopw [8] (fun vb wq => ∃ (left : Lit → Bool) (cnt : Nat) (xs : List (Int × Int)) (v8 : Value), v8 = vb ∧ wq.ranges Tryz.prog 141 readS w.heap.size r i (Dm fs l) left cnt ∧ Met fs l left xs ∧ wq.ownsRow w.heap.size 141 2 v8 xs.length (xs.flatMap setC) ∧ Below w.heap.size w wq) (fun _ wq => wq.rangeLeft w.heap.size r)
   case atStart => exact ⟨_, _, [], _, rfl, HR0.out, HM0.out, Row.owned_nil _ _ _ _, HB0.out⟩
   case round =>
    obtain ⟨left, cnt, xs, v8, hv8, hrg, hmet, hown, hb⟩ := hrel
    rw [← hv8]
    clear hv8
    have HRG := Bas.hid hrg
    have HME := Bas.hid hmet
    have HO := Bas.hid hown
    have HB := Bas.hid hb
    clear hrg hmet hown hb HR0 HM0 HB0
    go_wp2_with (at_next; refine Row.fence ?_)
    refine Row.unfence ?_
    refine wpList_next_ranges _ rfl _ rfl 141 keyed readS setV setV (fun key kk h => by obtain ⟨s, _, h2, _⟩ := keyOf_set_inv h; exact ⟨s, h2⟩) (fun v y h => by obtain ⟨s, h1, _⟩ := readS_inv h; exact ⟨s, h1⟩) w.heap.size r i _ _ _ rfl HRG.out ?_ ?_
    ·intro hc0 hl0
     have HL0 := Bas.hid hl0
     go_frame
     clear hc0 hl0
     go_wp2_with (fail)
     have hO := HO.out
     have hml := met_len HME.out
     obtain ⟨hlx, ⟨h8, hx0⟩ | ⟨g, cp, cur, h8, hgb, hh, hnc, hmc, hcs, htk⟩⟩ := hO
     ·subst h8
      have hxn : xs = [] := List.length_eq_zero_iff.1 hx0
      subst hxn
      have HIS := Bas.hid (met_end HME.out HL0.out (List.Perm.refl []) List.Pairwise.nil)
      clear hlx hx0 hml
      refine (sort_none wr).mono ?_
      rintro e w2 ⟨rfl, rfl⟩
      go_wp2_with (fail)
      go_ret
      exact ⟨_, [], rfl, HIS.out, Row.owned_nil _ _ _ _, HB.out⟩
     ·subst h8
      have HST := Bas.hid (sort_any w.heap.size g cp xs wr HO.out (by rw [HN.out] at hml; omega))
      have HGB := Bas.hid hgb
      clear hlx hgb hh hnc hmc hcs htk hml
      refine HST.out.mono ?_
      rintro e w2 ⟨rfl, ys, hperm, hris, hown2, hgr⟩
      have HIS := Bas.hid (met_end HME.out HL0.out hperm hris)
      have HO2 := Bas.hid hown2
      have HB2 := Bas.hid (HB.out.grown hgr HB.out.size (fun j hj => by cases hj; exact HGB.out))
      have HPL := Bas.hid hperm.length_eq
      clear hperm hris hown2 hgr HST HO HB
      go_wp2_with (fail)
      go_ret
      exact ⟨_, ys, rfl, HIS.out, by rw [← HPL.out]; exact HO2.out, HB2.out⟩
    ·intro x c kk y w1 cnt1 hkey hlx hry hat hrg1 hlt hg1 hs1 hen
     obtain ⟨x', hwx, hxe, rfl⟩ := keyOf_set_inv hkey
     have hxx : x = x' := by simp [setV] at hxe; exact Prod.ext hxe.1 hxe.2
     subst hxx
     rw [readS_mk] at hry
     cases hry
     have HME2 := Bas.hid (met_step HME.out hwx hlx hat)
     have HRG1 := Bas.hid hrg1
     have HLT := Bas.hid hlt
     have HO1 := Bas.hid (Row.owned_keep HO.out fun g hg => hg1.block g (Row.own_block HO.out hg).2 (fun e => own_iter HO.out HRG.out (by rw [hg]; exact e.symm)))
     have hrw : w.heap.size ≤ r := hwr
     have HB1 := Bas.hid (HB.out.grown hg1 HB.out.size (fun j hj => by cases hj; exact hrw))
     clear hkey hlx hat hrg1 hlt hg1 hs1 hxe hwx HME HB HO
     go_frame
     obtain ⟨ct, cv⟩ := c
     obtain ⟨xt, xv⟩ := x
     simp only [setV] at hen ⊢
     go_wp2_with (at_builtin; refine Row.fence ?_)
     refine Row.unfence ?_
     have kX := Bas.heap_new2 w1 (.cells #[.int .i64 ct, .int .i64 cv] 141) (.cells #[.int .i64 ct, .int .i64 cv] 141)
     have HRX := Bas.hid ((HRG1.out.alloc (.cells #[.int .i64 ct, .int .i64 cv] 141)).alloc (.cells #[.int .i64 ct, .int .i64 cv] 141))
     have hbX : Below w1.heap.size w1 ((w1.alloc (.cells #[.int .i64 ct, .int .i64 cv] 141)).alloc (.cells #[.int .i64 ct, .int .i64 cv] 141)) := ((Below.refl _ _).alloc (Nat.le_refl _) _).alloc (by simp) _
     have HBX := Bas.hid (HB1.out.trans (hbX.mono HB1.out.size))
     have HOX := Bas.hid (Row.owned_below HO1.out hbX)
     have hml := met_len HME2.out
     rw [HN.out, List.length_append] at hml
     simp only [List.length_cons, List.length_nil] at hml
     generalize (w1.alloc (.cells #[.int .i64 ct, .int .i64 cv] 141)).alloc (.cells #[.int .i64 ct, .int .i64 cv] 141) = X at *
     generalize w1.heap.size = T1 at *
     refine (Row.append_any rfl _ _ 57 141 rfl (.agg #[.int .i64 0, .int .i64 0]) 2 16 Tryz.underlying57 infoS rfl (by decide) w.heap.size v8 xs.length _ rfl HOX.out (.slice (some ⟨T1 + 1, 0, none⟩) 1 1) 1 [.int .i64 ct, .int .i64 cv] rfl (leads_heap kX) rfl (by simp; exact ⟨rfl, rfl⟩) (by unfold maxLen; omega) (by omega) HBX.out.size ?_)
     intro v9 w9 hown9 hg9 _
     have HR9 := Bas.hid (HRX.out.kept hg9 (own_map HOX.out HRX.out.owns) (own_iter HOX.out HRX.out))
     have HB9 := Bas.hid (HBX.out.grown hg9 HBX.out.size (fun j hj => (Row.own_block HOX.out hj).1))
     have ho9 : w9.ownsRow w.heap.size 141 2 v9 (xs ++ [(ct, cv)]).length ((xs ++ [(ct, cv)]).flatMap setC) := by
      rw [List.length_append, List.flatMap_append]; exact hown9
     have HO9 := Bas.hid ho9
     clear hown9 hg9 ho9 HOX HBX HRX HB1 HO1 HRG1 kX hbX hen
     go_wp2_with (fail)
     go_roundw
     case rel => exact ⟨_, cnt1, xs ++ [(ct, cv)], v9, rfl, HR9.out, HME2.out, HO9.out, HB9.out⟩
     case measure => rw [HR9.out.left_eq, HRG.out.left_eq]; exact HLT.out
end Pk
end Go.Proofs.YtoncnjhhdlpliaaGreat
namespace Go.Proofs.YtoncnjhhdlpliaaGreat
open Go.RowKit
namespace Wr
open Vw
theorem num_cons (x : Int) (l : List Int) : num (x :: l) = x * 256 ^ l.length + num l := by
 have key : ∀ (l : List Int) (a : Int), l.foldl (fun n b => 256 * n + b) a = a * 256 ^ l.length + l.foldl (fun n b => 256 * n + b) 0 := by
  intro l
  induction l with
  | nil => intro a; simp
  | cons y l ih =>
   intro a
   simp only [List.foldl_cons, List.length_cons]
   rw [ih (256 * a + y), ih (256 * 0 + y)]
   rw [Int.pow_succ, Int.add_mul, Int.add_mul]
   have : 256 * a * 256 ^ l.length = a * (256 ^ l.length * 256) := by rw [Int.mul_comm 256 a, Int.mul_assoc, Int.mul_comm 256]
   omega
 unfold num
 simp only [List.foldl_cons]
 rw [key]
 simp
theorem num_putB (n : Int) (hn : 0 ≤ n) : ∀ k : Nat, num (putB n k) = n % 256 ^ k
 | 0 => by simp [putB, num]
 | k + 1 => by
  have ih := num_putB n hn k
  have hp : (0 : Int) < 256 ^ k := Int.pow_pos (by omega)
  rw [putB, num_cons, ih, putB_len, Int.pow_succ]
  have h1 := Int.mul_ediv_add_emod n (256 ^ k)
  have h2 := Int.mul_ediv_add_emod (n / 256 ^ k) 256
  have h3 := Int.emod_nonneg n (Int.ne_of_gt hp)
  have h4 := Int.emod_lt_of_pos n hp
  have h5 := Int.emod_nonneg (n / 256 ^ k) (show (256 : Int) ≠ 0 by omega)
  have h6 := Int.emod_lt_of_pos (n / 256 ^ k) (show (0 : Int) < 256 by omega)
  generalize n / 256 ^ k % 256 = r at *
  generalize n / 256 ^ k / 256 = q at *
  generalize n / 256 ^ k = d at *
  generalize n % 256 ^ k = t at *
  generalize (256 : Int) ^ k = P at *
  have e : n = (P * 256) * q + (r * P + t) := by
   rw [← h1, ← h2, Int.mul_add, ← Int.mul_assoc, Int.mul_comm P r]; omega
  have b1 : 0 ≤ r * P + t := Int.add_nonneg (Int.mul_nonneg h5 (Int.le_of_lt hp)) h3
  have b2 : r * P + t < P * 256 := by
   have h8 : r * P ≤ 255 * P := Int.mul_le_mul_of_nonneg_right (by omega) (Int.le_of_lt hp)
   omega
  rw [e, Int.mul_add_emod_self_left, Int.emod_eq_of_lt b1 b2]
theorem be_mid (pre post : List Int) (n : Int) (k p : Nat) (hp : p = pre.length) (h0 : 0 ≤ n) (h1 : n < 256 ^ k) : be (pre ++ (putB n k ++ post)) p k = n := by
 subst hp
 unfold be
 rw [List.drop_left]
 have : (putB n k ++ post).take k = putB n k := by
  rw [List.take_append_of_le_length (by rw [putB_len]; exact Nat.le_refl _), List.take_of_length_le (by rw [putB_len]; exact Nat.le_refl _)]
 rw [this, num_putB n h0, Int.emod_eq_of_lt h0 h1]
end Wr
end Go.Proofs.YtoncnjhhdlpliaaGreat
namespace Go.Proofs.YtoncnjhhdlpliaaGreat
open Go.RowKit
namespace Ch
open Vw Wr
theorem rules_back : ∀ (l : List RuleD) (pre post : List Int), (∀ r ∈ l, okRule r) →
  (List.range l.length).map (fun i => (⟨be (pre ++ (l.flatMap ruleB ++ post)) (pre.length + 12 * i) 2, be (pre ++ (l.flatMap ruleB ++ post)) (pre.length + 12 * i + 2) 2, be (pre ++ (l.flatMap ruleB ++ post)) (pre.length + 12 * i + 4) 4, be (pre ++ (l.flatMap ruleB ++ post)) (pre.length + 12 * i + 8) 4⟩ : RuleD)) = l
 | [], pre, post, _ => rfl
 | r :: l, pre, post, h => by
  obtain ⟨h1, h2, h3, h4⟩ := h r (by simp)
  have ih := rules_back l (pre ++ ruleB r) post (fun x hx => h x (by simp [hx]))
  have e : pre ++ ((r :: l).flatMap ruleB ++ post) = pre ++ ruleB r ++ (l.flatMap ruleB ++ post) := by simp [List.flatMap_cons, List.append_assoc]
  rw [List.length_cons, List.range_succ_eq_map, List.map_cons, List.map_map, e]
  congr 1
  ·have a1 := be_mid pre (putB r.value 2 ++ (putB r.enable 4 ++ (putB r.disable 4 ++ (l.flatMap ruleB ++ post)))) r.type 2 (pre.length + 12 * 0) (by omega) h1.1 (by omega)
   have a2 := be_mid (pre ++ putB r.type 2) (putB r.enable 4 ++ (putB r.disable 4 ++ (l.flatMap ruleB ++ post))) r.value 2 (pre.length + 12 * 0 + 2) (by simp [putB_len]) h2.1 (by omega)
   have a3 := be_mid (pre ++ putB r.type 2 ++ putB r.value 2) (putB r.disable 4 ++ (l.flatMap ruleB ++ post)) r.enable 4 (pre.length + 12 * 0 + 4) (by simp [putB_len]) h3.1 (by omega)
   have a4 := be_mid (pre ++ putB r.type 2 ++ putB r.value 2 ++ putB r.enable 4) (l.flatMap ruleB ++ post) r.disable 4 (pre.length + 12 * 0 + 8) (by simp [putB_len]) h4.1 (by omega)
   simp only [List.append_assoc, ruleB] at a1 a2 a3 a4 ⊢
   rw [a1, a2, a3, a4]
  ·refine Eq.trans ?_ ih
   apply List.map_congr_left
   intro i _
   have hl : (pre ++ ruleB r).length + 12 * i = pre.length + 12 * (i + 1) := by rw [List.length_append, ruleB_len]; omega
   simp only [Function.comp, hl, List.append_assoc, Nat.succ_eq_add_one]
def subsPos : Nat → List WSub → List SubD
 | _, [] => []
 | p, s :: l => ⟨s.cover, s.flags, p, 12 + s.data.length⟩ :: subsPos (p + (12 + s.data.length)) l
theorem subs_back : ∀ (l : List WSub) (pre post : List Int) (p : Nat), p = pre.length → (∀ s ∈ l, okSub s) → subsAt (pre ++ (l.flatMap subB ++ post)) l.length p = some (subsPos p l)
 | [], pre, post, p, _, _ => rfl
 | s :: l, pre, post, p, hp, h => by
  obtain ⟨h1, h2, _, h4⟩ := h s (by simp)
  have ih := subs_back l (pre ++ subB s) post (p + (12 + s.data.length)) (by rw [List.length_append, subB_len]; omega) (fun x hx => h x (by simp [hx]))
  have e : pre ++ ((s :: l).flatMap subB ++ post) = pre ++ subB s ++ (l.flatMap subB ++ post) := by simp [List.flatMap_cons, List.append_assoc]
  have a1 := be_mid pre (putB s.cover 4 ++ (putB s.flags 4 ++ (s.data ++ (l.flatMap subB ++ post)))) (12 + (s.data.length : Int)) 4 p hp (by omega) (by omega)
  have a2 := be_mid (pre ++ putB (12 + (s.data.length : Int)) 4) (putB s.flags 4 ++ (s.data ++ (l.flatMap subB ++ post))) s.cover 4 (p + 4) (by simp [putB_len, hp]) h1.1 (by omega)
  have a3 := be_mid (pre ++ putB (12 + (s.data.length : Int)) 4 ++ putB s.cover 4) (s.data ++ (l.flatMap subB ++ post)) s.flags 4 (p + 8) (by simp [putB_len, hp]) h2.1 (by omega)
  rw [List.length_cons, e, subsAt]
  have hlen : (pre ++ subB s ++ (l.flatMap subB ++ post)).length = p + (12 + s.data.length) + (l.flatMap subB ++ post).length := by rw [List.length_append, List.length_append, subB_len, hp]
  simp only [List.append_assoc, subB] at a1 a2 a3 ih hlen ⊢
  have ht : (12 + (s.data.length : Int)).toNat = 12 + s.data.length := by omega
  rw [a1, a2, a3, ht, if_pos ⟨by rw [hlen]; omega, by omega, by rw [hlen]; omega⟩, ih]
  rfl
theorem one_back (c : WChain) (h : okChain c) : parseOne (chainB c) = some ⟨c.first, c.rules, subsPos (16 + 12 * c.rules.length) c.subs⟩ := by
 have hil := inB_len_le c h
 obtain ⟨h1, h2, h3, h4, h5, h6⟩ := h
 have a0 := be_mid [] (putB (16 + ((inB c).length : Int)) 4 ++ (putB (c.rules.length : Int) 4 ++ (putB (c.subs.length : Int) 4 ++ inB c))) c.first 4 0 rfl h1.1 (by omega)
 have a8 := be_mid (putB c.first 4 ++ putB (16 + ((inB c).length : Int)) 4) (putB (c.subs.length : Int) 4 ++ inB c) (c.rules.length : Int) 4 8 (by simp [putB_len]) (by omega) (by omega)
 have a12 := be_mid (putB c.first 4 ++ putB (16 + ((inB c).length : Int)) 4 ++ putB (c.rules.length : Int) 4) (inB c) (c.subs.length : Int) 4 12 (by simp [putB_len]) (by omega) (by omega)
 have hr := rules_back c.rules (putB c.first 4 ++ putB (16 + ((inB c).length : Int)) 4 ++ putB (c.rules.length : Int) 4 ++ putB (c.subs.length : Int) 4) (c.subs.flatMap subB ++ List.replicate (c.more % 8).toNat 0) h3
 have hs := subs_back c.subs (putB c.first 4 ++ putB (16 + ((inB c).length : Int)) 4 ++ putB (c.rules.length : Int) 4 ++ putB (c.subs.length : Int) 4 ++ c.rules.flatMap ruleB) (List.replicate (c.more % 8).toNat 0) (16 + 12 * c.rules.length) (by
  have : (c.rules.flatMap ruleB).length = 12 * c.rules.length := by
   clear a0 a8 a12 hr
   generalize c.rules = l
   induction l with
   | nil => rfl
   | cons x l ih => rw [List.flatMap_cons, List.length_append, ruleB_len, ih, List.length_cons]; omega
  simp only [List.length_append, putB_len, this]) h4
 have hl16 : (putB c.first 4 ++ putB (16 + ((inB c).length : Int)) 4 ++ putB (c.rules.length : Int) 4 ++ putB (c.subs.length : Int) 4).length = 16 := by simp [putB_len]
 have hcl : (chainB c).length = 16 + (inB c).length := by unfold chainB; rw [List.length_append, hl16]
 have hri : 12 * c.rules.length ≤ (inB c).length := by
  have : (c.rules.flatMap ruleB).length = 12 * c.rules.length := by
   clear a0 a8 a12 hr hs hl16 hcl hil
   generalize c.rules = l
   induction l with
   | nil => rfl
   | cons x l ih => rw [List.flatMap_cons, List.length_append, ruleB_len, ih, List.length_cons]; omega
  unfold inB; simp only [List.length_append, this]; omega
 rw [hl16] at hr
 have e1 : chainB c = [] ++ (putB c.first 4 ++ (putB (16 + ((inB c).length : Int)) 4 ++ (putB (c.rules.length : Int) 4 ++ (putB (c.subs.length : Int) 4 ++ inB c)))) := by simp [chainB, List.append_assoc]
 have e2 : chainB c = putB c.first 4 ++ putB (16 + ((inB c).length : Int)) 4 ++ (putB (c.rules.length : Int) 4 ++ (putB (c.subs.length : Int) 4 ++ inB c)) := by simp [chainB, List.append_assoc]
 have e3 : chainB c = putB c.first 4 ++ putB (16 + ((inB c).length : Int)) 4 ++ putB (c.rules.length : Int) 4 ++ (putB (c.subs.length : Int) 4 ++ inB c) := by simp [chainB, List.append_assoc]
 have e4 : chainB c = putB c.first 4 ++ putB (16 + ((inB c).length : Int)) 4 ++ putB (c.rules.length : Int) 4 ++ putB (c.subs.length : Int) 4 ++ (c.rules.flatMap ruleB ++ (c.subs.flatMap subB ++ List.replicate (c.more % 8).toNat 0)) := by simp [chainB, inB, List.append_assoc]
 have e5 : chainB c = putB c.first 4 ++ putB (16 + ((inB c).length : Int)) 4 ++ putB (c.rules.length : Int) 4 ++ putB (c.subs.length : Int) 4 ++ c.rules.flatMap ruleB ++ (c.subs.flatMap subB ++ List.replicate (c.more % 8).toNat 0) := by simp [chainB, inB, List.append_assoc]
 rw [← e1] at a0
 rw [← e2] at a8
 rw [← e3] at a12
 rw [← e4] at hr
 rw [← e5] at hs
 unfold parseOne
 rw [a8, a12, a0, Int.toNat_natCast, Int.toNat_natCast, if_pos ⟨by omega, by omega⟩, hs]
 unfold rulesAt ruleAt
 rw [hr]
 rfl
def chainsPos : Nat → List WChain → List PlaceD
 | _, [] => []
 | p, c :: l => ⟨⟨c.first, c.rules, subsPos (16 + 12 * c.rules.length) c.subs⟩, p, (chainB c).length⟩ :: chainsPos (p + (chainB c).length) l
theorem chainB_size (c : WChain) (h : okChain c) (pre post : List Int) (p : Nat) (hp : p = pre.length) : be (pre ++ (chainB c ++ post)) (p + 4) 4 = ((chainB c).length : Int) ∧ 16 ≤ (chainB c).length := by
 have hil := inB_len_le c h
 have a := be_mid (pre ++ putB c.first 4) (putB (c.rules.length : Int) 4 ++ (putB (c.subs.length : Int) 4 ++ (inB c ++ post))) (16 + ((inB c).length : Int)) 4 (p + 4) (by simp [putB_len, hp]) (by omega) (by omega)
 have e : pre ++ (chainB c ++ post) = pre ++ putB c.first 4 ++ (putB (16 + ((inB c).length : Int)) 4 ++ (putB (c.rules.length : Int) 4 ++ (putB (c.subs.length : Int) 4 ++ (inB c ++ post)))) := by simp [chainB, List.append_assoc]
 have hl : (chainB c).length = 16 + (inB c).length := by simp [chainB, putB_len]; omega
 rw [e, a]
 omega
theorem chains_back : ∀ (l : List WChain) (pre post : List Int) (p : Nat), p = pre.length → (∀ c ∈ l, okChain c) → chainsAt (pre ++ (l.flatMap chainB ++ post)) l.length p = some (chainsPos p l)
 | [], pre, post, p, _, _ => rfl
 | c :: l, pre, post, p, hp, h => by
  have hc := h c (by simp)
  have ih := chains_back l (pre ++ chainB c) post (p + (chainB c).length) (by rw [List.length_append]; omega) (fun x hx => h x (by simp [hx]))
  have e : pre ++ ((c :: l).flatMap chainB ++ post) = pre ++ (chainB c ++ (l.flatMap chainB ++ post)) := by simp [List.flatMap_cons, List.append_assoc]
  obtain ⟨a1, a2⟩ := chainB_size c hc pre (l.flatMap chainB ++ post) p hp
  rw [List.append_assoc] at ih
  rw [List.length_cons, e, chainsAt, a1, Int.toNat_natCast]
  have hlen : (pre ++ (chainB c ++ (l.flatMap chainB ++ post))).length = p + (chainB c).length + (l.flatMap chainB ++ post).length := by simp only [List.length_append, hp]; omega
  have hpc : ((pre ++ (chainB c ++ (l.flatMap chainB ++ post))).drop p).take (chainB c).length = chainB c := by
   rw [hp, List.drop_left, List.take_append_of_le_length (Nat.le_refl _), List.take_length]
  rw [if_pos ⟨by rw [hlen]; omega, a2, by rw [hlen]; omega⟩, hpc, one_back c hc, ih]
  rfl
theorem head_parse (n : Nat) (hn : n ≤ 10) (post : List Int) : parseAll (headB n ++ post) = chainsAt (headB n ++ post) n 8 := by
 have a0 := be_mid [] (putB 0 2 ++ (putB (n : Int) 4 ++ post)) 2 2 0 rfl (by omega) (by omega)
 have a4 := be_mid (putB 2 2 ++ putB 0 2) post (n : Int) 4 4 (by simp [putB_len]) (by omega) (by omega)
 have e0 : headB n ++ post = [] ++ (putB 2 2 ++ (putB 0 2 ++ (putB (n : Int) 4 ++ post))) := by simp [headB, List.append_assoc]
 have e4 : headB n ++ post = putB 2 2 ++ putB 0 2 ++ (putB (n : Int) 4 ++ post) := by simp [headB, List.append_assoc]
 unfold parseAll
 rw [← e0] at a0
 rw [← e4] at a4
 rw [a0, a4, Int.toNat_natCast, if_pos ⟨by rw [List.length_append, headB_len]; omega, .inl rfl⟩]
theorem all_back (l : List WChain) (more : List Int) (hl : l.length ≤ 10) (h : ∀ c ∈ l, okChain c) : parseAll (writeB l ++ more) = some (chainsPos 8 l) := by
 unfold writeB
 rw [List.append_assoc, head_parse _ hl]
 exact chains_back l (headB l.length) more 8 (by rw [headB_len]) h
end Ch
end Go.Proofs.YtoncnjhhdlpliaaGreat
namespace Go.Proofs.YtoncnjhhdlpliaaGreat
open Go.RowKit
namespace Pk
open Ch Ft
def pC (f : FeatD) : List Value := [.int .i64 f.type, .bool f.excl, .int .i64 f.dflt, .slice none 0 0]
theorem pC_len (f : FeatD) : (pC f).length = 4 := rfl
theorem pC_snoc (fs : List FeatD) (k : Int) (x : Bool) : (fs ++ [(⟨k, x, -1, []⟩ : FeatD)]).flatMap pC = fs.flatMap pC ++ [.int .i64 k, .bool x, .int .i64 (-1), .slice none 0 0] := by
 rw [List.flatMap_append]; rfl
def fstep (k : Int) (x : Bool) (l : List FeatD) : List FeatD := if l.any (fun f => decide (f.type = k)) then l else l ++ [⟨k, x, -1, []⟩]
def featsN (K : Nat → Int) (X : Nat → Bool) : Nat → List FeatD
 | 0 => []
 | i + 1 => fstep (K i) (X i) (featsN K X i)
theorem featsN_len (K : Nat → Int) (X : Nat → Bool) : ∀ i, (featsN K X i).length ≤ i
 | 0 => Nat.le_refl _
 | i + 1 => by
  have := featsN_len K X i
  rw [featsN, fstep]
  split
  ·omega
  ·rw [List.length_append]; simp; omega
theorem infoR8 : (Tryz.prog.info? 138).map (fun i => (i.zero, i.size, i.bytes)) = some (some (.agg #[.int .i64 0, .bool false, .int .i64 0, .slice none 0 0]), 4, 48) := by kernel_rfl
set_option maxRecDepth 100000 in
set_option maxHeartbeats 16000000 in
theorem features_any (ka : Option Addr) (kn kc : Nat) (K : Nat → Int) (ba : Option Addr) (bn bc : Nat) (B : Nat → Bool) (w : World) (hkn : kn ≤ 1000000) (_hbn : bn ≤ 9223372036854775807)
  (hk : ∀ i, i < kn → (∃ b o, ka = some ⟨b, o, none⟩ ∧ w.cell? ⟨b, o + i, none⟩ = some (.int .u8 (K i))) ∧ 0 ≤ K i ∧ K i ≤ 255)
  (hb : ∀ i, i < bn → ∃ b o, ba = some ⟨b, o, none⟩ ∧ w.cell? ⟨b, o + i, none⟩ = some (.bool (B i))) :
  Calls Tryz.prog 40 #[.slice ka kn kc, .slice ba bn bc] w fun e w' => ∃ v6 v7 fs, e = .returned (.tuple #[v6, v7]) ∧ featsN K (fun i => decide (i < bn) && B i) kn = fs ∧ w'.ownsRow w.heap.size 137 4 v6 fs.length (fs.flatMap pC) ∧ w'.ownsRow w.heap.size 138 4 v7 fs.length (fs.flatMap pC) ∧ Below w.heap.size w w' := by
 have HKS := Bas.hid hk
 have HBS := Bas.hid hb
 clear hk hb
 go_enter Tryz.func40, Tryz.ntmps40
 go_wp2_with (fail)
 go_loopw [6, 7, 16] (fun v6 v7 vi wr => ∃ (i : Nat) (fs : List FeatD) (L : Nat) , i ≤ kn ∧ vi = .int .i64 i ∧ featsN K (fun i => decide (i < bn) && B i) i = fs ∧ fs.length = L ∧ wr.ownsRow w.heap.size 137 4 v6 L (fs.flatMap pC) ∧ wr.ownsRow w.heap.size 138 4 v7 L (fs.flatMap pC) ∧ Below w.heap.size w wr) (fun _ _ vi _ => kn - (intOf vi).toNat)
 case atStart => exact ⟨0, [], 0, Nat.zero_le _, rfl, rfl, rfl, Row.owned_nil _ _ _ _, Row.owned_nil _ _ _ _, Below.refl _ _⟩
 case round =>
  obtain ⟨i, fs, L, hi, rfl, hf, hfl, ho6, ho7, hb⟩ := hrel
  obtain ⟨a6, c6, rfl⟩ := own_slice ho6
  obtain ⟨a7, c7, rfl⟩ := own_slice ho7
  have hLi : L ≤ i := by rw [← hfl, ← hf]; exact featsN_len _ _ _
  have HF := Bas.hid hf
  have HFL := Bas.hid hfl
  have HO6 := Bas.hid ho6
  have HO7 := Bas.hid ho7
  have HB := Bas.hid hb
  clear hf hfl ho6 ho7 hb
  by_cases hin : i < kn
  ·have e1 : decide ((i : Int) < (kn : Int)) = true := by simp; omega
   have e2 : decide (i < kn) = true := by simp; omega
   obtain ⟨⟨b0, o0, hka, hck⟩, hk0, hk1⟩ := HKS.out i hin
   cases hka
   have lb : b0 < w.heap.size := World.block_lt_of_cell? _ _ hck
   have ck0 := (HB.out.cell (p := ⟨b0, o0 + i, none⟩) lb).trans hck
   have hst : featsN K (fun i => decide (i < bn) && B i) (i + 1) = fstep (K i) (decide (i < bn) && B i) (featsN K (fun i => decide (i < bn) && B i) i) := rfl
   obtain ⟨k, hkk⟩ : ∃ k, K i = k := ⟨_, rfl⟩
   rw [hkk] at ck0 hk0 hk1 hst
   clear hck hkk
   have hk64 : wrap64 k = k := by unfold wrap64; omega
   by_cases hbi : i < bn
   ·have e5 : decide ((i : Int) < (bn : Int)) = true := by simp; omega
    have e6 : decide (i < bn) = true := by simp; omega
    have E6 := Bas.hid e6
    obtain ⟨b1, o1, hba, hcb⟩ := HBS.out i hbi
    cases hba
    have lb1 : b1 < w.heap.size := World.block_lt_of_cell? _ _ hcb
    have cb0 := (HB.out.cell (p := ⟨b1, o1 + i, none⟩) lb1).trans hcb
    obtain ⟨bx, hbx⟩ : ∃ bx, B i = bx := ⟨_, rfl⟩
    rw [hbx] at cb0
    clear hcb
    have hxv : (decide (i < bn) && B i) = bx := by rw [E6.out]; rw [Bool.true_and]; exact hbx
    rw [hxv] at hst
    have HST := Bas.hid hst
    clear hxv hst
    clear hbx
    go_wp2_with (fail)
    go_loopw [11, 33] (fun va vb wi => ∃ (j : Nat) (kn' : Bool), j ≤ L ∧ va = .bool kn' ∧ vb = .int .i64 j ∧ (fs.take j).any (fun f => decide (f.type = k)) = kn' ∧ Below wr.heap.size wr wi) (fun _ vb _ => L - (intOf vb).toNat)
    case atStart => exact ⟨0, false, Nat.zero_le _, rfl, rfl, rfl, Below.refl _ _⟩
    case round =>
     obtain ⟨j, kn', hj, rfl, rfl, hkn, hbi⟩ := hrel
     have HKN := Bas.hid hkn
     have HBI := Bas.hid hbi
     clear hkn hbi
     by_cases hjl : j < L
     ·have e3 : decide ((j : Int) < (L : Int)) = true := by simp; omega
      have e4 : decide (j < L) = true := by simp; omega
      obtain ⟨f, hf⟩ : ∃ f, fs[j]? = some f := ⟨_, List.getElem?_eq_getElem (by rw [HFL.out]; exact hjl)⟩
      have hTK : fs.take (j + 1) = fs.take j ++ [f] := by rw [List.take_add_one, hf]; rfl
      have hany : (fs.take (j + 1)).any (fun f => decide (f.type = k)) = (kn' || decide (f.type = k)) := by rw [hTK, List.any_append, HKN.out]; simp
      obtain ⟨G, Og, cpg, hv, hcl⟩ := Row.leads_elem pC_len (Row.leads_owned (Row.owned_below HO6.out HBI.out)) hf (by omega)
      cases hv
      obtain ⟨ty, ex, df, ss⟩ := f
      have c0 := hcl 0 _ rfl
      have c1 := hcl 1 _ rfl
      have c2 := hcl 2 _ rfl
      have c3 := hcl 3 _ rfl
      simp only [Nat.add_zero] at c0
      simp only at hany
      clear hcl hf hTK
      cases kn' with
      | true =>
       simp only [Bool.true_or] at hany
       have HANY := Bas.hid hany
       clear hany
       go_wp2_with (fail)
       have HB2 := Bas.hid (HBI.out.alloc HBI.out.size (.cells #[.int .i64 ty, .bool ex, .int .i64 df, .slice none 0 0] 137))
       generalize wr.alloc (.cells #[.int .i64 ty, .bool ex, .int .i64 df, .slice none 0 0] 137) = W2 at *
       clear HBI
       go_roundw
       case rel => exact ⟨j + 1, true, by omega, rfl, by go_num, HANY.out, HB2.out⟩
       case measure => simp [intOf]; omega
      | false =>
       simp only [Bool.false_or] at hany
       have HANY := Bas.hid hany
       clear hany
       go_wp2_with (fail)
       have HB2 := Bas.hid (HBI.out.alloc HBI.out.size (.cells #[.int .i64 ty, .bool ex, .int .i64 df, .slice none 0 0] 137))
       generalize wr.alloc (.cells #[.int .i64 ty, .bool ex, .int .i64 df, .slice none 0 0] 137) = W2 at *
       clear HBI
       go_roundw
       case rel => exact ⟨j + 1, decide (ty = k), by omega, rfl, by go_num, HANY.out, HB2.out⟩
       case measure => simp [intOf]; omega
     ·have hjl2 : j = L := by omega
      subst hjl2
      have hlt : fs.take j = fs := List.take_of_length_le (by rw [HFL.out]; exact Nat.le_refl _)
      rw [hlt] at HKN
      have hst := HST.out
      unfold Hid at HST
      rw [HF.out] at hst
      unfold fstep at hst
      rw [HKN.out] at hst
      have HB7 := Bas.hid (HB.out.trans (HBI.out.mono HB.out.size))
      have HO61 := Bas.hid (Row.owned_below HO6.out HBI.out)
      have HO71 := Bas.hid (Row.owned_below HO7.out HBI.out)
      clear hlt hjl HST HBI HO6 HO7 HB
      cases kn' with
      | true =>
       simp only [if_true] at hst
       have HST := Bas.hid hst
       clear hst
       go_wp2_with (fail)
       go_roundw
       case rel => exact ⟨i + 1, fs, j, by omega, by go_num, HST.out, HFL.out, HO61.out, HO71.out, HB7.out⟩
       case measure => simp [intOf]; omega
      | false =>
       simp only [if_false, Bool.false_eq_true] at hst
       have HST := Bas.hid hst
       clear hst
       go_wp2_with (at_builtin; refine Row.fence ?_)
       refine Row.unfence ?_
       have k9 := Bas.heap_new wr (.cells #[.int .i64 k, .bool bx, .int .i64 (-1), .slice none 0 0] 137)
       have hb9 := (Below.refl wr.heap.size wr).alloc (Nat.le_refl _) (.cells #[.int .i64 k, .bool bx, .int .i64 (-1), .slice none 0 0] 137)
       have HB9 := Bas.hid (HB7.out.trans (hb9.mono HB7.out.size))
       have HO6 := Bas.hid (Row.owned_below HO61.out hb9)
       have HO7 := Bas.hid (Row.owned_below HO71.out hb9)
       generalize wr.alloc (.cells #[.int .i64 k, .bool bx, .int .i64 (-1), .slice none 0 0] 137) = W9 at *
       clear hb9 HB7 HO61 HO71
       refine (Row.append_any rfl _ _ 112 137 rfl (.agg #[.int .i64 0, .bool false, .int .i64 0, .slice none 0 0]) 4 48 Tryz.underlying112 infoFt rfl (by decide) w.heap.size (.slice a6 j c6) j _ rfl HO6.out (.slice (some ⟨wr.heap.size, 0, none⟩) 1 1) 1 [.int .i64 k, .bool bx, .int .i64 (-1), .slice none 0 0] rfl (leads_heap k9) rfl (by simp; exact ⟨rfl, rfl, rfl, rfl⟩) (by unfold maxLen; omega) (by omega) HB9.out.size ?_)
       intro v6 w10 hown10 hg10 _
       have HB10 := Bas.hid (HB9.out.grown hg10 HB9.out.size (fun g' hg' => (Row.own_block HO6.out hg').1))
       have HO70 := Bas.hid (Row.owned_keep HO7.out fun g' hg' => hg10.block g' (Row.own_block HO7.out hg').2 (fun e' => own_rows_ne HO6.out HO7.out (by decide) e'.symm hg'))
       have HO60 := Bas.hid hown10
       clear hown10 hg10 k9 HB9 HO6 HO7
       go_wp2_with (at_builtin; refine Row.fence ?_)
       refine Row.unfence ?_
       have k11 := Bas.heap_new w10 (.cells #[.int .i64 k, .bool bx, .int .i64 (-1), .slice none 0 0] 138)
       have hb11 := (Below.refl w10.heap.size w10).alloc (Nat.le_refl _) (.cells #[.int .i64 k, .bool bx, .int .i64 (-1), .slice none 0 0] 138)
       have HB11 := Bas.hid (HB10.out.trans (hb11.mono HB10.out.size))
       have HO6 := Bas.hid (Row.owned_below HO60.out hb11)
       have HO7 := Bas.hid (Row.owned_below HO70.out hb11)
       generalize w10.alloc (.cells #[.int .i64 k, .bool bx, .int .i64 (-1), .slice none 0 0] 138) = W11 at *
       clear hb11 HB10 HO60 HO70
       refine (Row.append_any rfl _ _ 65 138 rfl (.agg #[.int .i64 0, .bool false, .int .i64 0, .slice none 0 0]) 4 48 Tryz.underlying65 infoR8 rfl (by decide) w.heap.size (.slice a7 j c7) j _ rfl HO7.out (.slice (some ⟨w10.heap.size, 0, none⟩) 1 1) 1 [.int .i64 k, .bool bx, .int .i64 (-1), .slice none 0 0] rfl (leads_heap k11) rfl (by simp; exact ⟨rfl, rfl, rfl, rfl⟩) (by unfold maxLen; omega) (by omega) HB11.out.size ?_)
       intro v7 w12 hown12 hg12 _
       have HB12 := Bas.hid (HB11.out.grown hg12 HB11.out.size (fun g' hg' => (Row.own_block HO7.out hg').1))
       have HO62 := Bas.hid (Row.owned_keep HO6.out fun g' hg' => hg12.block g' (Row.own_block HO6.out hg').2 (fun e' => own_rows_ne HO7.out HO6.out (by decide) e'.symm hg'))
       have HO72 := Bas.hid hown12
       clear hown12 hg12 k11 HB11 HO6 HO7
       go_wp2_with (fail)
       go_roundw
       case rel => exact ⟨i + 1, fs ++ [⟨k, bx, -1, []⟩], j + 1, by omega, by go_num, HST.out, by rw [List.length_append, HFL.out]; rfl, by rw [pC_snoc]; exact HO62.out, by rw [pC_snoc]; exact HO72.out, HB12.out⟩
       case measure => simp [intOf]; omega
   ·have e5 : decide ((i : Int) < (bn : Int)) = false := by simp; omega
    have e6 : decide (i < bn) = false := by simp; omega
    have E6 := Bas.hid e6
    have hxv : (decide (i < bn) && B i) = false := by rw [E6.out]; rfl
    rw [hxv] at hst
    have HST := Bas.hid hst
    clear hxv hst
    go_wp2_with (fail)
    go_loopw [11, 33] (fun va vb wi => ∃ (j : Nat) (kn' : Bool), j ≤ L ∧ va = .bool kn' ∧ vb = .int .i64 j ∧ (fs.take j).any (fun f => decide (f.type = k)) = kn' ∧ Below wr.heap.size wr wi) (fun _ vb _ => L - (intOf vb).toNat)
    case atStart => exact ⟨0, false, Nat.zero_le _, rfl, rfl, rfl, Below.refl _ _⟩
    case round =>
     obtain ⟨j, kn', hj, rfl, rfl, hkn, hbi⟩ := hrel
     have HKN := Bas.hid hkn
     have HBI := Bas.hid hbi
     clear hkn hbi
     by_cases hjl : j < L
     ·have e3 : decide ((j : Int) < (L : Int)) = true := by simp; omega
      have e4 : decide (j < L) = true := by simp; omega
      obtain ⟨f, hf⟩ : ∃ f, fs[j]? = some f := ⟨_, List.getElem?_eq_getElem (by rw [HFL.out]; exact hjl)⟩
      have hTK : fs.take (j + 1) = fs.take j ++ [f] := by rw [List.take_add_one, hf]; rfl
      have hany : (fs.take (j + 1)).any (fun f => decide (f.type = k)) = (kn' || decide (f.type = k)) := by rw [hTK, List.any_append, HKN.out]; simp
      obtain ⟨G, Og, cpg, hv, hcl⟩ := Row.leads_elem pC_len (Row.leads_owned (Row.owned_below HO6.out HBI.out)) hf (by omega)
      cases hv
      obtain ⟨ty, ex, df, ss⟩ := f
      have c0 := hcl 0 _ rfl
      have c1 := hcl 1 _ rfl
      have c2 := hcl 2 _ rfl
      have c3 := hcl 3 _ rfl
      simp only [Nat.add_zero] at c0
      simp only at hany
      clear hcl hf hTK
      cases kn' with
      | true =>
       simp only [Bool.true_or] at hany
       have HANY := Bas.hid hany
       clear hany
       go_wp2_with (fail)
       have HB2 := Bas.hid (HBI.out.alloc HBI.out.size (.cells #[.int .i64 ty, .bool ex, .int .i64 df, .slice none 0 0] 137))
       generalize wr.alloc (.cells #[.int .i64 ty, .bool ex, .int .i64 df, .slice none 0 0] 137) = W2 at *
       clear HBI
       go_roundw
       case rel => exact ⟨j + 1, true, by omega, rfl, by go_num, HANY.out, HB2.out⟩
       case measure => simp [intOf]; omega
      | false =>
       simp only [Bool.false_or] at hany
       have HANY := Bas.hid hany
       clear hany
       go_wp2_with (fail)
       have HB2 := Bas.hid (HBI.out.alloc HBI.out.size (.cells #[.int .i64 ty, .bool ex, .int .i64 df, .slice none 0 0] 137))
       generalize wr.alloc (.cells #[.int .i64 ty, .bool ex, .int .i64 df, .slice none 0 0] 137) = W2 at *
       clear HBI
       go_roundw
       case rel => exact ⟨j + 1, decide (ty = k), by omega, rfl, by go_num, HANY.out, HB2.out⟩
       case measure => simp [intOf]; omega
     ·have hjl2 : j = L := by omega
      subst hjl2
      have hlt : fs.take j = fs := List.take_of_length_le (by rw [HFL.out]; exact Nat.le_refl _)
      rw [hlt] at HKN
      have hst := HST.out
      unfold Hid at HST
      rw [HF.out] at hst
      unfold fstep at hst
      rw [HKN.out] at hst
      have HB7 := Bas.hid (HB.out.trans (HBI.out.mono HB.out.size))
      have HO61 := Bas.hid (Row.owned_below HO6.out HBI.out)
      have HO71 := Bas.hid (Row.owned_below HO7.out HBI.out)
      clear hlt hjl HST HBI HO6 HO7 HB
      cases kn' with
      | true =>
       simp only [if_true] at hst
       have HST := Bas.hid hst
       clear hst
       go_wp2_with (fail)
       go_roundw
       case rel => exact ⟨i + 1, fs, j, by omega, by go_num, HST.out, HFL.out, HO61.out, HO71.out, HB7.out⟩
       case measure => simp [intOf]; omega
      | false =>
       simp only [if_false, Bool.false_eq_true] at hst
       have HST := Bas.hid hst
       clear hst
       go_wp2_with (at_builtin; refine Row.fence ?_)
       refine Row.unfence ?_
       have k9 := Bas.heap_new wr (.cells #[.int .i64 k, .bool false, .int .i64 (-1), .slice none 0 0] 137)
       have hb9 := (Below.refl wr.heap.size wr).alloc (Nat.le_refl _) (.cells #[.int .i64 k, .bool false, .int .i64 (-1), .slice none 0 0] 137)
       have HB9 := Bas.hid (HB7.out.trans (hb9.mono HB7.out.size))
       have HO6 := Bas.hid (Row.owned_below HO61.out hb9)
       have HO7 := Bas.hid (Row.owned_below HO71.out hb9)
       generalize wr.alloc (.cells #[.int .i64 k, .bool false, .int .i64 (-1), .slice none 0 0] 137) = W9 at *
       clear hb9 HB7 HO61 HO71
       refine (Row.append_any rfl _ _ 112 137 rfl (.agg #[.int .i64 0, .bool false, .int .i64 0, .slice none 0 0]) 4 48 Tryz.underlying112 infoFt rfl (by decide) w.heap.size (.slice a6 j c6) j _ rfl HO6.out (.slice (some ⟨wr.heap.size, 0, none⟩) 1 1) 1 [.int .i64 k, .bool false, .int .i64 (-1), .slice none 0 0] rfl (leads_heap k9) rfl (by simp; exact ⟨rfl, rfl, rfl, rfl⟩) (by unfold maxLen; omega) (by omega) HB9.out.size ?_)
       intro v6 w10 hown10 hg10 _
       have HB10 := Bas.hid (HB9.out.grown hg10 HB9.out.size (fun g' hg' => (Row.own_block HO6.out hg').1))
       have HO70 := Bas.hid (Row.owned_keep HO7.out fun g' hg' => hg10.block g' (Row.own_block HO7.out hg').2 (fun e' => own_rows_ne HO6.out HO7.out (by decide) e'.symm hg'))
       have HO60 := Bas.hid hown10
       clear hown10 hg10 k9 HB9 HO6 HO7
       go_wp2_with (at_builtin; refine Row.fence ?_)
       refine Row.unfence ?_
       have k11 := Bas.heap_new w10 (.cells #[.int .i64 k, .bool false, .int .i64 (-1), .slice none 0 0] 138)
       have hb11 := (Below.refl w10.heap.size w10).alloc (Nat.le_refl _) (.cells #[.int .i64 k, .bool false, .int .i64 (-1), .slice none 0 0] 138)
       have HB11 := Bas.hid (HB10.out.trans (hb11.mono HB10.out.size))
       have HO6 := Bas.hid (Row.owned_below HO60.out hb11)
       have HO7 := Bas.hid (Row.owned_below HO70.out hb11)
       generalize w10.alloc (.cells #[.int .i64 k, .bool false, .int .i64 (-1), .slice none 0 0] 138) = W11 at *
       clear hb11 HB10 HO60 HO70
       refine (Row.append_any rfl _ _ 65 138 rfl (.agg #[.int .i64 0, .bool false, .int .i64 0, .slice none 0 0]) 4 48 Tryz.underlying65 infoR8 rfl (by decide) w.heap.size (.slice a7 j c7) j _ rfl HO7.out (.slice (some ⟨w10.heap.size, 0, none⟩) 1 1) 1 [.int .i64 k, .bool false, .int .i64 (-1), .slice none 0 0] rfl (leads_heap k11) rfl (by simp; exact ⟨rfl, rfl, rfl, rfl⟩) (by unfold maxLen; omega) (by omega) HB11.out.size ?_)
       intro v7 w12 hown12 hg12 _
       have HB12 := Bas.hid (HB11.out.grown hg12 HB11.out.size (fun g' hg' => (Row.own_block HO7.out hg').1))
       have HO62 := Bas.hid (Row.owned_keep HO6.out fun g' hg' => hg12.block g' (Row.own_block HO6.out hg').2 (fun e' => own_rows_ne HO7.out HO6.out (by decide) e'.symm hg'))
       have HO72 := Bas.hid hown12
       clear hown12 hg12 k11 HB11 HO6 HO7
       go_wp2_with (fail)
       go_roundw
       case rel => exact ⟨i + 1, fs ++ [⟨k, false, -1, []⟩], j + 1, by omega, by go_num, HST.out, by rw [List.length_append, HFL.out]; rfl, by rw [pC_snoc]; exact HO62.out, by rw [pC_snoc]; exact HO72.out, HB12.out⟩
       case measure => simp [intOf]; omega
  ·have hin2 : i = kn := by omega
   subst hin2
   go_wp2_with (fail)
   refine bodyPost_ret (v := .tuple #[.slice a6 L c6, .slice a7 L c7]) (by simp [results, Tryz.results40, go_sem]) rfl ?_
   exact ⟨_, _, fs, rfl, HF.out, by rw [HFL.out]; exact HO6.out, by rw [HFL.out]; exact HO7.out, HB.out⟩
end Pk
end Go.Proofs.YtoncnjhhdlpliaaGreat
namespace Go.Proofs.YtoncnjhhdlpliaaGreat
open Go.RowKit Go.ChangeShapes Go.WideShapes Go.ChangeAt
namespace Bas
theorem flat_get_inv {α : Type} {f : α → List Value} {m : Nat} (hm : 0 < m) (hf : ∀ x, (f x).length = m) : ∀ (l : List α) (j : Nat) (u : Value), (l.flatMap f)[j]? = some u → ∃ i k x, j = i * m + k ∧ l[i]? = some x ∧ (f x)[k]? = some u
 | [], j, u, h => by simp at h
 | y :: l, j, u, h => by
  rw [List.flatMap_cons] at h
  by_cases hj : j < m
  ·rw [List.getElem?_append_left (by rw [hf]; exact hj)] at h
   exact ⟨0, j, y, by simp, rfl, h⟩
  ·rw [List.getElem?_append_right (by rw [hf]; omega), hf] at h
   obtain ⟨i, k, x, h1, h2, h3⟩ := flat_get_inv hm hf l (j - m) u h
   exact ⟨i + 1, k, x, by rw [Nat.add_mul]; omega, h2, h3⟩
theorem open_elems {α : Type} [Inhabited α] {f : α → List Value} {m : Nat} {good : α → Prop} (hm : 0 < m) (hf : ∀ x, (f x).length = m) {w : World} {base : Nat} {a : Addr} {len cap : Nat}
  (h : ∀ i, i < len → ∃ cs, w.cells? base (a.add (i * m)) m = some cs ∧ ∃ x, cs = f x ∧ good x) :
  ∃ l : List α, l.length = len ∧ Row.Leads w (.slice (some a) len cap) len (l.flatMap f) ∧ ∀ x ∈ l, good x := by
 obtain ⟨g, hg⟩ := Go.Deep.choose_lt (α := α) (n := len) (p := fun i x => w.cells? base (a.add (i * m)) m = some (f x) ∧ good x) (fun i hi => by
  obtain ⟨cs, h1, x, rfl, h3⟩ := h i hi
  exact ⟨x, h1, h3⟩)
 refine ⟨(List.range len).map g, by simp, .inr ⟨a, cap, rfl, fun j u hu => ?_⟩, fun x hx => ?_⟩
 ·obtain ⟨i, k, x, rfl, h2, h3⟩ := flat_get_inv hm hf _ j u hu
  have hi : i < len := by have := (List.getElem?_eq_some_iff.1 h2).1; simpa using this
  rw [List.getElem?_map, List.getElem?_range hi] at h2
  cases h2
  obtain ⟨_, _, hc⟩ := World.cells?_some (hg i hi).1
  have hk : k < m := by have := (List.getElem?_eq_some_iff.1 h3).1; rw [hf] at this; exact this
  have := hc k hk
  rw [Go.Deep.add_add] at this
  rw [this, h3]
 ·obtain ⟨i, hi, rfl⟩ := List.mem_map.1 hx
  exact (hg i (by simpa using hi)).2
section
variable {H : Type} {enc : TypeId × Value → H} {P : Program} {w : World} {base : Nat} {spare : Nat → Bool} {held : Bool}
theorem open_field {t : TypeId} {fs : Array Field} {fuel : Nat} {cs : List Value} {x : DataW H × List MemPlace} (k : Nat) (f : Field) (ht : P.underlying t = some (.struct fs)) (h : DataW.trod enc P w base spare held fuel t cs = some x) (hk : fs[k]? = some f) (hc : P.cellsOf f.type = 1) (ho : f.offset < P.cellsOf t) :
  cs.length = P.cellsOf t ∧ ∃ v y n, cs[f.offset]? = some v ∧ DataW.trod enc P w base spare held n f.type [v] = some y := by
 obtain ⟨xs, n, _, rfl, hl, hlen, hf⟩ := DataW.trod_struct ht h
 refine ⟨hl, ?_⟩
 have h1 := hf k f hk
 rw [hc] at h1
 have ho' : f.offset < cs.length := by rw [hl]; exact ho
 have e : (cs.drop f.offset).take 1 = [cs[f.offset]] := by
  rw [List.drop_eq_getElem_cons ho', List.take_succ_cons, List.take_zero]
 rw [e] at h1
 have hkx : k < xs.length := by
  have := (Array.getElem?_eq_some_iff.1 hk).1
  omega
 rw [List.getElem?_eq_getElem hkx] at h1
 exact ⟨_, _, _, List.getElem?_eq_getElem ho', h1⟩
theorem open_field_int {t : TypeId} {fs : Array Field} {fuel : Nat} {cs : List Value} {x : DataW H × List MemPlace} {kd : IntKind} (k : Nat) (f : Field) (ht : P.underlying t = some (.struct fs)) (h : DataW.trod enc P w base spare held fuel t cs = some x) (hk : fs[k]? = some f) (hc : P.cellsOf f.type = 1) (ho : f.offset < P.cellsOf t) (hi : P.underlying f.type = some (.int kd)) :
  ∃ n, cs[f.offset]? = some (.int kd n) ∧ (Lit.int kd n).wf = true := by
 obtain ⟨_, v, y, m, h1, h2⟩ := open_field k f ht h hk hc ho
 obtain ⟨n, e, _, hw⟩ := DataW.trod_int hi h2
 cases e
 exact ⟨n, h1, hw⟩
theorem open_bytes {t e : TypeId} {fuel : Nat} {v : Value} {x : DataW H × List MemPlace} (ht : P.underlying t = some (.slice e)) (he : P.underlying e = some (.int .u8)) (hc : P.cellsOf e = 1) (h : DataW.trod enc P w base (fun _ => true) held fuel t [v] = some x) :
  ∃ a len cap zs, v = .slice a len cap ∧ Bas.IsRow .u8 w a len cap zs := by
 rcases open_ints ht he hc h with ⟨hcs, _⟩ | ⟨x, l, c, zs, hcs, _, hl, hm, hz, _, hcell, hwz⟩
 ·cases hcs
  exact ⟨none, 0, 0, [], rfl, .inl ⟨rfl, rfl, rfl, rfl⟩⟩
 ·cases hcs
  exact ⟨_, _, _, zs, rfl, .inr ⟨_, rfl, hl, hm, by simpa using hz, hcell, hwz⟩⟩
end
end Bas
end Go.Proofs.YtoncnjhhdlpliaaGreat
namespace Go.Proofs.YtoncnjhhdlpliaaGreat
open Go.RowKit Go.ChangeShapes Go.WideShapes Go.ChangeAt
namespace Pk
open Vw
structure CaseOk (w : World) (a : Option Addr) (n c : Nat) (ka : Option Addr) (kn kc : Nat) (ba : Option Addr) (bn bc : Nat) (l : List (Int × Int)) (K : Nat → Int) (B : Nat → Bool) : Prop where
 leads : Row.Leads w (.slice a n c) n (l.flatMap setC)
 len : l.length = n
 wf : ∀ s ∈ l, wf64 s
 kinds : ∀ i, i < kn → (∃ b o, ka = some ⟨b, o, none⟩ ∧ w.cell? ⟨b, o + i, none⟩ = some (.int .u8 (K i))) ∧ 0 ≤ K i ∧ K i ≤ 255
 excl : ∀ i, i < bn → ∃ b o, ba = some ⟨b, o, none⟩ ∧ w.cell? ⟨b, o + i, none⟩ = some (.bool (B i))
 n63 : n ≤ 9223372036854775807
 k63 : kn ≤ 9223372036854775807
 b63 : bn ≤ 9223372036854775807
theorem list2 {c : List Value} (h : c.length = 2) {a b : Value} (h0 : c[0]? = some a) (h1 : c[1]? = some b) : c = [a, b] := by
 match c, h with
 | [x, y], _ => simp at h0 h1; subst h0 h1; rfl
section
variable {H : Type} {enc : TypeId × Value → H} {w : World} {base : Nat} {held : Bool}
theorem open_settings {fuel : Nat} {v : Value} {x : DataW H × List MemPlace} (h : DataW.trod enc Tryz.prog w base (fun _ => true) held fuel 57 [v] = some x) :
  ∃ (a : Option Addr) (n c : Nat) (l : List (Int × Int)), v = .slice a n c ∧ n ≤ 9223372036854775807 ∧ l.length = n ∧ Row.Leads w (.slice a n c) n (l.flatMap setC) ∧ ∀ s ∈ l, wf64 s := by
 rcases Go.Deep.open_slice Tryz.underlying57 h with ⟨h0, _⟩ | ⟨a, len, cap, m, n, D, Pl, h0, _, hl, hm, hmm, _, hx⟩
 ·cases h0
  exact ⟨none, 0, 0, [], rfl, by omega, rfl, .inl ⟨rfl, rfl, rfl⟩, fun r hr => by cases hr⟩
 ·cases h0
  have hc2 : Tryz.prog.cellsOf 141 = 2 := by kernel_rfl
  rw [hc2] at hx
  obtain ⟨l, h1, h2, h3⟩ := Bas.open_elems (f := setC) (good := wf64) (by omega) setC_len (w := w) (base := base) (a := a) (len := len) (cap := cap) (fun i hi => by
   obtain ⟨cs, e1, e2⟩ := hx i (by rw [hmm]; simp; omega)
   refine ⟨cs, e1, ?_⟩
   obtain ⟨_, hlen, _⟩ := World.cells?_some e1
   obtain ⟨n0, f0, w0⟩ := Bas.open_field_int (kd := .i64) 0 _ Tryz.underlying141 e2 rfl (by kernel_rfl) (by rw [hc2]; decide) (by kernel_rfl)
   obtain ⟨n1, f1, w1⟩ := Bas.open_field_int (kd := .i64) 1 _ Tryz.underlying141 e2 rfl (by kernel_rfl) (by rw [hc2]; decide) (by kernel_rfl)
   exact ⟨(n0, n1), list2 hlen f0 f1, w0, w1⟩)
  exact ⟨_, len, cap, l, rfl, by unfold maxLen at hm; omega, h1, h2, h3⟩
theorem open_bls {fuel : Nat} {v : Value} {x : DataW H × List MemPlace} (h : DataW.trod enc Tryz.prog w base (fun _ => true) held fuel 58 [v] = some x) :
  ∃ a len cap B, v = .slice a len cap ∧ Bas.IsBools w a len cap B := by
 rcases Go.Deep.open_bools Tryz.underlying58 Tryz.underlying4 (by kernel_rfl) h with ⟨hcs, _⟩ | ⟨x, l, c, B, hcs, _, hl, hm, _, hcell⟩
 ·cases hcs
  exact ⟨none, 0, 0, fun _ => false, rfl, Nat.le_refl _, Nat.zero_le _, fun i hi => by omega⟩
 ·cases hcs
  exact ⟨_, l, c, B, rfl, hl, hm, fun i hi => ⟨_, _, congrArg some (Bas.spot_add ⟨_, hcell 0 (by omega)⟩ (hcell i (by omega))).1, (Bas.spot_add ⟨_, hcell 0 (by omega)⟩ (hcell i (by omega))).2⟩⟩
end
end Pk
end Go.Proofs.YtoncnjhhdlpliaaGreat
namespace Go.Proofs.YtoncnjhhdlpliaaGreat
open Go.RowKit
namespace Pk
open Ch Ft Go.Maps
theorem caseOk_below {w w' : World} {a : Option Addr} {n c : Nat} {ka : Option Addr} {kn kc : Nat} {ba : Option Addr} {bn bc : Nat} {l : List (Int × Int)} {K : Nat → Int} {B : Nat → Bool} (h : CaseOk w a n c ka kn kc ba bn bc l K B) (hb : Below w.heap.size w w') : CaseOk w' a n c ka kn kc ba bn bc l K B :=
 ⟨Row.leads_below h.leads hb, h.len, h.wf, fun i hi => by
  obtain ⟨⟨b, o, h1, h2⟩, h3⟩ := h.kinds i hi
  exact ⟨⟨b, o, h1, (hb.cell (p := ⟨b, o + i, none⟩) (World.block_lt_of_cell? _ _ h2)).trans h2⟩, h3⟩, fun i hi => by
  obtain ⟨b, o, h1, h2⟩ := h.excl i hi
  exact ⟨b, o, h1, (hb.cell (p := ⟨b, o + i, none⟩) (World.block_lt_of_cell? _ _ h2)).trans h2⟩, h.n63, h.k63, h.b63⟩
theorem zip_nil : ∀ fs : List FeatD, (fs.zip (fs.map fun _ => Value.slice none 0 0)).flatMap fC = fs.flatMap pC
 | [] => rfl
 | f :: fs => by
  rw [List.map_cons, List.zip_cons_cons, List.flatMap_cons, List.flatMap_cons, zip_nil fs]; rfl
theorem featsN_sets (K : Nat → Int) (X : Nat → Bool) : ∀ i, ∀ f ∈ featsN K X i, f.sets = []
 | 0, f, hf => by cases hf
 | i + 1, f, hf => by
  rw [featsN, fstep] at hf
  split at hf
  ·exact featsN_sets K X i f hf
  ·rcases List.mem_append.1 hf with h | h
   ·exact featsN_sets K X i f h
   ·simp at h; subst h; rfl
theorem feats_frow {K : Nat → Int} {X : Nat → Bool} {i : Nat} {fs : List FeatD} {w : World} {base : Nat} {v : Value} (h : featsN K X i = fs) (ho : w.ownsRow base 137 4 v fs.length (fs.flatMap pC)) : FRow w base v fs (fs.map fun _ => .slice none 0 0) := by
 refine ⟨by simp, by rw [zip_nil]; exact ho, fun j f s hf hs => ?_⟩
 rw [List.getElem?_map, hf] at hs
 cases hs
 have := featsN_sets K X i f (by rw [h]; exact List.mem_of_getElem? hf)
 rw [this]
 exact Row.owned_nil _ _ _ _
end Pk
end Go.Proofs.YtoncnjhhdlpliaaGreat
namespace Go.Proofs.YtoncnjhhdlpliaaGreat
open Go.RowKit
namespace Mx
open Vw Ch Lk St Ln Dr Rr Sw Cx In Lg Wr
theorem flat_byteM {α : Type} {f : α → List Int} : ∀ (l : List α), (∀ a ∈ l, ∀ x ∈ f a, 0 ≤ x ∧ x ≤ 255) → ∀ x ∈ l.flatMap f, 0 ≤ x ∧ x ≤ 255 := fun l h x hx => by
 obtain ⟨a, ha, hx⟩ := List.mem_flatMap.1 hx
 exact h a ha x hx
theorem writeB_byteM (l : List WChain) (h : ∀ c ∈ l, okChain c) : ∀ x ∈ writeB l, 0 ≤ x ∧ x ≤ 255 := by
 have P := putB_byte
 have hin : ∀ c ∈ l, ∀ x ∈ inB c, 0 ≤ x ∧ x ≤ 255 := fun c hc x hx => by
  obtain ⟨_, _, h3, h4, _⟩ := h c hc
  simp only [inB, List.mem_append] at hx
  rcases hx with (hx | hx) | hx
  ·refine flat_byteM _ (fun r _ y hy => ?_) x hx
   simp only [ruleB, List.mem_append] at hy
   rcases hy with ((hy | hy) | hy) | hy <;> exact P _ _ y hy
  ·refine flat_byteM _ (fun s hs y hy => ?_) x hx
   simp only [subB, List.mem_append] at hy
   rcases hy with ((hy | hy) | hy) | hy
   ·exact P _ _ y hy
   ·exact P _ _ y hy
   ·exact P _ _ y hy
   ·exact (h4 s hs).2.2.1 y hy
  ·rw [List.mem_replicate] at hx; omega
 intro x hx
 simp only [writeB, headB, List.mem_append] at hx
 rcases hx with ((hx | hx) | hx) | hx
 ·exact P _ _ x hx
 ·exact P _ _ x hx
 ·exact P _ _ x hx
 ·refine flat_byteM _ (fun c hc y hy => ?_) x hx
  simp only [chainB, List.mem_append] at hy
  rcases hy with (((hy | hy) | hy) | hy) | hy
  ·exact P _ _ y hy
  ·exact P _ _ y hy
  ·exact P _ _ y hy
  ·exact P _ _ y hy
  ·exact hin c hc y hy
theorem writeB_lenM (l : List WChain) (hl : l.length ≤ 10) (h : ∀ c ∈ l, okChain c) : 8 ≤ (writeB l).length ∧ (writeB l).length ≤ 46238 := by
 have := Row.flat_len_le chainB 4623 l (fun c hc => chainB_len_le c (h c hc))
 simp only [writeB, List.length_append, headB_len]
 omega
def oneM : List WChain := [⟨1, [], [⟨4, 1, [0, 8, 0, 5, 0, 1, 0, 7]⟩], 0⟩]
def oneT : List MChain := [⟨1, [], [⟨4, 1, .swap [⟨5, 5, [7]⟩]⟩]⟩]
theorem oneM_ok : ∀ c ∈ oneM, okChain c := by
 intro c hc
 simp only [oneM, List.mem_singleton] at hc
 subst hc
 refine ⟨by decide, by decide, fun r hr => ?_, fun s hs => ?_, by decide, by decide⟩
 ·cases hr
 ·simp only [List.mem_singleton] at hs; subst hs; exact ⟨by decide, by decide, by decide, by decide⟩
set_option maxRecDepth 100000 in
theorem oneM_parse : morxParse (writeB oneM) 9 = some oneT := by kernel_rfl
theorem oneT_flags : flagsOf oneT [] = [1] := by kernel_rfl
theorem oneT_run (F : WkF) (hF : ∀ ps left xs, F (.swap ps) left xs = ((swapRun ps xs).1, (0, (swapRun ps xs).2))) : chainsRun F 0 (oneT.zip [1]) 0 [(5, 0), (6, 1), (65535, 2)] 0 = ([(7, 0), (6, 1)], none) := by
 have ha : asks 1 0 ⟨4, 1, .swap [⟨5, 5, [7]⟩]⟩ = true := by kernel_rfl
 have ht : turnedOf 0 ⟨4, 1, .swap [⟨5, 5, [7]⟩]⟩ = false := by kernel_rfl
 have hr : runSub F 0 ⟨4, 1, .swap [⟨5, 5, [7]⟩]⟩ 0 [(5, 0), (6, 1), (65535, 2)] = ([(7, 0), (6, 1), (65535, 2)], (0, 0)) := by
  unfold runSub
  rw [ht]
  simp only
  rw [hF]
  kernel_rfl
 change chainsRun F 0 [(⟨1, [], [⟨4, 1, .swap [⟨5, 5, [7]⟩]⟩]⟩, 1)] 0 _ 0 = _
 rw [chainsRun_cons]
 simp only
 rw [subsRun_yes ha, hr]
 simp only [if_true, subsRun]
 kernel_rfl
def preLen (n : Nat) (xs : List Gl) (_ : Int) : Prop := xs.length ≤ n
theorem swapRun_len (ps : List PartD) (xs : List Gl) : (swapRun ps xs).1.length = xs.length := by unfold swapRun; simp
theorem oneT_ok (lf : LigD → List Gl → List Gl × Int) (inf : InsD → Int → List Gl → List Gl × (Int × Int)) : RunOk (fWork lf inf) (preLen 1000000) 0 oneT (flagsOf oneT []) := by
 intro i c fl hc hf s hs _
 have hi : i = 0 := by
  have := (List.getElem?_eq_some_iff.1 hc).1
  simp [oneT] at this; omega
 subst hi
 cases hc
 simp only [List.mem_singleton] at hs
 subst hs
 refine ⟨does_swap (fun xs left h => h) ⟨fun p hp => ?_, by kernel_rfl⟩ (by decide), fun xs left h => ?_⟩
 ·simp only [List.mem_singleton] at hp
  subst hp
  exact ⟨by decide, by decide, by decide, by decide, by decide, by decide⟩
 ·unfold preLen at h ⊢
  have hl : (runSub (fWork lf inf) 0 ⟨4, 1, .swap [⟨5, 5, [7]⟩]⟩ left xs).1.length = xs.length := by
   unfold runSub
   cases turnedOf 0 ⟨4, 1, .swap [⟨5, 5, [7]⟩]⟩ <;> simp [fWork, swapRun_len]
  rw [hl, List.length_reverse]
  exact ⟨h, by omega, h⟩
end Mx
end Go.Proofs.YtoncnjhhdlpliaaGreat
namespace Go.Proofs.YtoncnjhhdlpliaaGreat
open Go.RowKit
namespace Mx
open Vw Ch Lk St Ln Dr Rr Sw Cx In Lg Wr
def lf0 : LigD → List Gl → List Gl × Int := fun _ xs => (xs, 0)
def inf0 : InsD → Int → List Gl → List Gl × (Int × Int) := fun _ _ xs => (xs, (0, 0))
set_option maxRecDepth 100000 in
set_option maxHeartbeats 8000000 in
theorem mspeaks_any (w : World) : Calls Tryz.prog 15 #[] w fun e w' => e = .returned (.bool true) ∧ Below w.heap.size w w' := by
 have WR := fun v w' h => write_any v oneM w' (by decide) oneM_ok h
 have HWR := Bas.hid WR
 clear WR
 go_enter Tryz.func15, Tryz.ntmps15
 go_wp2_with (fail)
 generalize hW2 : w.alloc (.cells #[.int .u8 0, .int .u8 8, .int .u8 0, .int .u8 5, .int .u8 0, .int .u8 1, .int .u8 0, .int .u8 7] 5) = W2
 have s2 : W2.heap.size = w.heap.size + 1 := by rw [← hW2]; simp
 have b2 : W2.heap[w.heap.size]? = some (.cells #[.int .u8 0, .int .u8 8, .int .u8 0, .int .u8 5, .int .u8 0, .int .u8 1, .int .u8 0, .int .u8 7] 5 (0, 0)) := by rw [← hW2]; exact Bas.heap_new _ _
 have B2 : Below w.heap.size w W2 := by rw [← hW2]; exact (Below.refl _ _).alloc (Nat.le_refl _) _
 generalize hW3 : W2.alloc (.cells #[.int .u32 4, .int .u32 1, .slice (some ⟨w.heap.size, 0, none⟩) 8 8] 44) = W3
 have s3 : W3.heap.size = w.heap.size + 1 + 1 := by rw [← hW3]; simp [s2]
 have b3 : W3.heap[w.heap.size]? = some (.cells #[.int .u8 0, .int .u8 8, .int .u8 0, .int .u8 5, .int .u8 0, .int .u8 1, .int .u8 0, .int .u8 7] 5 (0, 0)) := by rw [← hW3, Below.heap_alloc _ _ _ (by omega)]; exact b2
 have c3 : W3.heap[w.heap.size + 1]? = some (.cells #[.int .u32 4, .int .u32 1, .slice (some ⟨w.heap.size, 0, none⟩) 8 8] 44 (0, 0)) := by rw [← hW3, ← s2]; exact Bas.heap_new _ _
 have B3 : Below w.heap.size w W3 := by rw [← hW3]; exact B2.alloc (by omega) _
 generalize hW4 : W3.alloc (.cells #[.int .u32 1, .slice none 0 0, .slice (some ⟨w.heap.size + 1, 0, none⟩) 1 1, .int .u8 0] 31) = W4
 have b4 : W4.heap[w.heap.size]? = some (.cells #[.int .u8 0, .int .u8 8, .int .u8 0, .int .u8 5, .int .u8 0, .int .u8 1, .int .u8 0, .int .u8 7] 5 (0, 0)) := by rw [← hW4, Below.heap_alloc _ _ _ (by omega)]; exact b3
 have c4 : W4.heap[w.heap.size + 1]? = some (.cells #[.int .u32 4, .int .u32 1, .slice (some ⟨w.heap.size, 0, none⟩) 8 8] 44 (0, 0)) := by rw [← hW4, Below.heap_alloc _ _ _ (by omega)]; exact c3
 have d4 : W4.heap[w.heap.size + 1 + 1]? = some (.cells #[.int .u32 1, .slice none 0 0, .slice (some ⟨w.heap.size + 1, 0, none⟩) 1 1, .int .u8 0] 31 (0, 0)) := by rw [← hW4, ← s3]; exact Bas.heap_new _ _
 have B4 : Below w.heap.size w W4 := by rw [← hW4]; exact B3.alloc (by omega) _
 clear hW2 hW3 hW4 s2 s3 b2 b3 c3 B2 B3
 have hin : WChains W4 (.slice (some ⟨w.heap.size + 1 + 1, 0, none⟩) 1 1) oneM := by
  refine ⟨[(.slice none 0 0, .slice (some ⟨w.heap.size + 1, 0, none⟩) 1 1)], rfl, leads_heap d4, fun i c r hc hr => ?_⟩
  have hi : i = 0 := by
   have := (List.getElem?_eq_some_iff.1 hc).1
   simp [oneM] at this; omega
  subst hi
  cases hc; cases hr
  refine ⟨.inl ⟨rfl, rfl, rfl⟩, [.slice (some ⟨w.heap.size, 0, none⟩) 8 8], rfl, leads_heap c4, fun j s d hs hd => ?_⟩
  have hj : j = 0 := by
   have := (List.getElem?_eq_some_iff.1 hs).1
   simp at this; omega
  subst hj
  cases hs; cases hd
  refine ⟨_, _, rfl, ⟨by simp, by simp, fun i hi => ?_⟩, by simp, by simp [maxLen], by simp⟩
  refine ⟨_, _, rfl, cell_of_heap b4 ?_⟩
  simp only [Nat.zero_add]
  match i, hi with
  | 0, _ => rfl
  | 1, _ => rfl
  | 2, _ => rfl
  | 3, _ => rfl
  | 4, _ => rfl
  | 5, _ => rfl
  | 6, _ => rfl
  | 7, _ => rfl
 refine (HWR.out _ W4 hin).mono ?_
 rintro e w1 ⟨v1, rfl, hown, hb⟩
 have hwl := writeB_lenM oneM (by decide) oneM_ok
 obtain ⟨g, cg, rfl, hgb, hgl, hgc, hgm, hvg, -⟩ := owned hown (fun e => by
  rcases Row.owned_parts hown with ⟨_, h0, _⟩ | ⟨_, _, h0, _⟩
  ·omega
  ·rw [h0] at e; cases e) rfl (writeB_byteM oneM oneM_ok) (by omega)
 have HB1 := Bas.hid (B4.trans (hb.mono B4.size))
 have HRD := Bas.hid (mread_any (some ⟨g, 0, none⟩) _ cg (writeB oneM) 9 w1 hgc hgm hvg rfl (by omega) (by simp) (by omega) (by omega))
 clear hown hb hin b4 c4 d4 B4 HWR hvg hgc hgm hgl hgb hwl
 go_wp2_with (fail)
 refine HRD.out.mono ?_
 rintro e w2 ⟨hb2, h⟩
 rw [oneM_parse] at h
 obtain ⟨p, rfl, hlv⟩ := h
 have HB2 := Bas.hid (HB1.out.trans (hb2.mono HB1.out.size))
 have hat := hlv.now
 obtain ⟨gt, vl, rs, hpe, hgt, hrest⟩ := id hat
 cases hpe
 have HAT := Bas.hid hat
 clear hb2 hlv HRD HB1 hat hrest hgt
 go_wp2_with (fail)
 have k3 := Bas.heap_new w2 (.cells #[.int .i64 5, .int .i64 6, .int .i64 65535] 3)
 have hb3 := (Below.refl w2.heap.size w2).alloc (Nat.le_refl _) (.cells #[.int .i64 5, .int .i64 6, .int .i64 65535] 3)
 have HB3 := Bas.hid hb3
 have hld3 : Row.Leads (w2.alloc (.cells #[.int .i64 5, .int .i64 6, .int .i64 65535] 3)) (.slice (some ⟨w2.heap.size, 0, none⟩) 3 3) 3 (([5, 6, 65535] : List Int).map (Value.int .i64)) := leads_heap k3
 have HLD3 := Bas.hid hld3
 clear k3 hb3 hld3
 generalize (w2.alloc (.cells #[.int .i64 5, .int .i64 6, .int .i64 65535] 3)) = W3 at *
 refine (new_any _ [5, 6, 65535] 3 W3 HLD3.out rfl (by omega)).mono ?_
 rintro e w4 ⟨rfl, hb4, sv, hL⟩
 have HB4 := Bas.hid (HB3.out.trans (hb4.mono HB3.out.size))
 have HL := Bas.hid hL
 obtain ⟨G, hG⟩ : ∃ G, W3.heap.size = G := ⟨_, rfl⟩
 have hGlo : w2.heap.size ≤ G := by rw [← hG]; exact HB3.out.size
 rw [hG] at HL ⊢
 clear hb4 hL hG HLD3
 go_wp2_with (fail)
 have hnil : ∀ u : World, Row.Leads u (.slice none 0 0) ([] : List (Int × Int)).length (([] : List (Int × Int)).flatMap Pk.setC) := fun u => .inl ⟨rfl, rfl, rfl⟩
 refine (mflags_any _ _ oneT [] w4 (HAT.out.below HB4.out) (by decide) (by decide) (hnil _) List.Pairwise.nil (by decide)).mono ?_
 rintro e w5 ⟨hb5, vf, rfl, hof⟩
 rw [oneT_flags] at hof
 have hof2 : w5.ownsRow w4.heap.size 27 1 vf 1 (([1] : List Int).flatMap fun x : Int => [Value.int .u32 x]) := hof
 obtain ⟨gf, cf, hvf, hgf, hgf2, -, hcf⟩ := Row.elem_cells (f := fun x : Int => [Value.int .u32 x]) (fun _ => rfl) hof2 (i := 0) (x := 1) rfl (by decide) rfl
 subst hvf
 have HB5 := Bas.hid (HB4.out.trans (hb5.mono HB4.out.size))
 have HL5 := Bas.hid (HL.out.below hb5)
 have HFC := Bas.hid (hcf 0 _ rfl)
 clear hb5 hof hof2 hcf
 go_wp2_with (fail)
 refine (mrun_any (fWork lf0 inf0) (preLen 1000000) (fun xs left h => h) _ _ oneT [] 0 0 G G sv (lnNew [5, 6, 65535]) w2 w5 HAT.out (by decide) (by decide) (by decide) (hnil _) List.Pairwise.nil (by decide) HB5.out hGlo HL5.out (by unfold preLen; decide) (oneT_ok lf0 inf0)).mono ?_
 rintro e w6 ⟨rfl, hto⟩
 rw [oneT_flags] at hto ⊢
 have hln : lnNew [5, 6, 65535] = [(5, 0), (6, 1), (65535, 2)] := by kernel_rfl
 rw [hln, oneT_run (fWork lf0 inf0) (fun _ _ _ => rfl)] at hto ⊢
 have hfv : faultV none = .agg #[.int .i64 0, .int .i64 0, .int .i64 0] := rfl
 have hq : w6.cell? ⟨gf, 0, none⟩ = some (.int .u32 1) := by
  refine (World.cell?_of_block (lnTo_block hto hgf2 (fun hk => ?_))).trans HFC.out
  have h1 := (HL.out.blk_low gf hk).2
  omega
 have lq := World.block_lt_of_cell? _ _ hq
 obtain ⟨sv6, hL6, hm6, -⟩ := id hto
 have HB6 := Bas.hid (hm6.below HB5.out (fun k hk => Nat.le_trans hGlo (HL5.out.blk_low k hk).1) HB5.out.size)
 have HL6 := Bas.hid hL6
 have hbF := (Below.refl w6.heap.size w6).alloc (Nat.le_refl _) (.cells #[.int .i64 0, .int .i64 0, .int .i64 0] 36)
 have kF := Bas.heap_new w6 (.cells #[.int .i64 0, .int .i64 0, .int .i64 0] 36)
 have HBF := Bas.hid hbF
 have f0 := cell_of_heap (i := 0) kF rfl
 have f1 := cell_of_heap (i := 1) kF rfl
 have f2 := cell_of_heap (i := 2) kF rfl
 have lF := heap_lt kF
 rw [hfv]
 clear hto hL6 hm6 hbF kF hnil
 go_wp2_with (fail)
 generalize (w6.alloc (.cells #[.int .i64 0, .int .i64 0, .int .i64 0] 36)) = W7 at *
 refine (glyphs_any G G sv6 [(7, 0), (6, 1)] W7 (HL6.out.below HBF.out) (by decide)).mono ?_
 rintro e w8 ⟨hb8, v8, rfl, ho8⟩
 have HB8 := Bas.hid ((HB6.out.trans (HBF.out.mono HB6.out.size)).trans (hb8.mono (Nat.le_trans HB6.out.size HBF.out.size)))
 have HO8 := Bas.hid ho8
 obtain ⟨a8, c8, rfl⟩ := own_slice ho8
 clear hb8 ho8 f0 f1 f2 lF hq lq
 go_wp2_with (fail)
 have k9 := Bas.heap_new w8 (.cells #[.int .i64 7, .int .i64 0, .int .i64 6, .int .i64 1] 47)
 have hb9 := (Below.refl w8.heap.size w8).alloc (Nat.le_refl _) (.cells #[.int .i64 7, .int .i64 0, .int .i64 6, .int .i64 1] 47)
 have HB9 := Bas.hid (HB8.out.trans (hb9.mono HB8.out.size))
 have hl1 := Row.leads_below (Row.leads_owned HO8.out) hb9
 have hl2 : Row.Leads (w8.alloc (.cells #[.int .i64 7, .int .i64 0, .int .i64 6, .int .i64 1] 47)) (.slice (some ⟨w8.heap.size, 0, none⟩) 2 2) 2 (([(7, 0), (6, 1)] : List Gl).flatMap glC) := leads_heap k9
 have HL1 := Bas.hid hl1
 have HL2 := Bas.hid hl2
 clear hl1 hl2 hb9 k9
 generalize (w8.alloc (.cells #[.int .i64 7, .int .i64 0, .int .i64 6, .int .i64 1] 47)) = W9 at *
 refine (rsame_any _ _ [(7, 0), (6, 1)] 2 W9 HL1.out HL2.out rfl (by omega)).mono ?_
 rintro e w10 ⟨rfl, hb10⟩
 have HB10 := Bas.hid (HB2.out.trans ((HB9.out.trans (hb10.mono HB9.out.size)).mono HB2.out.size))
 clear hb10
 go_wp2_with (fail)
 go_ret
 exact ⟨rfl, HB10.out⟩
end Mx
end Go.Proofs.YtoncnjhhdlpliaaGreat
namespace Go.Proofs.YtoncnjhhdlpliaaGreat
open Go.RowKit
namespace Mx
open Vw Ch Ft Pk Lk
theorem results_tmp_cell {fn : Func} {p u : Tmp} {ty : TypeId} (h : fn.results = #[.tmp u, .cell p ty]) (tmps : Array Value) (P : Program) (w : World) :
  (results fn tmps).run P w = ((asAddr (tmps.getD p undef)).run P w).andThen fun a w1 => ((loadVar ty a).run P w1).andThen fun v w2 => .ok (.tuple #[tmps.getD u undef, v]) w2 := by
 simp only [results, h]
 simp [Sem.run_bind, Result.andThen]
set_option maxRecDepth 100000 in
set_option maxHeartbeats 8000000 in
theorem settled_any (a : Option Addr) (n c : Nat) (ka : Option Addr) (kn kc : Nat) (ba : Option Addr) (bn bc : Nat) (l : List (Int × Int)) (K : Nat → Int) (B : Nat → Bool) (dir left : Int) (ida : Option Addr) (idn idc : Nat) (w : World) (hok : CaseOk w a n c ka kn kc ba bn bc l K B) (hn : n ≤ 40) (hkn : kn ≤ 20) :
  Calls Tryz.prog 23 #[.agg #[.slice a n c, .slice ka kn kc, .slice ba bn bc, .int .i64 dir, .int .i64 left, .slice ida idn idc]] w
   fun e w' => ∃ (v : Value) (a7 : Option Addr) (n7 c7 : Nat) (ys : List (Int × Int)), e = .returned (.tuple #[v, .agg #[.slice a n c, .slice a7 n7 c7, .int .i64 dir]]) ∧ ys.Pairwise (fun x y => ltP x y = true) ∧ ys.length ≤ 40 ∧ w'.ownsRow w.heap.size 141 2 v ys.length (ys.flatMap setC) ∧ Below w.heap.size w w' := by
 have kA := (Below.heap_alloc (w.alloc (.cells #[.slice a n c, .slice ka kn kc, .slice ba bn bc, .int .i64 dir, .int .i64 left, .slice ida idn idc] 62)) (.cells #[.slice none 0 0, .slice none 0 0, .int .i64 0] 67) w.heap.size (by simp)).trans (Bas.heap_new w (.cells #[.slice a n c, .slice ka kn kc, .slice ba bn bc, .int .i64 dir, .int .i64 left, .slice ida idn idc] 62))
 have kR := Bas.heap_new2 w (.cells #[.slice a n c, .slice ka kn kc, .slice ba bn bc, .int .i64 dir, .int .i64 left, .slice ida idn idc] 62) (.cells #[.slice none 0 0, .slice none 0 0, .int .i64 0] 67)
 have hb1 := ((Below.refl w.heap.size w).alloc (Nat.le_refl _) (.cells #[.slice a n c, .slice ka kn kc, .slice ba bn bc, .int .i64 dir, .int .i64 left, .slice ida idn idc] 62)).alloc (by simp) (.cells #[.slice none 0 0, .slice none 0 0, .int .i64 0] 67)
 have HB1 := Bas.hid hb1
 have HOK := Bas.hid hok
 have HKA := Bas.hid kA
 have HKR := Bas.hid kR
 have c0 := cell_of_heap (i := 0) kA rfl
 have c1 := cell_of_heap (i := 1) kA rfl
 have c2 := cell_of_heap (i := 2) kA rfl
 have lA := heap_lt kA
 clear hb1 hok kA kR
 go_enter Tryz.func23, Tryz.ntmps23
 go_wp2_with (fail)
 generalize ((w.alloc (.cells #[.slice a n c, .slice ka kn kc, .slice ba bn bc, .int .i64 dir, .int .i64 left, .slice ida idn idc] 62)).alloc (.cells #[.slice none 0 0, .slice none 0 0, .int .i64 0] 67)) = W2 at *
 have hok2 := caseOk_below HOK.out HB1.out
 refine (features_any ka kn kc K ba bn bc B W2 (by omega) HOK.out.b63 hok2.kinds hok2.excl).mono ?_
 rintro e w3 ⟨v6, v7, fs, rfl, hfs, ho6, ho7, hb3⟩
 have kA3 := (hb3.block _ (heap_lt HKA.out)).trans HKA.out
 have kR3 := (hb3.block _ (heap_lt HKR.out)).trans HKR.out
 have HB3 := Bas.hid (HB1.out.trans (hb3.mono HB1.out.size))
 have hfl : fs.length ≤ 20 := by rw [← hfs]; exact Nat.le_trans (featsN_len _ _ _) hkn
 have HFR := Bas.hid (feats_frow hfs ho6)
 obtain ⟨a6, c6, rfl⟩ := own_slice ho6
 obtain ⟨a7, c7, rfl⟩ := own_slice ho7
 have HKA3 := Bas.hid kA3
 have HKR3 := Bas.hid kR3
 have c0 := cell_of_heap (i := 0) kA3 rfl
 have c3 := cell_of_heap (i := 3) kA3 rfl
 have lA3 := heap_lt kA3
 clear hb3 hfs ho6 ho7 hok2 kA3 kR3 HKA HKR lA
 go_wp2_with (fail)
 obtain ⟨RI, RF, Ri, RF0, RFk, RFw⟩ := Pl.fam_of w3 (fun u => u.heap[w.heap.size]? = some (.cells #[.slice a n c, .slice ka kn kc, .slice ba bn bc, .int .i64 dir, .int .i64 left, .slice ida idn idc] 62 (0, 0))) HKA3.out
 have RFH := Bas.hid RF0
 have RhI : Nonempty RI := ⟨Ri⟩
 have RFW := Bas.hid RFw
 have z0 := fun i => cell_of_heap (i := 0) (v := .slice a n c) (RFk i) rfl
 have z3 := fun i => cell_of_heap (i := 3) (v := .int .i64 dir) (RFk i) rfl
 have zl := fun i => heap_lt (RFk i)
 clear RF0 RFw RFk c0 c3 lA3
 refine Pl.region_plan0 Ri [(true, 0), (true, 1), (true, 2), (true, 3), (true, 5), (true, 6), (true, 7), (true, 8), (true, 9), (true, 10), (true, 11), (false, 4), (true, 12), (false, 13)] [13] (by kernel_rfl) (by kernel_rfl) (fun _ _ _ _ e h => ⟨e ▸ h.1, h.2⟩) RFH.out ?_
 refine Pl.head_sel0 [(true, 0), (true, 1), (true, 2), (true, 3), (true, 5), (true, 6), (true, 7), (true, 8), (true, 9), (true, 10), (true, 11)] (by kernel_rfl) (by kernel_rfl) ?_
 simp only [Pl.sel, List.drop_succ_cons, List.drop_zero]
 repeat (go_big_quiet_step (fail))
 refine wpQuiet_nil ?_
 rw [← RFH.out]
 clear z0 z3 zl
 refine Pl.one_sel (by kernel_rfl) ?_
 intro Q' hQ' hP'
 simp only [Pl.sel, List.drop_succ_cons, List.drop_zero]
 go_wp2_with (fail)
 have hbd3 : Below w3.heap.size w3 w3.drew := Bas.below_drewN (Below.refl w3.heap.size w3) 1
 have hbw3 : Below w.heap.size w w3.drew := HB3.out.trans (hbd3.mono HB3.out.size)
 have hok3 := caseOk_below HOK.out hbw3
 refine (settle_any a n c l _ fs (fs.map fun _ => .slice none 0 0) W2.heap.size w3.drew hok3.leads hok3.len (by omega) (fRow_below HFR.out hbd3) (by omega) hok3.wf).mono ?_
 rintro e w4 ⟨v, ys, rfl, his, hown, hb4⟩
 have hyl : ys.length ≤ 40 := by have := isSet_len his; rw [hok3.len] at this; omega
 have HP := Bas.hid his.1
 have HOW := Bas.hid (Row.owned_base hown hbw3.size)
 have hb34 := hbd3.trans hb4
 have HB4 := Bas.hid (hbw3.trans (hb4.mono hbw3.size))
 have kA4 := (hb34.block _ (heap_lt HKA3.out)).trans HKA3.out
 have kR4 := (hb34.block _ (heap_lt HKR3.out)).trans HKR3.out
 obtain ⟨va, vc, rfl⟩ := own_slice hown
 clear hbd3 hbw3 hok3 his hown hb34 hb4
 go_wp2_with (fail)
 refine hQ' _ _ (fun _ _ => RFW.out _ kA4) ?_
 clear hQ' hP' Q' RFW kA4
 refine Pl.head_sel0 [(true, 12)] (by kernel_rfl) (by kernel_rfl) ?_
 simp only [Pl.sel, List.drop_succ_cons, List.drop_zero]
 repeat (go_big_quiet_step (fail))
 refine wpQuiet_nil ?_
 refine Pl.tail_sel [(false, 13)] (by kernel_rfl) (by kernel_rfl) ?_
 simp only [Pl.sel, List.drop_succ_cons, List.drop_zero]
 have r0 := cell_of_heap (i := 0) kR4 rfl
 have r1 := cell_of_heap (i := 1) kR4 rfl
 have r2 := cell_of_heap (i := 2) kR4 rfl
 have p0 := free_of_heap (i := 0) kR4
 have p1 := free_of_heap (i := 1) kR4
 have p2 := free_of_heap (i := 2) kR4
 have lR := heap_lt kR4
 go_wp2_with (fail)
 clear r0 r1 r2 p0 p1 p2 lR
 have k8 := setF kR4 (.slice a n c) (.slice a7 fs.length c7) (.int .i64 dir)
 have hwR : w.heap.size ≤ w.heap.size + 1 := by omega
 have HB8 := Bas.hid (((HB4.out.setCell (p := ⟨w.heap.size + 1, 0, none⟩) hwR (.slice a n c)).setCell (p := ⟨w.heap.size + 1, 1, none⟩) hwR (.slice a7 fs.length c7)).setCell (p := ⟨w.heap.size + 1, 2, none⟩) hwR (.int .i64 dir))
 have HO8 : Hid ((((w4.setCell ⟨w.heap.size + 1, 0, none⟩ (.slice a n c)).setCell ⟨w.heap.size + 1, 1, none⟩ (.slice a7 fs.length c7)).setCell ⟨w.heap.size + 1, 2, none⟩ (.int .i64 dir)).ownsRow w.heap.size 141 2 (.slice va ys.length vc) ys.length (ys.flatMap setC)) :=
  Row.owned_keep HOW.out fun g hg => by
   have hne : g ≠ w.heap.size + 1 := fun e => own_ty HOW.out kR4 (by decide) (by rw [hg, e])
   exact (Below.heap_setCell _ _ _ _ hne).trans ((Below.heap_setCell _ _ _ _ hne).trans (Below.heap_setCell _ _ _ _ hne))
 clear kR4
 generalize (((w4.setCell ⟨w.heap.size + 1, 0, none⟩ (.slice a n c)).setCell ⟨w.heap.size + 1, 1, none⟩ (.slice a7 fs.length c7)).setCell ⟨w.heap.size + 1, 2, none⟩ (.int .i64 dir)) = w8 at *
 have c0 := cell_of_heap (i := 0) k8 rfl
 have c1 := cell_of_heap (i := 1) k8 rfl
 have c2 := cell_of_heap (i := 2) k8 rfl
 refine bodyPost_ret (v := .tuple #[.slice va ys.length vc, .agg #[.slice a n c, .slice a7 fs.length c7, .int .i64 dir]]) ?_ rfl ⟨_, _, _, _, ys, rfl, HP.out, hyl, HO8.out, HB8.out⟩
 rw [results_tmp_cell rfl]
 go_simp
end Mx
end Go.Proofs.YtoncnjhhdlpliaaGreat
namespace Go.Proofs.YtoncnjhhdlpliaaGreat
open Go.RowKit Go.ChangeShapes Go.WideShapes Go.ChangeAt
namespace Ch
open Vw Wr
def WData0 (w : World) (v : Value) (D : List Int) : Prop := ∃ a len cap zs, v = .slice a len cap ∧ Bas.IsRow .u8 w a len cap zs ∧ D = zs.take len
def WSubs0 (w : World) (v : Value) (l : List WSub) : Prop := ∃ ds : List Value, ds.length = l.length ∧ Row.Leads w v l.length ((l.zip ds).flatMap wSubC) ∧ ∀ (j : Nat) (s : WSub) (d : Value), l[j]? = some s → ds[j]? = some d → WData0 w d s.data
def WChains0 (w : World) (v : Value) (l : List WChain) : Prop := ∃ rs : List (Value × Value), rs.length = l.length ∧ Row.Leads w v l.length ((l.zip rs).flatMap wChainC) ∧
 ∀ (i : Nat) (c : WChain) (r : Value × Value), l[i]? = some c → rs[i]? = some r → Row.Leads w r.1 c.rules.length (c.rules.flatMap wRuleC) ∧ WSubs0 w r.2 c.subs
def rgSub (s : WSub) : Prop := (0 ≤ s.cover ∧ s.cover ≤ 4294967295) ∧ (0 ≤ s.flags ∧ s.flags ≤ 4294967295) ∧ (∀ x ∈ s.data, 0 ≤ x ∧ x ≤ 255)
def rgChain (c : WChain) : Prop := (0 ≤ c.first ∧ c.first ≤ 4294967295) ∧ (0 ≤ c.more ∧ c.more ≤ 255) ∧ (∀ r ∈ c.rules, okRule r) ∧ (∀ s ∈ c.subs, rgSub s)
theorem WData0.len {w : World} {v : Value} {D : List Int} (h : WData0 w v D) : ∃ a cap, v = .slice a D.length cap := by
 obtain ⟨a, len, cap, zs, rfl, hz, rfl⟩ := h
 have : (zs.take len).length = len := by
  rcases hz with ⟨rfl, rfl, rfl, rfl⟩ | ⟨x, rfl, hl, hm, hz, _⟩
  ·rfl
  ·rw [List.length_take]; omega
 exact ⟨a, cap, by rw [this]⟩
instance : Inhabited RuleD := ⟨⟨0, 0, 0, 0⟩⟩
instance : Inhabited WSub := ⟨⟨0, 0, []⟩⟩
instance : Inhabited WChain := ⟨⟨0, [], [], 0⟩⟩
theorem zip_self {α β : Type} (l : List (α × β)) : (l.map Prod.fst).zip (l.map Prod.snd) = l := by
 induction l with
 | nil => rfl
 | cons x l ih => simp [ih]
theorem list3 {c : List Value} (h : c.length = 3) {a b d : Value} (h0 : c[0]? = some a) (h1 : c[1]? = some b) (h2 : c[2]? = some d) : c = [a, b, d] := by
 match c, h with
 | [x, y, z], _ => simp at h0 h1 h2; subst h0 h1 h2; rfl
theorem list4 {c : List Value} (h : c.length = 4) {a b d e : Value} (h0 : c[0]? = some a) (h1 : c[1]? = some b) (h2 : c[2]? = some d) (h3 : c[3]? = some e) : c = [a, b, d, e] := by
 match c, h with
 | [x, y, z, t], _ => simp at h0 h1 h2 h3; subst h0 h1 h2 h3; rfl
section
variable {H : Type} {enc : TypeId × Value → H} {w : World} {base : Nat} {held : Bool}
theorem open_rules {fuel : Nat} {v : Value} {x : DataW H × List MemPlace} (h : DataW.trod enc Tryz.prog w base (fun _ => true) held fuel 28 [v] = some x) :
  ∃ l : List RuleD, Row.Leads w v l.length (l.flatMap wRuleC) ∧ ∀ r ∈ l, okRule r := by
 rcases Go.Deep.open_slice Tryz.underlying28 h with ⟨h0, _⟩ | ⟨a, len, cap, m, n, D, Pl, h0, _, hl, hm, hmm, _, hx⟩
 ·cases h0
  exact ⟨[], .inl ⟨rfl, rfl, rfl⟩, fun r hr => by cases hr⟩
 ·cases h0
  have hc4 : Tryz.prog.cellsOf 111 = 4 := by kernel_rfl
  rw [hc4] at hx
  obtain ⟨l, h1, h2, h3⟩ := Bas.open_elems (f := wRuleC) (good := okRule) (by omega) wRuleC_len (w := w) (base := base) (a := a) (len := len) (cap := cap) (fun i hi => by
   obtain ⟨cs, e1, e2⟩ := hx i (by rw [hmm]; simp; omega)
   refine ⟨cs, e1, ?_⟩
   obtain ⟨_, hlen, _⟩ := World.cells?_some e1
   obtain ⟨n0, f0, w0⟩ := Bas.open_field_int (kd := .u16) 0 _ Tryz.underlying111 e2 rfl (by kernel_rfl) (by rw [hc4]; decide) (by kernel_rfl)
   obtain ⟨n1, f1, w1⟩ := Bas.open_field_int (kd := .u16) 1 _ Tryz.underlying111 e2 rfl (by kernel_rfl) (by rw [hc4]; decide) (by kernel_rfl)
   obtain ⟨n2, f2, w2⟩ := Bas.open_field_int (kd := .u32) 2 _ Tryz.underlying111 e2 rfl (by kernel_rfl) (by rw [hc4]; decide) (by kernel_rfl)
   obtain ⟨n3, f3, w3⟩ := Bas.open_field_int (kd := .u32) 3 _ Tryz.underlying111 e2 rfl (by kernel_rfl) (by rw [hc4]; decide) (by kernel_rfl)
   exact ⟨⟨n0, n1, n2, n3⟩, list4 hlen f0 f1 f2 f3, Bas.wf_u16 w0, Bas.wf_u16 w1, Bas.wf_u32 w2, Bas.wf_u32 w3⟩)
  subst h1
  exact ⟨l, h2, h3⟩
theorem open_subs {fuel : Nat} {v : Value} {x : DataW H × List MemPlace} (h : DataW.trod enc Tryz.prog w base (fun _ => true) held fuel 29 [v] = some x) :
  ∃ l : List WSub, WSubs0 w v l ∧ ∀ s ∈ l, rgSub s := by
 rcases Go.Deep.open_slice Tryz.underlying29 h with ⟨h0, _⟩ | ⟨a, len, cap, m, n, D, Pl, h0, _, hl, hm, hmm, _, hx⟩
 ·cases h0
  exact ⟨[], ⟨[], rfl, .inl ⟨rfl, rfl, rfl⟩, fun j s d hs => by simp at hs⟩, fun r hr => by cases hr⟩
 ·cases h0
  have hc3 : Tryz.prog.cellsOf 44 = 3 := by kernel_rfl
  rw [hc3] at hx
  obtain ⟨l, h1, h2, h3⟩ := Bas.open_elems (f := wSubC) (good := fun x => WData0 w x.2 x.1.data ∧ rgSub x.1) (by omega) wSubC_len (w := w) (base := base) (a := a) (len := len) (cap := cap) (fun i hi => by
   obtain ⟨cs, e1, e2⟩ := hx i (by rw [hmm]; simp; omega)
   refine ⟨cs, e1, ?_⟩
   obtain ⟨_, hlen, _⟩ := World.cells?_some e1
   obtain ⟨n0, f0, w0⟩ := Bas.open_field_int (kd := .u32) 0 _ Tryz.underlying44 e2 rfl (by kernel_rfl) (by rw [hc3]; decide) (by kernel_rfl)
   obtain ⟨n1, f1, w1⟩ := Bas.open_field_int (kd := .u32) 1 _ Tryz.underlying44 e2 rfl (by kernel_rfl) (by rw [hc3]; decide) (by kernel_rfl)
   obtain ⟨_, v2, y2, m2, f2, t2⟩ := Bas.open_field 2 _ Tryz.underlying44 e2 rfl (by kernel_rfl) (by rw [hc3]; decide)
   obtain ⟨a2, l2, c2, z2, rfl, hz⟩ := Bas.open_bytes (e := 5) (by kernel_rfl) Tryz.underlying5 (by kernel_rfl) t2
   refine ⟨(⟨n0, n1, z2.take l2⟩, .slice a2 l2 c2), list3 hlen f0 f1 f2, ⟨_, _, _, _, rfl, hz, rfl⟩, Bas.wf_u32 w0, Bas.wf_u32 w1, fun y hy => ?_⟩
   rcases hz with ⟨rfl, rfl, rfl, rfl⟩ | ⟨q, rfl, _, _, _, _, hwz⟩
   ·cases hy
   ·exact Bas.wf_u8 (hwz y (List.mem_of_mem_take hy)))
  subst h1
  refine ⟨l.map Prod.fst, ⟨l.map Prod.snd, by simp, by rw [zip_self, List.length_map]; exact h2, fun j s d hs hd => ?_⟩, fun s hs => ?_⟩
  ·rw [List.getElem?_map] at hs hd
   cases hj : l[j]? with
   | none => rw [hj] at hs; cases hs
   | some y =>
    rw [hj] at hs hd
    cases hs; cases hd
    exact (h3 y (List.mem_of_getElem? hj)).1
  ·obtain ⟨y, hy, rfl⟩ := List.mem_map.1 hs
   exact (h3 y hy).2
theorem open_chains {fuel : Nat} {v : Value} {x : DataW H × List MemPlace} (h : DataW.trod enc Tryz.prog w base (fun _ => true) held fuel 22 [v] = some x) :
  ∃ l : List WChain, WChains0 w v l ∧ ∀ c ∈ l, rgChain c := by
 rcases Go.Deep.open_slice Tryz.underlying22 h with ⟨h0, _⟩ | ⟨a, len, cap, m, n, D, Pl, h0, _, hl, hm, hmm, _, hx⟩
 ·cases h0
  exact ⟨[], ⟨[], rfl, .inl ⟨rfl, rfl, rfl⟩, fun j s d hs => by simp at hs⟩, fun r hr => by cases hr⟩
 ·cases h0
  have hc4 : Tryz.prog.cellsOf 31 = 4 := by kernel_rfl
  rw [hc4] at hx
  obtain ⟨l, h1, h2, h3⟩ := Bas.open_elems (f := wChainC) (good := fun x => (Row.Leads w x.2.1 x.1.rules.length (x.1.rules.flatMap wRuleC) ∧ WSubs0 w x.2.2 x.1.subs) ∧ rgChain x.1) (by omega) wChainC_len (w := w) (base := base) (a := a) (len := len) (cap := cap) (fun i hi => by
   obtain ⟨cs, e1, e2⟩ := hx i (by rw [hmm]; simp; omega)
   refine ⟨cs, e1, ?_⟩
   obtain ⟨_, hlen, _⟩ := World.cells?_some e1
   obtain ⟨n0, f0, w0⟩ := Bas.open_field_int (kd := .u32) 0 _ Tryz.underlying31 e2 rfl (by kernel_rfl) (by rw [hc4]; decide) (by kernel_rfl)
   obtain ⟨_, v1, y1, m1, f1, t1⟩ := Bas.open_field 1 _ Tryz.underlying31 e2 rfl (by kernel_rfl) (by rw [hc4]; decide)
   obtain ⟨_, v2, y2, m2, f2, t2⟩ := Bas.open_field 2 _ Tryz.underlying31 e2 rfl (by kernel_rfl) (by rw [hc4]; decide)
   obtain ⟨n3, f3, w3⟩ := Bas.open_field_int (kd := .u8) 3 _ Tryz.underlying31 e2 rfl (by kernel_rfl) (by rw [hc4]; decide) (by kernel_rfl)
   obtain ⟨lr, hr1, hr2⟩ := open_rules t1
   obtain ⟨ls, hs1, hs2⟩ := open_subs t2
   exact ⟨(⟨n0, lr, ls, n3⟩, (v1, v2)), list4 hlen f0 f1 f2 f3, ⟨hr1, hs1⟩, Bas.wf_u32 w0, Bas.wf_u8 w3, hr2, hs2⟩)
  subst h1
  refine ⟨l.map Prod.fst, ⟨l.map Prod.snd, by simp, by rw [zip_self, List.length_map]; exact h2, fun j s d hs hd => ?_⟩, fun s hs => ?_⟩
  ·rw [List.getElem?_map] at hs hd
   cases hj : l[j]? with
   | none => rw [hj] at hs; cases hs
   | some y =>
    rw [hj] at hs hd
    cases hs; cases hd
    exact (h3 y (List.mem_of_getElem? hj)).1
  ·obtain ⟨y, hy, rfl⟩ := List.mem_map.1 hs
   exact (h3 y hy).2
end
end Ch
end Go.Proofs.YtoncnjhhdlpliaaGreat
namespace Go.Proofs.YtoncnjhhdlpliaaGreat
open Go.RowKit
namespace Mx
open Vw Ch
def szIdle (c : WChain) : Prop := c.rules.length ≤ 20 ∧ c.subs.length ≤ 5 ∧ ∀ s ∈ c.subs, s.data.length ≤ 400
theorem WData0_up {w : World} {v : Value} {D : List Int} (h : WData0 w v D) (hl : D.length ≤ 400) : WData w v D := by
 obtain ⟨a, len, cap, zs, rfl, hz, rfl⟩ := h
 have hlen : (zs.take len).length = len := by
  rcases hz with ⟨rfl, rfl, rfl, rfl⟩ | ⟨x, rfl, hl, hm, hz, _⟩
  ·rfl
  ·rw [List.length_take]; omega
 rw [hlen] at hl
 obtain ⟨h1, h2, h3, h4, h5⟩ := VB_of_row hz (by omega)
 exact ⟨a, cap, by rw [hlen], h1, by rw [hlen]; exact h3, h4, h5⟩
theorem WChains0_up {w : World} {v : Value} {l : List WChain} (h : WChains0 w v l) (hs : ∀ c ∈ l, szIdle c) : WChains w v l := by
 obtain ⟨rs, h1, h2, h3⟩ := h
 refine ⟨rs, h1, h2, fun i c r hc hr => ?_⟩
 obtain ⟨h4, ds, h5, h6, h7⟩ := h3 i c r hc hr
 exact ⟨h4, ds, h5, h6, fun j s d hs' hd => WData0_up (h7 j s d hs' hd) ((hs c (List.mem_of_getElem? hc)).2.2 s (List.mem_of_getElem? hs'))⟩
theorem ok_idle (c : WChain) (h : rgChain c) (k : szIdle c) : okChain c :=
 ⟨h.1, h.2.1, h.2.2.1, fun s hs => ⟨(h.2.2.2 s hs).1, (h.2.2.2 s hs).2.1, (h.2.2.2 s hs).2.2, k.2.2 s hs⟩, Nat.le_trans k.1 (by omega), Nat.le_trans k.2.1 (by omega)⟩
def SmallPost (w : World) (l : List WChain) (sn kn idn : Nat) (e : Ending) (w' : World) : Prop := ∃ b, e = .returned (.bool b) ∧ Below w.heap.size w w' ∧ (b = true → (l.length ≤ 4 ∧ ∀ c ∈ l, szIdle c) ∧ sn ≤ 40 ∧ kn ≤ 20 ∧ idn ≤ 30)
set_option maxRecDepth 100000 in
set_option maxHeartbeats 8000000 in
theorem small_any (v : Value) (l : List WChain) (sa ka ba ida : Option Addr) (sn sc kn kc bn bc idn idc : Nat) (dir left : Int) (w : World) (hin : WChains0 w v l) :
  Calls Tryz.prog 21 #[v, .agg #[.slice sa sn sc, .slice ka kn kc, .slice ba bn bc, .int .i64 dir, .int .i64 left, .slice ida idn idc]] w (SmallPost w l sn kn idn) := by
 obtain ⟨rs, hrl, hlead, hel⟩ := hin
 obtain ⟨ad, cap, rfl⟩ := Row.leads_slice hlead
 obtain ⟨n, hn⟩ : ∃ n, n = l.length := ⟨_, rfl⟩
 rw [← hn]
 have HN := Bas.hid hn
 have HEL := Bas.hid hel
 have HLD := Bas.hid hlead
 have HRL := Bas.hid hrl
 clear hrl hlead hel hn
 have hb0 := (Below.refl w.heap.size w).alloc (Nat.le_refl _) (.cells #[.slice sa sn sc, .slice ka kn kc, .slice ba bn bc, .int .i64 dir, .int .i64 left, .slice ida idn idc] 62)
 have kA := Bas.heap_new w (.cells #[.slice sa sn sc, .slice ka kn kc, .slice ba bn bc, .int .i64 dir, .int .i64 left, .slice ida idn idc] 62)
 have HB0 := Bas.hid hb0
 have a0 := cell_of_heap (i := 0) kA rfl
 have a1 := cell_of_heap (i := 1) kA rfl
 have a5 := cell_of_heap (i := 5) kA rfl
 have lA := heap_lt kA
 clear hb0 kA
 by_cases hbig : 4 < n ∨ 40 < sn ∨ 20 < kn ∨ 30 < idn
 ·go_enter Tryz.func21, Tryz.ntmps21
  by_cases g1 : 4 < n
  ·have d1 : decide ((4 : Int) < (n : Int)) = true := by simp; omega
   go_wp2_with (fail)
   go_ret
   exact ⟨_, rfl, HB0.out, fun h => by cases h⟩
  ·have d1 : decide ((4 : Int) < (n : Int)) = false := by simp; omega
   by_cases g2 : 40 < sn
   ·have d2 : decide ((40 : Int) < (sn : Int)) = true := by simp; omega
    go_wp2_with (fail)
    go_ret
    exact ⟨_, rfl, HB0.out, fun h => by cases h⟩
   ·have d2 : decide ((40 : Int) < (sn : Int)) = false := by simp; omega
    by_cases g3 : 20 < kn
    ·have d3 : decide ((20 : Int) < (kn : Int)) = true := by simp; omega
     go_wp2_with (fail)
     go_ret
     exact ⟨_, rfl, HB0.out, fun h => by cases h⟩
    ·have d3 : decide ((20 : Int) < (kn : Int)) = false := by simp; omega
     have d4 : decide ((30 : Int) < (idn : Int)) = true := by simp; omega
     have g4 : 30 < idn := by omega
     go_wp2_with (fail)
     go_ret
     exact ⟨_, rfl, HB0.out, fun h => by cases h⟩
 ·have g1 : ¬ 4 < n := by omega
  have g2 : ¬ 40 < sn := by omega
  have g3 : ¬ 20 < kn := by omega
  have g4 : ¬ 30 < idn := by omega
  have d1 : decide ((4 : Int) < (n : Int)) = false := by simp; omega
  have d2 : decide ((40 : Int) < (sn : Int)) = false := by simp; omega
  have d3 : decide ((20 : Int) < (kn : Int)) = false := by simp; omega
  have d4 : decide ((30 : Int) < (idn : Int)) = false := by simp; omega
  clear hbig
  go_enter Tryz.func21, Tryz.ntmps21
  go_wp2_with (fail)
  generalize (w.alloc (.cells #[.slice sa sn sc, .slice ka kn kc, .slice ba bn bc, .int .i64 dir, .int .i64 left, .slice ida idn idc] 62)) = W0 at *
  have hn4 : n ≤ 4 := by omega
  have hs4 : sn ≤ 40 := by omega
  clear a0 a1 a5 lA g1 d1 g2 d2 d3 d4
  go_loopw [34] (fun vi wr => ∃ k : Nat, k ≤ n ∧ vi = .int .i64 k ∧ (∀ c ∈ l.take k, szIdle c) ∧ Below w.heap.size w wr) (fun vi _ => n - (intOf vi).toNat)
  case atStart => exact ⟨0, Nat.zero_le _, rfl, fun c hc => by simp at hc, HB0.out⟩
  case round =>
   obtain ⟨k, hk, rfl, hsz, hb⟩ := hrel
   have HB := Bas.hid hb
   have HSZ := Bas.hid hsz
   by_cases hkn : k < n
   ·have hlen := HN.out
    obtain ⟨c, hc⟩ : ∃ c, l[k]? = some c := ⟨_, List.getElem?_eq_getElem (by omega)⟩
    obtain ⟨r, hr⟩ : ∃ r, rs[k]? = some r := ⟨_, List.getElem?_eq_getElem (by rw [HRL.out]; omega)⟩
    obtain ⟨hru, hsu⟩ := HEL.out k c r hc hr
    have hz : (l.zip rs)[k]? = some (c, r) := List.getElem?_zip_eq_some.2 ⟨hc, hr⟩
    obtain ⟨B0, O0, cp0, hv0, hcl⟩ := Row.leads_elem wChainC_len HLD.out hz (by omega)
    obtain ⟨vr, vs⟩ := r
    obtain ⟨ds, hdl, hsl, hsd⟩ := hsu
    obtain ⟨ar, cr, rfl⟩ := Row.leads_slice hru
    obtain ⟨as', cs', rfl⟩ := Row.leads_slice hsl
    cases hv0
    have q0 := (hb.cell (p := ⟨B0, O0 + k * 4, none⟩) (World.block_lt_of_cell? _ _ (hcl 0 _ rfl))).trans (hcl 0 _ rfl)
    have q1 := (hb.cell (p := ⟨B0, O0 + k * 4 + 1, none⟩) (World.block_lt_of_cell? _ _ (hcl 1 _ rfl))).trans (hcl 1 _ rfl)
    have q2 := (hb.cell (p := ⟨B0, O0 + k * 4 + 2, none⟩) (World.block_lt_of_cell? _ _ (hcl 2 _ rfl))).trans (hcl 2 _ rfl)
    have q3 := (hb.cell (p := ⟨B0, O0 + k * 4 + 3, none⟩) (World.block_lt_of_cell? _ _ (hcl 3 _ rfl))).trans (hcl 3 _ rfl)
    have HSL := Bas.hid hsl
    have HSD := Bas.hid hsd
    have HDL := Bas.hid hdl
    have HCK := Bas.hid hc
    obtain ⟨nr, hnr⟩ : ∃ nr, nr = c.rules.length := ⟨_, rfl⟩
    obtain ⟨ns, hns⟩ : ∃ ns, ns = c.subs.length := ⟨_, rfl⟩
    simp only [← hnr, ← hns] at q0 q1 q2 q3 HSL
    have HNR := Bas.hid hnr
    have HNS := Bas.hid hns
    clear hcl hru hsl hsd hdl hb hr hnr hns hlen hc hsz
    have HB1 := Bas.hid (HB.out.trans (((Below.refl wr.heap.size wr).alloc (Nat.le_refl _) (.cells #[.int .u32 c.first, .slice ar nr cr, .slice as' ns cs', .int .u8 c.more] 31)).mono HB.out.size))
    have k5 := Bas.heap_new wr (.cells #[.int .u32 c.first, .slice ar nr cr, .slice as' ns cs', .int .u8 c.more] 31)
    by_cases g1 : 20 < nr
    ·have d1 : decide ((20 : Int) < (nr : Int)) = true := by simp; omega
     go_wp2_with (fail)
     go_ret
     exact ⟨_, rfl, HB1.out, fun h => by cases h⟩
    ·have d1 : decide ((20 : Int) < (nr : Int)) = false := by simp; omega
     by_cases g2 : 5 < ns
     ·have d2 : decide ((5 : Int) < (ns : Int)) = true := by simp; omega
      go_wp2_with (fail)
      go_ret
      exact ⟨_, rfl, HB1.out, fun h => by cases h⟩
     ·have d2 : decide ((5 : Int) < (ns : Int)) = false := by simp; omega
      go_wp2_with (fail)
      generalize wr.alloc (.cells #[.int .u32 c.first, .slice ar nr cr, .slice as' ns cs', .int .u8 c.more] 31) = Wc at *
      generalize wr.heap.size = T5 at k5 ⊢
      clear q0 q1 q2 q3 HB
      go_loopw [51] (fun vi wr => ∃ j : Nat, j ≤ ns ∧ vi = .int .i64 j ∧ (∀ s ∈ c.subs.take j, s.data.length ≤ 400) ∧ Below Wc.heap.size Wc wr) (fun vi _ => ns - (intOf vi).toNat)
      case atStart => exact ⟨0, Nat.zero_le _, rfl, fun c hc => by simp at hc, Below.refl _ _⟩
      case round =>
       obtain ⟨j, hj, rfl, hsj, hb⟩ := hrel
       have HBJ := Bas.hid hb
       have HSJ := Bas.hid hsj
       by_cases hjn : j < ns
       ·have hlen := HNS.out
        obtain ⟨s, hs⟩ : ∃ s, c.subs[j]? = some s := ⟨_, List.getElem?_eq_getElem (by omega)⟩
        obtain ⟨d, hd⟩ : ∃ d, ds[j]? = some d := ⟨_, List.getElem?_eq_getElem (by rw [HDL.out]; omega)⟩
        have hz : (c.subs.zip ds)[j]? = some (s, d) := List.getElem?_zip_eq_some.2 ⟨hs, hd⟩
        obtain ⟨B1, O1, cp1, hv1, hcl⟩ := Row.leads_elem wSubC_len HSL.out hz (by omega)
        cases hv1
        obtain ⟨da, dcap, rfl⟩ := (HSD.out j s d hs hd).len
        have HBw := HB1.out.trans (hb.mono HB1.out.size)
        have q0 := (HBw.cell (p := ⟨B1, O1 + j * 3, none⟩) (World.block_lt_of_cell? _ _ (hcl 0 _ rfl))).trans (hcl 0 _ rfl)
        have q1 := (HBw.cell (p := ⟨B1, O1 + j * 3 + 1, none⟩) (World.block_lt_of_cell? _ _ (hcl 1 _ rfl))).trans (hcl 1 _ rfl)
        have q2 := (HBw.cell (p := ⟨B1, O1 + j * 3 + 2, none⟩) (World.block_lt_of_cell? _ _ (hcl 2 _ rfl))).trans (hcl 2 _ rfl)
        have HS := Bas.hid hs
        obtain ⟨m, hm⟩ : ∃ m, m = s.data.length := ⟨_, rfl⟩
        simp only [← hm] at q2
        have HM := Bas.hid hm
        have HBE := Bas.hid (hb.trans (((Below.refl wr.heap.size wr).alloc (Nat.le_refl _) (.cells #[.int .u32 s.cover, .int .u32 s.flags, .slice da m dcap] 44)).mono hb.size))
        have HBE1 := Bas.hid (HB1.out.trans (HBE.out.mono HB1.out.size))
        clear hcl HBw hs hd hz hlen hm hb hsj
        by_cases g3 : 400 < m
        ·have d3 : decide ((400 : Int) < (m : Int)) = true := by simp; omega
         go_wp2_with (fail)
         exact bodyPost_ret (v := .bool false) (by simp [results, Tryz.results21, go_sem]) rfl ⟨_, rfl, HBE1.out, fun h => by cases h⟩
        ·have d3 : decide ((400 : Int) < (m : Int)) = false := by simp; omega
         go_wp2_with (fail)
         go_roundw
         case rel => exact ⟨j + 1, by omega, by go_num, fun y hy => by
          rw [List.take_add_one, HS.out] at hy
          rcases List.mem_append.1 hy with h | h
          ·exact HSJ.out y h
          ·simp at h; subst h; rw [← HM.out]; omega, HBE.out⟩
         case measure => simp [intOf]; omega
       ·have hjn2 : j = ns := by omega
        have hdone : ∀ s ∈ c.subs, s.data.length ≤ 400 := fun s hs => by
         have h := HSJ.out s
         rw [hjn2, HNS.out, List.take_length] at h
         exact h hs
        have HD := Bas.hid hdone
        have HBE1 := Bas.hid (HB1.out.trans (HBJ.out.mono HB1.out.size))
        clear hb hsj hdone
        go_wp2_with (fail)
        go_roundw
        case rel => exact ⟨k + 1, by omega, by go_num, fun y hy => by
         rw [List.take_add_one, HCK.out] at hy
         rcases List.mem_append.1 hy with h | h
         ·exact HSZ.out y h
         ·simp at h; subst h; exact ⟨by rw [← HNR.out]; omega, by rw [← HNS.out]; omega, HD.out⟩, HBE1.out⟩
        case measure => simp [intOf]; omega
   ·have hkn2 : k = n := by omega
    have hdone : ∀ c ∈ l, szIdle c := fun c hc => by
     have h := HSZ.out c
     rw [hkn2, HN.out, List.take_length] at h
     exact h hc
    have HD := Bas.hid hdone
    clear hb hsz hdone
    go_wp2_with (fail)
    go_ret
    exact ⟨_, rfl, HB.out, fun _ => ⟨⟨by have := HN.out; omega, HD.out⟩, by omega, by omega, by omega⟩⟩
end Mx
end Go.Proofs.YtoncnjhhdlpliaaGreat
namespace Go.Proofs.YtoncnjhhdlpliaaGreat
open Go.RowKit
namespace Mx
open Vw Ch Lk St Ln Dr
theorem subsPos_get : ∀ (l : List WSub) (p j : Nat) (s : SubD), (subsPos p l)[j]? = some s → ∃ x, l[j]? = some x ∧ s.cover = x.cover ∧ s.flags = x.flags
 | [], p, j, s, h => by simp [subsPos] at h
 | x :: l, p, 0, s, h => by simp [subsPos] at h; subst h; exact ⟨x, rfl, rfl, rfl⟩
 | x :: l, p, j + 1, s, h => by
  rw [subsPos, List.getElem?_cons_succ] at h
  rw [List.getElem?_cons_succ]
  exact subsPos_get l _ j s h
theorem subsPos_len : ∀ (l : List WSub) (p : Nat), (subsPos p l).length = l.length
 | [], p => rfl
 | x :: l, p => by rw [subsPos, List.length_cons, List.length_cons, subsPos_len l]
theorem chainsPos_get : ∀ (l : List WChain) (p i : Nat) (x : PlaceD), (chainsPos p l)[i]? = some x → ∃ c, l[i]? = some c ∧ x.c.first = c.first ∧ x.c.rules = c.rules ∧ x.c.subs = subsPos (16 + 12 * c.rules.length) c.subs
 | [], p, i, x, h => by simp [chainsPos] at h
 | c :: l, p, 0, x, h => by simp [chainsPos] at h; subst h; exact ⟨c, rfl, rfl, rfl, rfl⟩
 | c :: l, p, i + 1, x, h => by
  rw [chainsPos, List.getElem?_cons_succ] at h
  rw [List.getElem?_cons_succ]
  exact chainsPos_get l _ i x h
theorem chainsPos_len : ∀ (l : List WChain) (p : Nat), (chainsPos p l).length = l.length
 | [], p => rfl
 | x :: l, p => by rw [chainsPos, List.length_cons, List.length_cons, chainsPos_len l]
theorem mapOpt_get {α β : Type} (f : α → Option β) : ∀ (l : List α) (ys : List β), mapOpt f l = some ys → ∀ (i : Nat) (y : β), ys[i]? = some y → ∃ x, l[i]? = some x ∧ f x = some y
 | [], ys, h, i, y, hy => by simp [mapOpt] at h; subst h; simp at hy
 | x :: l, ys, h, i, y, hy => by
  rw [mapOpt] at h
  cases hx : f x with
  | none => rw [hx] at h; cases h
  | some z =>
   rw [hx] at h
   cases hl : mapOpt f l with
   | none => rw [hl] at h; cases h
   | some zs =>
    rw [hl] at h
    cases h
    cases i with
    | zero => simp at hy; subst hy; exact ⟨x, rfl, hx⟩
    | succ i =>
     rw [List.getElem?_cons_succ] at hy ⊢
     exact mapOpt_get f l zs hl i y hy
structure Wrote (l : List WChain) (T : List MChain) : Prop where
 len : T.length = l.length
 get : ∀ (i : Nat) (c : MChain), T[i]? = some c → ∃ x, l[i]? = some x ∧ c.first = x.first ∧ c.rules = x.rules ∧ c.subs.length = x.subs.length ∧
  ∀ (j : Nat) (s : MSub), c.subs[j]? = some s → ∃ y, x.subs[j]? = some y ∧ s.cover = y.cover ∧ s.flags = y.flags
theorem wrote_of {l : List WChain} (hl : l.length ≤ 10) (hok : ∀ c ∈ l, okChain c) {gl : Nat} {T : List MChain} (h : morxParse (writeB l) gl = some T) : Wrote l T := by
 have hb := all_back l [] hl hok
 rw [List.append_nil] at hb
 unfold morxParse at h
 rw [hb, Option.bind_some] at h
 refine ⟨by rw [mapOpt_len _ _ _ h, chainsPos_len], fun i c hc => ?_⟩
 obtain ⟨p, hp, hf⟩ := mapOpt_get _ _ _ h i c hc
 obtain ⟨x, hx, h1, h2, h3⟩ := chainsPos_get l 8 i p hp
 refine ⟨x, hx, ?_⟩
 unfold chainOf at hf
 cases hm : mapOpt (subOf (((writeB l).drop p.p).take p.size) gl) p.c.subs with
 | none => rw [hm] at hf; cases hf
 | some ss =>
  rw [hm] at hf
  cases hf
  refine ⟨h1, h2, ?_, fun j s hs => ?_⟩
  ·simp only
   rw [mapOpt_len _ _ _ hm, h3, subsPos_len]
  ·obtain ⟨q, hq, hw⟩ := mapOpt_get _ _ _ hm j s hs
   rw [h3] at hq
   obtain ⟨y, hy, h4, h5⟩ := subsPos_get _ _ _ _ hq
   refine ⟨y, hy, ?_⟩
   unfold subOf at hw
   cases hk : wkParse (q.cover % 256) (((((writeB l).drop p.p).take p.size).drop (q.at' + 12)).take (q.len - 12)) gl with
   | none => rw [hk] at hw; cases hw
   | some k => rw [hk] at hw; cases hw; exact ⟨h4, h5⟩
def Idle (d : Int) (T : List MChain) (fls : List Int) : Prop := ∀ (i : Nat) (c : MChain) (fl : Int), T[i]? = some c → fls[i]? = some fl → ∀ s ∈ c.subs, asks fl d s = false
theorem subsRun_idle (F : WkF) (fl d : Int) : ∀ (l : List MSub) (k : Nat) (xs : List Gl) (left : Int), (∀ s ∈ l, asks fl d s = false) → subsRun F fl d l k xs left = (xs, left, none)
 | [], k, xs, left, _ => rfl
 | s :: l, k, xs, left, h => by
  rw [subsRun, h s (by simp)]
  exact subsRun_idle F fl d l (k + 1) xs left (fun x hx => h x (by simp [hx]))
theorem chainsRun_idle (F : WkF) (d : Int) : ∀ (l : List (MChain × Int)) (i : Nat) (xs : List Gl) (left : Int), (∀ x ∈ l, ∀ s ∈ x.1.subs, asks x.2 d s = false) → chainsRun F d l i xs left = (cleanL xs, none)
 | [], i, xs, left, _ => rfl
 | (c, fl) :: l, i, xs, left, h => by
  rw [chainsRun, subsRun_idle F fl d c.subs 0 xs left (h (c, fl) (by simp))]
  exact chainsRun_idle F d l (i + 1) xs left (fun x hx => h x (by simp [hx]))
theorem idle_run {F : WkF} {d : Int} {T : List MChain} {fls : List Int} (h : Idle d T fls) (xs : List Gl) (left : Int) : chainsRun F d (T.zip fls) 0 xs left = (cleanL xs, none) := by
 refine chainsRun_idle F d _ 0 xs left (fun x hx s hs => ?_)
 obtain ⟨i, hi⟩ := List.mem_iff_getElem?.1 hx
 obtain ⟨h1, h2⟩ := List.getElem?_zip_eq_some.1 hi
 exact h i x.1 x.2 h1 h2 s hs
theorem idle_ok {F : WkF} {Pre : List Gl → Int → Prop} {d : Int} {T : List MChain} {fls : List Int} (h : Idle d T fls) : RunOk F Pre d T fls := fun i c fl hc hf s hs ha => by
 rw [h i c fl hc hf s hs] at ha; cases ha
end Mx
end Go.Proofs.YtoncnjhhdlpliaaGreat
namespace Go.Proofs.YtoncnjhhdlpliaaGreat
open Go.RowKit
namespace Mx
open Vw Ch Lk St Ln Dr Rr Sw Cx In Lg Wr Pk Ft
section
variable {ops : Array Oper} {C : World → Prop} {K : Act → Prop} {act : Act} {o : Oper}
end
def IdleTo (d : Int) (T : List MChain) (fls : List Int) (n : Nat) : Prop := ∀ (i : Nat) (c : MChain) (fl : Int), i < n → T[i]? = some c → fls[i]? = some fl → ∀ s ∈ c.subs, asks fl d s = false
theorem idleTo_step {d : Int} {T : List MChain} {fls : List Int} {n : Nat} (h : IdleTo d T fls n) (h1 : ∀ c fl, T[n]? = some c → fls[n]? = some fl → ∀ s ∈ c.subs, asks fl d s = false) : IdleTo d T fls (n + 1) := by
 intro i c fl hi hc hf
 by_cases he : i = n
 ·subst he; exact h1 c fl hc hf
 ·exact h i c fl (by omega) hc hf
theorem idleTo_all {d : Int} {T : List MChain} {fls : List Int} {n : Nat} (h : IdleTo d T fls n) (hn : T.length ≤ n) : Idle d T fls := fun i c fl hc hf s hs =>
 h i c fl (by have := (List.getElem?_eq_some_iff.1 hc).1; omega) hc hf s hs
theorem win_below {w w' : World} {v : Value} {l : List WChain} (hin : WChains0 w v l) (hb : Below w.heap.size w w') : WChains0 w' v l := by
 obtain ⟨rs, h1, h2, h3⟩ := hin
 refine ⟨rs, h1, Row.leads_below h2 hb, fun i c r hc hr => ?_⟩
 obtain ⟨h4, ds, h5, h6, h7⟩ := h3 i c r hc hr
 refine ⟨Row.leads_below h4 hb, ds, h5, Row.leads_below h6 hb, fun j s d hs hd => ?_⟩
 obtain ⟨a, len, cap, zs, e1, e2, e3⟩ := h7 j s d hs hd
 refine ⟨a, len, cap, zs, e1, ?_, e3⟩
 rcases e2 with e2 | ⟨x, hx, hl, hm, hz, hc, hw⟩
 ·exact .inl e2
 ·exact .inr ⟨x, hx, hl, hm, hz, fun i hi => (hb.cell (World.block_lt_of_cell? _ _ (hc i hi))).trans (hc i hi), hw⟩
set_option maxRecDepth 100000 in
set_option maxHeartbeats 16000000 in
theorem morxIdle_core (v : Value) (l : List WChain) (a : Option Addr) (n c : Nat) (ka : Option Addr) (kn kc : Nat) (ba : Option Addr) (bn bc : Nat) (S : List (Int × Int)) (K : Nat → Int) (B : Nat → Bool) (dir left : Int) (ida : Option Addr) (idn idc : Nat) (ids : List Int) (w : World)
  (hin : WChains0 w v l) (hrg : ∀ c ∈ l, rgChain c) (hok : CaseOk w a n c ka kn kc ba bn bc S K B) (hid : Row.Leads w (.slice ida idn idc) idn (ids.map (Value.int .i64))) (hidl : ids.length = idn) :
  Calls Tryz.prog 6 #[v, .agg #[.slice a n c, .slice ka kn kc, .slice ba bn bc, .int .i64 dir, .int .i64 left, .slice ida idn idc]] w fun e w' => e = .returned (.bool true) ∧ Below w.heap.size w w' := by
 have k1 := Bas.heap_new w (.cells #[.slice a n c, .slice ka kn kc, .slice ba bn bc, .int .i64 dir, .int .i64 left, .slice ida idn idc] 62)
 have hb1 := (Below.refl w.heap.size w).alloc (Nat.le_refl _) (.cells #[.slice a n c, .slice ka kn kc, .slice ba bn bc, .int .i64 dir, .int .i64 left, .slice ida idn idc] 62)
 obtain ⟨rs, hrl, hlead, hel⟩ := id hin
 obtain ⟨ad, cap, rfl⟩ := Row.leads_slice hlead
 have HIN := Bas.hid hin
 have HRG := Bas.hid hrg
 have HOK := Bas.hid hok
 have HID := Bas.hid hid
 have HIDL := Bas.hid hidl
 have HEL := Bas.hid hel
 have HLD := Bas.hid hlead
 have HRL := Bas.hid hrl
 have HB1 := Bas.hid hb1
 have HK1 := Bas.hid k1
 obtain ⟨L, hL⟩ : ∃ L, l.length = L := ⟨_, rfl⟩
 have HLL := Bas.hid hL
 rw [hL] at HIN HLD ⊢
 clear hin hrg hok hid hidl hel hlead hrl hb1 k1 hL
 go_enter Tryz.func6, Tryz.ntmps6
 go_wp2_with (fail)
 generalize (w.alloc (.cells #[.slice a n c, .slice ka kn kc, .slice ba bn bc, .int .i64 dir, .int .i64 left, .slice ida idn idc] 62)) = W1 at *
 obtain ⟨T3, hT3⟩ : ∃ T3, w.heap.size = T3 := ⟨_, rfl⟩
 have HT3 := Bas.hid hT3
 rw [hT3] at HK1 ⊢
 clear hT3
 refine (mspeaks_any _).mono ?_
 rintro e w2 ⟨rfl, hb2⟩
 have HB2 := Bas.hid (HB1.out.trans (hb2.mono HB1.out.size))
 have HK2 := Bas.hid ((hb2.block _ (heap_lt HK1.out)).trans HK1.out)
 have c0 := cell_of_heap (i := 0) (v := .slice a n c) HK2.out rfl
 have c1 := cell_of_heap (i := 1) (v := .slice ka kn kc) HK2.out rfl
 have c2 := cell_of_heap (i := 2) (v := .slice ba bn bc) HK2.out rfl
 have c3 := cell_of_heap (i := 3) (v := .int .i64 dir) HK2.out rfl
 have c4 := cell_of_heap (i := 4) (v := .int .i64 left) HK2.out rfl
 have c5 := cell_of_heap (i := 5) (v := .slice ida idn idc) HK2.out rfl
 have lk := heap_lt HK2.out
 have hin2 : WChains0 w2 (.slice ad L cap) l := win_below HIN.out HB2.out
 have HIN2 := Bas.hid hin2
 clear hb2 HK1 hin2
 go_wp2_with (fail)
 refine (small_any (.slice ad L cap) l a ka ba ida n c kn kc bn bc idn idc dir left w2 HIN2.out).mono ?_
 rintro e w3 ⟨b, rfl, hb3, hsm⟩
 have HB3 := Bas.hid (HB2.out.trans (hb3.mono HB2.out.size))
 have HK3 := Bas.hid ((hb3.block _ (heap_lt HK2.out)).trans HK2.out)
 clear c0 c1 c2 c3 c4 c5 lk HIN2 hb3 HK2
 cases b with
 | false =>
  go_wp2_with (fail)
  go_ret
  exact ⟨rfl, HB3.out⟩
 | true =>
  obtain ⟨⟨hl4, hsz⟩, hn40, hk20, hid30⟩ := hsm rfl
  have hokc : ∀ x ∈ l, okChain x := fun x hx => ok_idle x (HRG.out x hx) (hsz x hx)
  have HOC := Bas.hid hokc
  have hl10 : l.length ≤ 10 := by omega
  have hL4 : L ≤ 4 := by rw [← HLL.out]; exact hl4
  have hw3 : WChains w3 (.slice ad L cap) l := WChains0_up (win_below HIN.out HB3.out) hsz
  have HW3 := Bas.hid hw3
  clear hsm hw3 hokc
  go_wp2_with (fail)
  refine (write_any (.slice ad L cap) l w3 hl10 HOC.out HW3.out).mono ?_
  rintro e w4 ⟨v4, rfl, hown, hb4⟩
  have hwl := writeB_lenM l hl10 HOC.out
  obtain ⟨g4, cg4, rfl, hgb, hgl, hgc, hgm, hvg, -⟩ := owned hown (fun e => by
   rcases Row.owned_parts hown with ⟨_, h0, _⟩ | ⟨_, _, h0, _⟩
   ·omega
   ·rw [h0] at e; cases e) rfl (writeB_byteM l HOC.out) (by omega)
  have HB4 := Bas.hid (HB3.out.trans (hb4.mono HB3.out.size))
  have HK4 := Bas.hid ((hb4.block _ (heap_lt HK3.out)).trans HK3.out)
  have HRD := Bas.hid (mread_any (some ⟨g4, 0, none⟩) _ cg4 (writeB l) 40 w4 hgc hgm hvg rfl (by omega) (by simp) (by omega) (by omega))
  clear hown hb4 hvg hgc hgm hgl hgb hwl HK3
  go_wp2_with (fail)
  refine HRD.out.mono ?_
  rintro e w5 ⟨hb5, h⟩
  have HB5 := Bas.hid (HB4.out.trans (hb5.mono HB4.out.size))
  have HK5 := Bas.hid ((hb5.block _ (heap_lt HK4.out)).trans HK4.out)
  clear hb5 HK4 HRD
  cases hpar : morxParse (writeB l) 40 with
  | none =>
   rw [hpar] at h
   simp only at h
   subst h
   clear hpar
   go_wp2_with (fail)
   go_ret
   exact ⟨rfl, HB5.out⟩
  | some T =>
   rw [hpar] at h
   simp only at h
   obtain ⟨p, rfl, hlv⟩ := h
   have HWR := Bas.hid (wrote_of hl10 HOC.out hpar)
   have hat := hlv.now
   obtain ⟨gt, vl, rt, hpe, hgt, hrest⟩ := id hat
   cases hpe
   have HAT := Bas.hid hat
   have c0 := cell_of_heap (i := 0) (v := .slice a n c) HK5.out rfl
   have c1 := cell_of_heap (i := 1) (v := .slice ka kn kc) HK5.out rfl
   have c2 := cell_of_heap (i := 2) (v := .slice ba bn bc) HK5.out rfl
   have c3 := cell_of_heap (i := 3) (v := .int .i64 dir) HK5.out rfl
   have c4 := cell_of_heap (i := 4) (v := .int .i64 left) HK5.out rfl
   have c5 := cell_of_heap (i := 5) (v := .slice ida idn idc) HK5.out rfl
   have lk := heap_lt HK5.out
   clear hpar hlv hat hgt hrest
   go_wp2_with (fail)
   refine (settled_any a n c ka kn kc ba bn bc S K B dir left ida idn idc w5 (caseOk_below HOK.out HB5.out) hn40 hk20).mono ?_
   rintro e w6 ⟨vy, a7, n7, c7, ys, rfl, hpw, hy40, hoy, hb6⟩
   have HB6 := Bas.hid (HB5.out.trans (hb6.mono HB5.out.size))
   have HB56 := Bas.hid hb6
   have HK6 := Bas.hid ((hb6.block _ (heap_lt HK5.out)).trans HK5.out)
   have HPW := Bas.hid hpw
   have HOY := Bas.hid hoy
   obtain ⟨ay, cy, rfl⟩ := own_slice hoy
   have hb7 := (Below.refl w6.heap.size w6).alloc (Nat.le_refl _) (.cells #[.slice a n c, .slice a7 n7 c7, .int .i64 dir] 67)
   have HB7 := Bas.hid hb7
   clear c0 c1 c2 c3 c4 c5 lk hb6 hoy hpw HK5 hb7
   go_wp2_with (fail)
   generalize (w6.alloc (.cells #[.slice a n c, .slice a7 n7 c7, .int .i64 dir] 67)) = W7 at *
   have HK7 := Bas.hid ((HB7.out.block _ (heap_lt HK6.out)).trans HK6.out)
   have HBW7 := Bas.hid (HB6.out.trans (HB7.out.mono HB6.out.size))
   have HB57 := Bas.hid (HB56.out.trans (HB7.out.mono HB56.out.size))
   have HLY := Bas.hid (Row.leads_below (Row.leads_owned HOY.out) HB7.out)
   have hTl : T.length ≤ 4 := by rw [HWR.out.len]; exact hl4
   have HTL := Bas.hid (HWR.out.len.trans HLL.out)
   have HRUL : Hid (∀ x ∈ T, x.rules.length ≤ 100000) := fun x hx => by
    obtain ⟨i, hi⟩ := List.mem_iff_getElem?.1 hx
    obtain ⟨y, hy, _, h2, _⟩ := HWR.out.get i x hi
    rw [h2]
    exact Nat.le_trans (hsz y (List.mem_of_getElem? hy)).1 (by omega)
   have HSUL : Hid (∀ x ∈ T, x.subs.length ≤ 1000000) := fun x hx => by
    obtain ⟨i, hi⟩ := List.mem_iff_getElem?.1 hx
    obtain ⟨y, hy, _, _, h2, _⟩ := HWR.out.get i x hi
    rw [h2]
    exact Nat.le_trans (hsz y (List.mem_of_getElem? hy)).2.1 (by omega)
   refine (mflags_any _ _ T ys W7 (HAT.out.below HB57.out) HRUL.out (by omega) HLY.out HPW.out (by omega)).mono ?_
   rintro e w8 ⟨hb8, vf, rfl, hof⟩
   rw [HTL.out] at hof
   have HB8 := Bas.hid (HBW7.out.trans (hb8.mono HBW7.out.size))
   have HB58 := Bas.hid (HB57.out.trans (hb8.mono HB57.out.size))
   have HK8 := Bas.hid ((hb8.block _ (heap_lt HK7.out)).trans HK7.out)
   have HLY8 := Bas.hid (Row.leads_below HLY.out hb8)
   have HOF := Bas.hid (Row.leads_owned hof)
   obtain ⟨af, cf, rfl⟩ := own_slice hof
   obtain ⟨fls, hfls⟩ : ∃ fls, flagsOf T ys = fls := ⟨_, rfl⟩
   have HFLS := Bas.hid hfls
   have HFN : Hid (fls.length = L) := by unfold Hid; rw [← hfls, flagsOf_len]; exact HTL.out
   rw [hfls] at HOF
   clear hb8 hof hfls HK7 HK6 HOY HB56 HBW7 HB57
   go_wp2_with (fail)
   go_loopw [40] (fun vi wr => ∃ i : Nat, i ≤ L ∧ vi = .int .i64 i ∧ IdleTo dir T fls i ∧ Below w8.heap.size w8 wr) (fun vi _ => L - (intOf vi).toNat)
   case atStart => exact ⟨0, Nat.zero_le _, rfl, fun i c fl h => by omega, Below.refl _ _⟩
   case round =>
    obtain ⟨i, hi, rfl, hidle, hb⟩ := hrel
    have HID9 := Bas.hid hidle
    have HB9 := Bas.hid hb
    by_cases hin : i < L
    ·have e1 : decide ((i : Int) < (L : Int)) = true := by simp; omega
     have e2 : decide (i < L) = true := by simp; omega
     obtain ⟨x, hx⟩ : ∃ x, T[i]? = some x := ⟨_, List.getElem?_eq_getElem (by rw [HTL.out]; exact hin)⟩
     obtain ⟨y, hy, hxf, hxr, hxs, hxg⟩ := HWR.out.get i x hx
     obtain ⟨fl, hfl⟩ : ∃ f, fls[i]? = some f := ⟨_, List.getElem?_eq_getElem (by rw [HFN.out]; exact hin)⟩
     obtain ⟨r, hr⟩ : ∃ r, rs[i]? = some r := ⟨_, List.getElem?_eq_getElem (by rw [HRL.out, HLL.out]; exact hin)⟩
     obtain ⟨hru, hsu⟩ := HEL.out i y r hy hr
     have hz : (l.zip rs)[i]? = some (y, r) := List.getElem?_zip_eq_some.2 ⟨hy, hr⟩
     have hbw : Below w.heap.size w wr := HB8.out.trans (hb.mono HB8.out.size)
     have HBW := Bas.hid hbw
     obtain ⟨B0, O0, cp0, hv0, hcl⟩ := Row.leads_elem wChainC_len (Row.leads_below HLD.out hbw) hz (by omega)
     obtain ⟨vr, vs⟩ := r
     obtain ⟨ds, hdl, hsl, hsd⟩ := hsu
     obtain ⟨ar, cr, rfl⟩ := Row.leads_slice hru
     obtain ⟨as', cs', rfl⟩ := Row.leads_slice hsl
     cases hv0
     have q0 := hcl 0 _ rfl
     have q1 := hcl 1 _ rfl
     have q2 := hcl 2 _ rfl
     have q3 := hcl 3 _ rfl
     simp only [Nat.add_zero] at q0
     have lq := World.block_lt_of_cell? _ _ q0
     have HSL := Bas.hid hsl
     have HSD := Bas.hid hsd
     have HDL := Bas.hid hdl
     have HXI := Bas.hid hx
     have HFI := Bas.hid hfl
     have HXG := Bas.hid hxg
     have HYO := Bas.hid (HOC.out y (List.mem_of_getElem? hy))
     obtain ⟨nr, hnr⟩ : ∃ nr, y.rules.length = nr := ⟨_, rfl⟩
     obtain ⟨ns, hns⟩ : ∃ ns, y.subs.length = ns := ⟨_, rfl⟩
     rw [hnr] at q1
     rw [hns] at q2
     have HNS := Bas.hid hns
     have HXN := Bas.hid (hxs.trans hns)
     have hns10 : ns ≤ 10 := by rw [← hns]; exact HYO.out.2.2.2.2.2
     have hb11 := (Below.refl wr.heap.size wr).alloc (Nat.le_refl _) (.cells #[.int .u32 y.first, .slice ar nr cr, .slice as' ns cs', .int .u8 y.more] 31)
     have HB11 := Bas.hid hb11
     have k11 := Bas.heap_new wr (.cells #[.int .u32 y.first, .slice ar nr cr, .slice as' ns cs', .int .u8 y.more] 31)
     have p2 := cell_of_heap (i := 2) k11 rfl
     have lp := heap_lt k11
     clear hidle hb hx hy hxf hxr hxs hxg hfl hr hru hsl hsd hdl hz hbw hcl hnr hns hb11 k11
     go_wp2_with (fail)
     generalize (wr.alloc (.cells #[.int .u32 y.first, .slice ar nr cr, .slice as' ns cs', .int .u8 y.more] 31)) = W11 at *
     clear q0 q1 q2 q3 lq p2 lp
     have HB811 := Bas.hid (HB9.out.trans (HB11.out.mono HB9.out.size))
     go_loopw [48] (fun vj wq => ∃ j : Nat, j ≤ ns ∧ vj = .int .i64 j ∧ (∀ s ∈ x.subs.take j, asks fl dir s = false) ∧ Below w8.heap.size w8 wq) (fun vj _ => ns - (intOf vj).toNat)
     case atStart => exact ⟨0, Nat.zero_le _, rfl, fun s hs => by simp at hs, HB811.out⟩
     case round =>
      obtain ⟨j, hj, rfl, hsj, hb⟩ := hrel
      have HSJ := Bas.hid hsj
      have HB12 := Bas.hid hb
      by_cases hjn : j < ns
      ·have e3 : decide ((j : Int) < (ns : Int)) = true := by simp; omega
       obtain ⟨sx, hsx⟩ : ∃ s, x.subs[j]? = some s := ⟨_, List.getElem?_eq_getElem (by rw [HXN.out]; exact hjn)⟩
       obtain ⟨sy, hsy, hcov, hflg⟩ := HXG.out j sx hsx
       obtain ⟨dd, hd⟩ : ∃ d, ds[j]? = some d := ⟨_, List.getElem?_eq_getElem (by rw [HDL.out, HNS.out]; exact hjn)⟩
       have hz : (y.subs.zip ds)[j]? = some (sy, dd) := List.getElem?_zip_eq_some.2 ⟨hsy, hd⟩
       have hbw : Below w.heap.size w wr := HB8.out.trans (hb.mono HB8.out.size)
       have HBW2 := Bas.hid hbw
       obtain ⟨B1, O1, cp1, hv1, hcl⟩ := Row.leads_elem wSubC_len (Row.leads_below HSL.out hbw) hz (by omega)
       rw [HNS.out] at hv1
       cases hv1
       obtain ⟨da, dcap, rfl⟩ := (HSD.out j sy dd hsy hd).len
       have q0 := hcl 0 _ rfl
       have q1 := hcl 1 _ rfl
       have q2 := hcl 2 _ rfl
       simp only [Nat.add_zero] at q0
       have lq := World.block_lt_of_cell? _ _ q0
       obtain ⟨dm, hdm⟩ : ∃ m, sy.data.length = m := ⟨_, rfl⟩
       rw [hdm] at q2
       have HSX := Bas.hid hsx
       have hcr := (HYO.out.2.2.2.1 sy (List.mem_of_getElem? hsy)).1
       have HSN : Hid (asks fl dir sx = false → ∀ s ∈ x.subs.take (j + 1), asks fl dir s = false) := fun h s hs => by
        rw [List.take_add_one, HSX.out] at hs
        rcases List.mem_append.1 hs with hs | hs
        ·exact HSJ.out s hs
        ·simp at hs; subst hs; exact h
       rw [← hcov] at q0
       rw [← hflg] at q1
       rw [← hcov] at hcr
       obtain ⟨cover, sfl, wk⟩ := sx
       simp only at q0 q1 hcr
       have kS := Bas.heap_new wr (.cells #[.int .u32 cover, .int .u32 sfl, .slice da dm dcap] 44)
       have hbS := (Below.refl wr.heap.size wr).alloc (Nat.le_refl _) (.cells #[.int .u32 cover, .int .u32 sfl, .slice da dm dcap] 44)
       have HKS := Bas.hid kS
       have HBS := Bas.hid (HB12.out.trans (hbS.mono HB12.out.size))
       obtain ⟨bf, of', cf', hvf, hcf⟩ := Row.leads_elem (f := fun x : Int => [Value.int .u32 x]) (m := 1) (x := fl) (fun _ => rfl) (by rw [← List.map_eq_flatMap]; exact Row.leads_below HOF.out HBS.out) HFI.out (by omega)
       cases hvf
       have hfc := hcf 0 _ rfl
       simp only [Nat.add_zero, Nat.mul_one] at hfc
       have hka := (HBS.out.block _ (heap_lt HK8.out)).trans HK8.out
       have HFCS := Bas.hid hfc
       have HKAS := Bas.hid hka
       clear hsj hb hsx hsy hcov hflg hd hz hbw hcl hdm kS hbS hcf hfc hka
       go_wp2_with (fail)
       generalize (wr.alloc (.cells #[.int .u32 cover, .int .u32 sfl, .slice da dm dcap] 44)) = WS at *
       obtain ⟨TS, hTS⟩ : ∃ TS, wr.heap.size = TS := ⟨_, rfl⟩
       rw [hTS] at HKS ⊢
       clear hTS q0 q1 q2 lq
       obtain ⟨RI, RF, Ri, RF0, RFk, RFw⟩ := Pl.fam_of WS (fun u => u.cell? ⟨bf, of' + i, none⟩ = some (.int .u32 fl) ∧ u.heap[TS]? = some (.cells #[.int .u32 cover, .int .u32 sfl, .slice da dm dcap] 44 (0, 0)) ∧ u.heap[T3]? = some (.cells #[.slice a n c, .slice ka kn kc, .slice ba bn bc, .int .i64 dir, .int .i64 left, .slice ida idn idc] 62 (0, 0))) ⟨HFCS.out, HKS.out, HKAS.out⟩
       have RFH := Bas.hid RF0
       have RhI : Nonempty RI := ⟨Ri⟩
       have RFW := Bas.hid RFw
       have z0 := fun i => (RFk i).1
       have z1 := fun i => cell_of_heap (i := 0) (v := .int .u32 cover) (RFk i).2.1 rfl
       have z2 := fun i => cell_of_heap (i := 1) (v := .int .u32 sfl) (RFk i).2.1 rfl
       have z3 := fun i => cell_of_heap (i := 3) (v := .int .i64 dir) (RFk i).2.2 rfl
       have zS := fun i => heap_lt (RFk i).2.1
       have zF := fun i => World.block_lt_of_cell? _ _ (RFk i).1
       have zA := fun i => heap_lt (RFk i).2.2
       clear RF0 RFw RFk
       obtain ⟨z, hz⟩ : ∃ z, bits .and .u32 fl sfl = z := ⟨_, rfl⟩
       have HZ := Bas.hid hz
       clear hz
       by_cases hz0 : z = 0
       ·have hz2 : bits .and .u32 fl sfl = 0 := by rw [HZ.out]; exact hz0
        have HNA := Bas.hid (asks_false1 (d := dir) (s := ⟨cover, sfl, wk⟩) hz2)
        refine Pl.region_plan0 Ri [(true, 0), (true, 1), (true, 2), (true, 3), (true, 4), (true, 5), (true, 6), (true, 7), (true, 8), (true, 9), (true, 10), (true, 11), (true, 12), (true, 13), (true, 14), (true, 15), (true, 16), (true, 17), (true, 18), (false, 19), (true, 20)] [] (by kernel_rfl) (by kernel_rfl) (fun _ _ _ _ e h => ⟨e ▸ h.1, h.2⟩) RFH.out ?_
        refine Pl.head_sel0 [(true, 0), (true, 1), (true, 2), (true, 3), (true, 4), (true, 5), (true, 6), (true, 7), (true, 8), (true, 9), (true, 10), (true, 11), (true, 12), (true, 13), (true, 14), (true, 15), (true, 16), (true, 17), (true, 18)] (by kernel_rfl) (by kernel_rfl) ?_
        simp only [Pl.sel, List.drop_succ_cons, List.drop_zero]
        repeat (go_big_quiet_step (fail))
        refine wpQuiet_nil ?_
        rw [← RFH.out]
        clear z0 z1 z2 z3 zS zF zA
        refine Pl.one_sel (by kernel_rfl) ?_
        intro Q' hQ' hP'
        simp only [Pl.sel, List.drop_succ_cons, List.drop_zero]
        go_wp2_with (fail)
        refine hQ' _ _ (fun _ _ => ⟨Ri, RFH.out⟩) ?_
        clear hQ' hP' Q' RFW
        refine Pl.head_sel0 (rest := []) [(true, 20)] (by kernel_rfl) (by kernel_rfl) ?_
        simp only [Pl.sel, List.drop_succ_cons, List.drop_zero]
        repeat (go_big_quiet_step (fail))
        refine wpQuiet_nil ?_
        simp only [Pl.walkM]
        have HBD := Bas.hid (HBS.out.trans ((Bas.below_drewN (Below.refl WS.heap.size WS) 1).mono HBS.out.size))
        clear hz2 hz0
        go_wp2_with (fail)
        go_roundw
        case rel => exact ⟨j + 1, by omega, by go_num, HSN.out HNA.out, HBD.out⟩
        case measure => simp [intOf]; omega
       ·have hz2 : bits .and .u32 fl sfl = z := HZ.out
        have hz1 : (z == 0) = false := by simpa using hz0
        have hz4 : decide (z = 0) = false := by simpa using hz0
        have hz5 : (z != 0) = true := by simpa using hz0
        have hz6 : (!decide (z = 0)) = true := by simpa using hz0
        have hz7 : (!(z == 0)) = true := by simpa using hz0
        have HNZ : Hid (bits .and .u32 fl sfl ≠ 0) := by unfold Hid; rw [hz2]; exact hz0
        refine Pl.region_plan0 Ri [(true, 0), (true, 1), (true, 2), (true, 3), (true, 4), (true, 5), (true, 6), (true, 7), (true, 8), (true, 9), (true, 10), (true, 11), (true, 12), (true, 13), (true, 14), (true, 15), (true, 16), (true, 17), (true, 18), (false, 19), (true, 20)] [] (by kernel_rfl) (by kernel_rfl) (fun _ _ _ _ e h => ⟨e ▸ h.1, h.2⟩) RFH.out ?_
        refine Pl.head_sel0 [(true, 0), (true, 1), (true, 2), (true, 3), (true, 4), (true, 5), (true, 6), (true, 7), (true, 8), (true, 9), (true, 10), (true, 11), (true, 12), (true, 13), (true, 14), (true, 15), (true, 16), (true, 17), (true, 18)] (by kernel_rfl) (by kernel_rfl) ?_
        simp only [Pl.sel, List.drop_succ_cons, List.drop_zero]
        repeat (go_big_quiet_step (fail))
        refine wpQuiet_nil ?_
        rw [← RFH.out]
        clear z0 z1 z2 z3 zS zF zA
        refine Pl.one_sel (by kernel_rfl) ?_
        intro Q' hQ' hP'
        simp only [Pl.sel, List.drop_succ_cons, List.drop_zero]
        go_wp2_with (fail)
        refine (Cov.rruns_any _ _ _ hcr.1 hcr.2).mono ?_
        rintro e w13 ⟨rfl, rfl⟩
        go_wp2_with (fail)
        refine hQ' _ _ (fun _ _ => ⟨Ri, RFH.out⟩) ?_
        clear hQ' hP' Q' RFW
        obtain ⟨rb, hrb⟩ : ∃ rb, Cov.runsM (Cov.bitB cover 31) (Cov.bitB cover 29) dir = rb := ⟨_, rfl⟩
        have HRB := Bas.hid hrb
        rw [hrb]
        clear hrb hz1 hz4 hz2 hz0 hz5 hz6 hz7
        have HBD := Bas.hid (HBS.out.trans ((Bas.below_drewN (Below.refl WS.heap.size WS) 1).mono HBS.out.size))
        cases rb with
        | false =>
         refine Pl.head_sel0 (rest := []) [(true, 20)] (by kernel_rfl) (by kernel_rfl) ?_
         simp only [Pl.sel, List.drop_succ_cons, List.drop_zero]
         repeat (go_big_quiet_step (fail))
         refine wpQuiet_nil ?_
         simp only [Pl.walkM]
         go_wp2_with (fail)
         go_roundw
         case rel => exact ⟨j + 1, by omega, by go_num, HSN.out (asks_false2 HRB.out), HBD.out⟩
         case measure => simp [intOf]; omega
        | true =>
         refine Pl.head_sel0 (rest := []) [(true, 20)] (by kernel_rfl) (by kernel_rfl) ?_
         simp only [Pl.sel, List.drop_succ_cons, List.drop_zero]
         repeat (go_big_quiet_step (fail))
         refine wpQuiet_nil ?_
         simp only [Pl.walkM]
         have HBE := Bas.hid (HB8.out.trans (HBD.out.mono HB8.out.size))
         go_wp2_with (fail)
         go_ret
         exact ⟨rfl, HBE.out⟩
      ·have e3 : decide ((j : Int) < (ns : Int)) = false := by simp; omega
       have e4 : ¬ (j : Int) < (ns : Int) := by omega
       have HDONE : Hid (∀ cc f, T[i]? = some cc → fls[i]? = some f → ∀ s ∈ cc.subs, asks f dir s = false) := fun cc f hc hf s hs => by
        rw [HXI.out] at hc
        rw [HFI.out] at hf
        cases hc; cases hf
        have h := HSJ.out s
        rw [List.take_of_length_le (by rw [HXN.out]; omega)] at h
        exact h hs
       clear hsj hb
       go_wp2_with (fail)
       go_roundw
       case rel => exact ⟨i + 1, by omega, by go_num, idleTo_step HID9.out HDONE.out, HB12.out⟩
       case measure => simp [intOf]; omega
    ·have e1 : decide ((i : Int) < (L : Int)) = false := by simp; omega
     have e4 : ¬ (i : Int) < (L : Int) := by omega
     have HIDLE := Bas.hid (idleTo_all hidle (by rw [HTL.out]; omega))
     have HBW := Bas.hid (HB8.out.trans (hb.mono HB8.out.size))
     have HK9 := Bas.hid ((hb.block _ (heap_lt HK8.out)).trans HK8.out)
     have c3 := cell_of_heap (i := 3) (v := .int .i64 dir) HK9.out rfl
     have c4 := cell_of_heap (i := 4) (v := .int .i64 left) HK9.out rfl
     have c5 := cell_of_heap (i := 5) (v := .slice ida idn idc) HK9.out rfl
     have lk := heap_lt HK9.out
     clear hidle hb
     go_wp2_with (fail)
     refine (new_any _ ids idn wr (Row.leads_below HID.out HBW.out) HIDL.out (by omega)).mono ?_
     rintro e w14 ⟨rfl, hb14, sv, hL14⟩
     have HB14 := Bas.hid (HBW.out.trans (hb14.mono HBW.out.size))
     have HB914 := Bas.hid (HB9.out.trans (hb14.mono HB9.out.size))
     have HK14 := Bas.hid ((hb14.block _ (heap_lt HK9.out)).trans HK9.out)
     have HL14 := Bas.hid hL14
     obtain ⟨G, hG⟩ : ∃ G, wr.heap.size = G := ⟨_, rfl⟩
     have hG8 : w8.heap.size ≤ G := by rw [← hG]; exact HB9.out.size
     have hG0 : w.heap.size ≤ G := by rw [← hG]; exact HBW.out.size
     rw [hG] at HL14 ⊢
     have HLY14 := Bas.hid (Row.leads_below HLY8.out HB914.out)
     have HB514 := Bas.hid (HB58.out.trans (HB914.out.mono HB58.out.size))
     have hG5 : w5.heap.size ≤ G := Nat.le_trans HB58.out.size hG8
     have c3 := cell_of_heap (i := 3) (v := .int .i64 dir) HK14.out rfl
     have c4 := cell_of_heap (i := 4) (v := .int .i64 left) HK14.out rfl
     have c5 := cell_of_heap (i := 5) (v := .slice ida idn idc) HK14.out rfl
     have lk := heap_lt HK14.out
     have hln : (lnNew ids).length = idn := by unfold lnNew; rw [lnPre_len]; exact HIDL.out
     have HLN := Bas.hid hln
     have HID2 : Hid (Idle dir T (flagsOf T ys)) := by unfold Hid; rw [HFLS.out]; exact HIDLE.out
     clear hb14 hL14 hG hln
     go_wp2_with (fail)
     refine (mrun_any (fWork lf0 inf0) (preLen 1000000) (fun xs left h => h) _ _ T ys dir left G G sv (lnNew ids) w5 w14 HAT.out HRUL.out (by omega) HSUL.out HLY14.out HPW.out (by omega) HB514.out hG5 HL14.out (by unfold preLen; rw [HLN.out]; omega) (idle_ok HID2.out)).mono ?_
     rintro e w15 ⟨rfl, hto⟩
     rw [idle_run HID2.out] at hto ⊢
     have hfv : faultV (cleanL (lnNew ids), (none : Option (Int × Nat × Nat))).snd = .agg #[.int .i64 0, .int .i64 0, .int .i64 0] := rfl
     rw [hfv]
     obtain ⟨sv15, hL15, hm15, -⟩ := id hto
     have hT38 : T3 < w8.heap.size := heap_lt HK8.out
     have HK15 := Bas.hid (hm15.heap HK14.out (fun hk => by have := (HL14.out.blk_low _ hk).1; omega))
     have HB15 := Bas.hid (hm15.below HB14.out (fun k hk => Nat.le_trans hG0 (HL14.out.blk_low k hk).1) HB14.out.size)
     have HL15 := Bas.hid hL15
     have hb16 := (Below.refl w15.heap.size w15).alloc (Nat.le_refl _) (.cells #[.int .i64 0, .int .i64 0, .int .i64 0] 36)
     have HB16 := Bas.hid hb16
     have HK16 := Bas.hid (Bas.heap_new w15 (.cells #[.int .i64 0, .int .i64 0, .int .i64 0] 36))
     clear hto hL15 hm15 hb16 hfv c3 c4 c5 lk
     go_wp2_with (fail)
     generalize (w15.alloc (.cells #[.int .i64 0, .int .i64 0, .int .i64 0] 36)) = W16 at *
     obtain ⟨TF, hTF⟩ : ∃ TF, w15.heap.size = TF := ⟨_, rfl⟩
     rw [hTF] at HK16 ⊢
     clear hTF
     have HKA := Bas.hid ((HB16.out.block _ (heap_lt HK15.out)).trans HK15.out)
     obtain ⟨RI, RF, Ri, RF0, RFk, RFw⟩ := Pl.fam_of W16 (fun u => u.heap[TF]? = some (.cells #[.int .i64 0, .int .i64 0, .int .i64 0] 36 (0, 0)) ∧ u.heap[T3]? = some (.cells #[.slice a n c, .slice ka kn kc, .slice ba bn bc, .int .i64 dir, .int .i64 left, .slice ida idn idc] 62 (0, 0))) ⟨HK16.out, HKA.out⟩
     have RFH := Bas.hid RF0
     have RhI : Nonempty RI := ⟨Ri⟩
     have RFW := Bas.hid RFw
     have z0 := fun i => cell_of_heap (i := 0) (v := .int .i64 0) (RFk i).1 rfl
     have z1 := fun i => cell_of_heap (i := 1) (v := .int .i64 0) (RFk i).1 rfl
     have z2 := fun i => cell_of_heap (i := 2) (v := .int .i64 0) (RFk i).1 rfl
     have z5 := fun i => cell_of_heap (i := 5) (v := .slice ida idn idc) (RFk i).2 rfl
     have zF := fun i => heap_lt (RFk i).1
     have zA := fun i => heap_lt (RFk i).2
     clear RF0 RFw RFk
     refine Pl.region_plan0 Ri [(true, 0), (true, 1), (true, 2), (true, 3), (true, 4), (true, 6), (true, 7), (false, 5), (false, 8), (false, 9), (false, 10), (true, 11), (true, 12)] [] (by kernel_rfl) (by kernel_rfl) (fun _ _ _ _ e h => ⟨e ▸ h.1, h.2⟩) RFH.out ?_
     refine Pl.head_sel0 [(true, 0), (true, 1), (true, 2), (true, 3), (true, 4), (true, 6), (true, 7)] (by kernel_rfl) (by kernel_rfl) ?_
     simp only [Pl.sel, List.drop_succ_cons, List.drop_zero]
     repeat (first | go_big_quiet_step (fail) | (go_big_quiet_want; refine quiet_eqF _ _ _ rfl rfl rfl ?_; simp only [Act.put, List.setIfInBounds_toArray, List.set_cons_zero, List.set_cons_succ]; go_big_quiet_on))
     refine wpQuiet_nil ?_
     rw [← RFH.out]
     clear z0 z1 z2 z5 zF zA
     have hbd : Below W16.heap.size W16 W16.drew := Bas.below_drewN (Below.refl W16.heap.size W16) 1
     have HBX := Bas.hid (HB15.out.trans ((HB16.out.trans (hbd.mono HB16.out.size)).mono HB15.out.size))
     have HLX := Bas.hid ((HL15.out.below HB16.out).below hbd)
     have hcl : (cleanL (lnNew ids)).length ≤ idn := by have := cleanL_len (lnNew ids); rw [HLN.out] at this; exact this
     have HFX : Hid (∀ u, Below W16.drew.heap.size W16.drew u → ∃ i, u = RF i) := fun u hu => RFW.out u ⟨(hu.block _ (heap_lt HK16.out)).trans HK16.out, (hu.block _ (heap_lt HKA.out)).trans HKA.out⟩
     clear hbd
     refine Pl.one_sel (by kernel_rfl) ?_
     intro Q' hQ' hP'
     simp only [Pl.sel, List.drop_succ_cons, List.drop_zero]
     go_wp2_with (fail)
     refine (glyphs_any G G sv15 (cleanL (lnNew ids)) W16.drew HLX.out (by omega)).mono ?_
     rintro e w17 ⟨hb17, v17, rfl, ho17⟩
     have HB17 := Bas.hid hb17
     have HBW17 := Bas.hid (HBX.out.trans (hb17.mono HBX.out.size))
     have HO17 := Bas.hid (Row.leads_owned ho17)
     obtain ⟨a17, c17, rfl⟩ := own_slice ho17
     clear hb17 ho17
     go_wp2_with (fail)
     refine hQ' _ _ (fun _ _ => HFX.out _ HB17.out) ?_
     clear hQ' hP' Q'
     refine Pl.one_sel (by kernel_rfl) ?_
     intro Q' hQ' hP'
     simp only [Pl.sel, List.drop_succ_cons, List.drop_zero]
     go_wp2_with (fail)
     refine (rnew_any _ ids idn w17 (Row.leads_below HID.out HBW17.out) HIDL.out (by omega)).mono ?_
     rintro e w18 ⟨hb18, v18, rfl, ho18⟩
     have HB18 := Bas.hid (HB17.out.trans (hb18.mono HB17.out.size))
     have HBW18 := Bas.hid (HBW17.out.trans (hb18.mono HBW17.out.size))
     have HO18 := Bas.hid (Row.leads_owned ho18)
     have HO17b := Bas.hid (Row.leads_below HO17.out hb18)
     obtain ⟨a18, c18, rfl⟩ := own_slice ho18
     clear hb18 ho18
     go_wp2_with (fail)
     refine hQ' _ _ (fun _ _ => HFX.out _ HB18.out) ?_
     clear hQ' hP' Q'
     refine Pl.one_sel (by kernel_rfl) ?_
     intro Q' hQ' hP'
     simp only [Pl.sel, List.drop_succ_cons, List.drop_zero]
     go_wp2_with (fail)
     refine (rclean_any _ (lnNew ids) idn w18 HO18.out HLN.out (by omega)).mono ?_
     rintro e w19 ⟨hb19, v19, rfl, ho19⟩
     have HB19 := Bas.hid (HB18.out.trans (hb19.mono HB18.out.size))
     have HBW19 := Bas.hid (HBW18.out.trans (hb19.mono HBW18.out.size))
     have HO19 := Bas.hid (Row.leads_owned ho19)
     have HO17c := Bas.hid (Row.leads_below HO17b.out hb19)
     obtain ⟨a19, c19, rfl⟩ := own_slice ho19
     clear hb19 ho19
     go_wp2_with (fail)
     refine hQ' _ _ (fun _ _ => HFX.out _ HB19.out) ?_
     clear hQ' hP' Q'
     refine Pl.one_sel (by kernel_rfl) ?_
     intro Q' hQ' hP'
     simp only [Pl.sel, List.drop_succ_cons, List.drop_zero]
     go_wp2_with (fail)
     refine (rsame_any _ _ (cleanL (lnNew ids)) _ w19 HO17c.out HO19.out rfl (by omega)).mono ?_
     rintro e w20 ⟨rfl, hb20⟩
     have HB20 := Bas.hid (HB19.out.trans (hb20.mono HB19.out.size))
     have HBW20 := Bas.hid (HBW19.out.trans (hb20.mono HBW19.out.size))
     clear hb20
     go_wp2_with (fail)
     refine hQ' _ _ (fun _ _ => HFX.out _ HB20.out) ?_
     clear hQ' hP' Q'
     refine Pl.head_sel0 (rest := []) [(true, 11), (true, 12)] (by kernel_rfl) (by kernel_rfl) ?_
     simp only [Pl.sel, List.drop_succ_cons, List.drop_zero]
     repeat (go_big_quiet_step (fail))
     refine wpQuiet_nil ?_
     simp only [Pl.walkM]
     go_wp2_with (fail)
     go_ret
     exact ⟨rfl, HBW20.out⟩
end Mx
end Go.Proofs.YtoncnjhhdlpliaaGreat
namespace Go.Proofs.YtoncnjhhdlpliaaGreat
open Go.RowKit Go.ChangeShapes Go.WideShapes Go.ChangeAt
namespace Mx
open Vw Ch Lk St Ln Dr Pk Ft
theorem six_of {c : List Value} (h : c.length = 6) : ∃ a b d e f g, c = [a, b, d, e, f, g] := by
 match c, h with
 | [x, y, z, t, u, v], _ => exact ⟨x, y, z, t, u, v, rfl⟩
section
variable {H : Type} {enc : TypeId × Value → H} {P : Program} {w : World} {base : Nat} {spare : Nat → Bool} {held : Bool}
theorem open_field_many {t : TypeId} {fs : Array Field} {fuel : Nat} {cs : List Value} {x : DataW H × List MemPlace} (k : Nat) (f : Field) (ht : P.underlying t = some (.struct fs)) (h : DataW.trod enc P w base spare held fuel t cs = some x) (hk : fs[k]? = some f) :
  ∃ y n, DataW.trod enc P w base spare held n f.type ((cs.drop f.offset).take (P.cellsOf f.type)) = some y := by
 obtain ⟨xs, n, _, rfl, hl, hlen, hf⟩ := DataW.trod_struct ht h
 have h1 := hf k f hk
 have hkx : k < xs.length := by
  have := (Array.getElem?_eq_some_iff.1 hk).1
  omega
 rw [List.getElem?_eq_getElem hkx] at h1
 exact ⟨_, _, h1⟩
theorem open_idsL {fuel : Nat} {v : Value} {x : DataW H × List MemPlace} (h : DataW.trod enc Tryz.prog w base (fun _ => true) held fuel 23 [v] = some x) :
  ∃ (a : Option Addr) (n c : Nat) (l : List Int), v = .slice a n c ∧ l.length = n ∧ Row.Leads w (.slice a n c) n (l.map (Value.int .i64)) := by
 rcases open_ints Tryz.underlying23 Tryz.underlying3 (by kernel_rfl) h with ⟨hcs, _⟩ | ⟨x, l, c, zs, hcs, _, hl, hm, hz, _, hcell, hwz⟩
 ·cases hcs
  exact ⟨none, 0, 0, [], rfl, rfl, .inl ⟨rfl, rfl, rfl⟩⟩
 ·cases hcs
  have hz' : zs.length = c := by simpa using hz
  refine ⟨_, l, c, zs.take l, rfl, by rw [List.length_take]; omega, .inr ⟨_, _, rfl, fun j u hu => ?_⟩⟩
  rw [List.getElem?_map] at hu
  cases hj : (zs.take l)[j]? with
  | none => rw [hj] at hu; cases hu
  | some y =>
   rw [hj] at hu
   cases hu
   have hjl := (List.getElem?_eq_some_iff.1 hj).1
   rw [List.length_take] at hjl
   rw [List.getElem?_take_of_lt (by omega)] at hj
   have := hcell j (by omega)
   rw [List.getD_eq_getElem?_getD, hj] at this
   exact this
end
set_option maxRecDepth 100000 in
theorem open_ask {H : Type} {enc : TypeId × Value → H} (v : Value) (d : DataW H) (p : List MemPlace) (W : World) {base : Nat} (hv : Value.okWide Tryz.prog W .any base 62 v) (ht : DataW.Trod enc Tryz.prog W 0 (fun _ => true) true 62 v d p) :
  ∃ a n c ka kn kc ba bn bc l K B dir left ida idn idc ids, v = .agg #[.slice a n c, .slice ka kn kc, .slice ba bn bc, .int .i64 dir, .int .i64 left, .slice ida idn idc] ∧ CaseOk W a n c ka kn kc ba bn bc l K B ∧ Row.Leads W (.slice ida idn idc) idn ((ids : List Int).map (Value.int .i64)) ∧ ids.length = idn := by
 obtain ⟨cs, rfl, hcs⟩ := okWide_struct Tryz.underlying62 hv
 have hc6 : Tryz.prog.cellsOf 62 = 6 := by kernel_rfl
 rw [hc6] at hcs
 obtain ⟨c0, c1, c2, c3, c4, c5, hl⟩ := six_of (c := cs.toList) (by simpa using hcs)
 obtain rfl : cs = #[c0, c1, c2, c3, c4, c5] := by cases cs; simp at hl; simp [hl]
 obtain ⟨fuel, hf⟩ := ht
 obtain ⟨y, m, t0⟩ := open_field_many 0 _ Tryz.underlying62 hf rfl
 obtain ⟨n3, f3, w3⟩ := Bas.open_field_int (kd := .i64) 1 _ Tryz.underlying62 hf rfl (by kernel_rfl) (by rw [hc6]; decide) (by kernel_rfl)
 obtain ⟨n4, f4, w4⟩ := Bas.open_field_int (kd := .i64) 2 _ Tryz.underlying62 hf rfl (by kernel_rfl) (by rw [hc6]; decide) (by kernel_rfl)
 obtain ⟨_, v5, y5, m5, f5, t5⟩ := Bas.open_field 3 _ Tryz.underlying62 hf rfl (by kernel_rfl) (by rw [hc6]; decide)
 obtain rfl : c3 = .int .i64 n3 := by simpa [Value.cells] using f3
 obtain rfl : c4 = .int .i64 n4 := by simpa [Value.cells] using f4
 obtain rfl : c5 = v5 := by simpa [Value.cells] using f5
 have hc3 : Tryz.prog.cellsOf 60 = 3 := by kernel_rfl
 have t0' : DataW.trod enc Tryz.prog W 0 (fun _ => true) true m 60 [c0, c1, c2] = some y := t0
 obtain ⟨_, v0, y0, m0, f0, s0⟩ := Bas.open_field 0 _ Tryz.underlying60 t0' rfl (by kernel_rfl) (by rw [hc3]; decide)
 obtain ⟨_, v1, y1, m1, f1, s1⟩ := Bas.open_field 1 _ Tryz.underlying60 t0' rfl (by kernel_rfl) (by rw [hc3]; decide)
 obtain ⟨_, v2, y2, m2, f2, s2⟩ := Bas.open_field 2 _ Tryz.underlying60 t0' rfl (by kernel_rfl) (by rw [hc3]; decide)
 obtain rfl : c0 = v0 := by simpa using f0
 obtain rfl : c1 = v1 := by simpa using f1
 obtain rfl : c2 = v2 := by simpa using f2
 obtain ⟨sa, n, sc, l, rfl, hn, hln, hld, hwf⟩ := open_settings s0
 obtain ⟨ka, kn, kc, zs, rfl, hz⟩ := Bas.open_bytes Tryz.underlying42 Tryz.underlying5 (by kernel_rfl) s1
 obtain ⟨ba, bn, bc, B, rfl, hb⟩ := open_bls s2
 obtain ⟨ida, idn, idc, ids, rfl, hidl, hidr⟩ := open_idsL t5
 refine ⟨_, _, _, _, _, _, _, _, _, l, fun i => zs.getD i 0, B, _, _, _, _, _, ids, rfl, ⟨hld, hln, hwf, fun i hi => ?_, hb.2.2, hn, ?_, by have := hb.1; have := hb.2.1; unfold maxLen at *; omega⟩, hidr, hidl⟩
 ·rcases hz with ⟨_, h0, _, _⟩ | ⟨x, rfl, hl, hm, hlz, hcell, hw⟩
  ·omega
  ·have hiz : i < zs.length := by omega
   have h := Bas.spot_add ⟨_, hcell 0 (by omega)⟩ (hcell i hiz)
   refine ⟨⟨_, _, congrArg some h.1, h.2⟩, ?_⟩
   have := Bas.wf_u8 (hw (zs[i]) (List.getElem_mem hiz))
   simp only [List.getD_eq_getElem?_getD, List.getElem?_eq_getElem hiz, Option.getD_some]
   exact this
 ·rcases hz with ⟨_, h0, _, _⟩ | ⟨x, rfl, hl, hm, hlz, hcell, hw⟩
  ·omega
  ·unfold maxLen at hm; omega
set_option maxRecDepth 100000 in
theorem morxIdle_walk {H : Type} {enc : TypeId × Value → H} (v : Value) (d : DataW H) (p : List MemPlace) (v1 : Value) (d1 : DataW H) (p1 : List MemPlace) (W : World) {base base1 : Nat} (hv : Value.okWide Tryz.prog W .any base 22 v) (ht : DataW.Trod enc Tryz.prog W 0 (fun _ => true) true 22 v d p) (hv1 : Value.okWide Tryz.prog W .any base1 62 v1) (ht1 : DataW.Trod enc Tryz.prog W 0 (fun _ => true) true 62 v1 d1 p1) :
  Calls Tryz.prog 6 #[v, v1] W fun e w' => e = .returned (.bool true) ∧ Below W.heap.size W w' := by
 obtain ⟨a0, len0, cap0, rfl⟩ := okWide_slice Tryz.underlying22 hv
 obtain ⟨fuel, hf⟩ := ht
 obtain ⟨l, h1, h2⟩ := open_chains (v := .slice a0 len0 cap0) hf
 obtain ⟨a, n, c, ka, kn, kc, ba, bn, bc, S, K, B, dir, left, ida, idn, idc, ids, rfl, hok, hid, hidl⟩ := open_ask v1 d1 p1 W hv1 ht1
 exact morxIdle_core _ l a n c ka kn kc ba bn bc S K B dir left ida idn idc ids W h1 h2 hok hid hidl
end Mx
end Go.Proofs.YtoncnjhhdlpliaaGreat
