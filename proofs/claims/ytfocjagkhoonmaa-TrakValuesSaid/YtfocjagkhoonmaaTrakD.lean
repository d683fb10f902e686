/- Layer 27 (trak): data. -/
import Derived.Test.YtfocjagkhoonmaaRegV
import Derived.Test.YtfocjagkhoonmaaRowB
import Derived.Test.YtfocjagkhoonmaaOwn
import Derived.Test.YtfocjagkhoonmaaPut
namespace Go.Proofs.Ytfocjagkhoonmaa
open Go.RowKit
namespace Tk
open Vw

theorem cell_of_heap {w : World} {b i : Nat} {cs : Array Value} {t : TypeId} {v : Value} (h : w.heap[b]? = some (.cells cs t (0, 0))) (hi : cs[i]? = some v) : w.cell? ⟨b, i, none⟩ = some v := by
  simp [World.cell?, h, hi]
theorem free_of_heap {w : World} {b i : Nat} {cs : Array Value} {t : TypeId} (h : w.heap[b]? = some (.cells cs t (0, 0))) : w.frozen? ⟨b, i, none⟩ = false := by
  simp [World.frozen?, h]
theorem heap_set {w : World} {b i : Nat} {cs : Array Value} {t : TypeId} (h : w.heap[b]? = some (.cells cs t (0, 0))) (v : Value) : (w.setCell ⟨b, i, none⟩ v).heap[b]? = some (.cells (cs.setIfInBounds i v) t (0, 0)) := by
  simp [World.setCell, Array.getElem?_modify, h]
theorem heap_lt {w : World} {b : Nat} {o : Obj} (h : w.heap[b]? = some o) : b < w.heap.size := (Array.getElem?_eq_some_iff.1 h).1
theorem leads_heap {w : World} {g n c : Nat} {cs : List Value} {t : TypeId} (h : w.heap[g]? = some (.cells cs.toArray t (0, 0))) : Row.Leads w (.slice (some ⟨g, 0, none⟩) n c) n cs :=
  .inr ⟨_, c, rfl, fun j u hu => by rw [Addr.add_lit, Nat.zero_add]; exact cell_of_heap h (by simpa using hu)⟩
theorem own_slice {w : World} {base size : Nat} {e : TypeId} {v : Value} {n : Nat} {xs : List Value} (h : w.ownsRow base e size v n xs) : ∃ ad cp, v = .slice ad n cp := by
  rcases Row.owned_parts h with ⟨rfl, rfl, _⟩ | ⟨_, _, h, _⟩
  · exact ⟨_, _, rfl⟩
  · exact ⟨_, _, h⟩
theorem own_ty {w : World} {base : Nat} {v : Value} {n g size : Nat} {xs : List Value} {e t : TypeId} {cs : Array Value} (h : w.ownsRow base e size v n xs) (ho : w.heap[g]? = some (.cells cs t (0, 0))) (hne : e ≠ t) : v.ownBlock ≠ some g := by
  intro e'
  obtain ⟨_, ⟨rfl, _⟩ | ⟨g', cp, cur, rfl, _, hh, _⟩⟩ := h
  · cases e'
  · cases e'
    rw [hh] at ho
    simp at ho
    exact hne ho.2
theorem be_sub (bs : List Int) (q m i k : Nat) (h : i + k ≤ m) : be ((bs.drop q).take m) i k = be bs (q + i) k := by
  unfold be
  rw [List.drop_take, List.take_take, List.drop_drop, Nat.min_eq_left (by omega)]

structure TrackD where
  sizes : List Int
  vals : List Int

def sizesL (bs : List Int) (from' many : Nat) : List Int := (List.range many).map fun i => s32 (be bs (from' + 4 * i) 4)
def valsL (bs : List Int) (off many : Nat) : List Int := (List.range many).map fun i => s16 (be bs (off + 2 * i) 2)
theorem sizesL_succ (bs : List Int) (f n : Nat) : sizesL bs f (n + 1) = sizesL bs f n ++ [s32 (be bs (f + 4 * n) 4)] := by
  unfold sizesL; rw [List.range_succ, List.map_append]; rfl
theorem valsL_succ (bs : List Int) (f n : Nat) : valsL bs f (n + 1) = valsL bs f n ++ [s16 (be bs (f + 2 * n) 2)] := by
  unfold valsL; rw [List.range_succ, List.map_append]; rfl
theorem sizesL_len (bs : List Int) (f n : Nat) : (sizesL bs f n).length = n := by simp [sizesL]
theorem valsL_len (bs : List Int) (f n : Nat) : (valsL bs f n).length = n := by simp [valsL]
theorem sizesL_get (bs : List Int) (f n i : Nat) (h : i < n) : (sizesL bs f n)[i]? = some (s32 (be bs (f + 4 * i) 4)) := by
  unfold sizesL; rw [List.getElem?_map, List.getElem?_range h]; rfl

/-- Do the first numbers rise, so far? -/
def risingTo (bs : List Int) (f : Nat) : Nat → Bool
  | 0 => true
  | 1 => true
  | i + 2 => risingTo bs f (i + 1) && decide (s32 (be bs (f + 4 * i) 4) < s32 (be bs (f + 4 * (i + 1)) 4))
theorem rising_step (bs : List Int) (f i : Nat) : risingTo bs f (i + 1) = (risingTo bs f i && (decide (i = 0) || decide (s32 (be bs (f + 4 * (i - 1)) 4) < s32 (be bs (f + 4 * i) 4)))) := by
  cases i with
  | zero => rfl
  | succ i => simp [risingTo]
theorem rising_no (bs : List Int) (f : Nat) : ∀ (d i : Nat), risingTo bs f i = false → risingTo bs f (i + d) = false
  | 0, i, h => h
  | d + 1, i, h => by
    have := rising_no bs f d i h
    rw [show i + (d + 1) = (i + d) + 1 by omega, rising_step, this]; rfl

/-- The values found, after one row more. -/
def nextF (fd : Option (List Int)) (kind : Int) (v : List Int) : Option (List Int) :=
  match fd with
  | some x => some x
  | none => if kind = 0 then some v else none
theorem nextF_yes (v : List Int) : nextF none 0 v = some v := rfl
theorem nextF_no {kind : Int} (h : kind ≠ 0) (v : List Int) : nextF none kind v = none := if_neg h

/-- The rows of tracks: whose values are found first. -/
def rowsD (bs : List Int) (at' many : Nat) : Nat → Nat → Option (List Int) → Option (Option (List Int))
  | 0, _, fd => some fd
  | k + 1, i, fd => if (be bs (at' + 8 + 8 * i + 6) 2).toNat + 2 * many ≤ bs.length then
      rowsD bs at' many k (i + 1) (nextF fd (be bs (at' + 8 + 8 * i) 4) (valsL bs (be bs (at' + 8 + 8 * i + 6) 2).toNat many))
    else none

def trackOf (sizes : List Int) : Option (List Int) → TrackD
  | none => ⟨[], []⟩
  | some v => ⟨sizes, v⟩

/-- The track of 0 of a place of a table. -/
def dataAt (bs : List Int) (at' : Nat) : Option TrackD :=
  if at' = 0 then some ⟨[], []⟩
  else if at' + 8 ≤ bs.length ∧ (be bs (at' + 4) 4).toNat + 4 * (be bs (at' + 2) 2).toNat ≤ bs.length ∧ at' + 8 + 8 * (be bs at' 2).toNat ≤ bs.length ∧ risingTo bs (be bs (at' + 4) 4).toNat (be bs (at' + 2) 2).toNat = true then
    (rowsD bs at' (be bs (at' + 2) 2).toNat (be bs at' 2).toNat 0 none).map (trackOf (sizesL bs (be bs (at' + 4) 4).toNat (be bs (at' + 2) 2).toNat))
  else none

/-- A track's cells, its rows the call's own. -/
def TrkOwn (w : World) (base : Nat) (v1 v2 : Value) (t : TrackD) : Prop :=
  w.ownsRow base 3 1 v1 t.sizes.length (t.sizes.map (Value.int .i64)) ∧ w.ownsRow base 3 1 v2 t.vals.length (t.vals.map (Value.int .i64))

def DataPost (w : World) (bs : List Int) (at' : Nat) (e : Ending) (w' : World) : Prop :=
  Below w.heap.size w w' ∧ match dataAt bs at' with
    | none => e = .panicked short
    | some t => ∃ v1 v2, e = .returned (.agg #[v1, v2]) ∧ TrkOwn w' w.heap.size v1 v2 t

theorem infoI (_ : Unit) : (Try.prog.info? 3).map (fun i => (i.zero, i.size, i.bytes)) = some (some (.int .i64 0), 1, 8) := by kernel_rfl

set_option maxRecDepth 100000 in
set_option maxHeartbeats 4000000 in
theorem data_zero (a : Option Addr) (len cap : Nat) (bs : List Int) (w : World) :
    Calls Try.prog 49 #[.agg #[.slice a len cap], .int .i64 0] w (DataPost w bs 0) := by
  have HB := Bas.hid (((Below.refl w.heap.size w).alloc (Nat.le_refl _) (.cells #[.slice a len cap] 58)).alloc (by simp) (.cells #[.slice none 0 0, .slice none 0 0] 52))
  have HD : Hid (dataAt bs 0 = some ⟨[], []⟩) := by unfold Hid dataAt; rw [if_pos rfl]
  go_enter Try.func49, Try.ntmps49
  go_wp2_with (fail)
  refine bodyPost_ret (v := .agg #[.slice none 0 0, .slice none 0 0]) (by simp [results, Try.results49, go_sem]) rfl ⟨HB.out, ?_⟩
  rw [HD.out]
  exact ⟨_, _, rfl, Row.owned_nil _ _ _ _, Row.owned_nil _ _ _ _⟩
end Tk
end Go.Proofs.Ytfocjagkhoonmaa
