/- slices.SortFunc at settings. -/
import Derived.Test.YtdmhenlfhbigbaaPickLay
import Derived.Test.YtdmhenlfhbigbaaRowB
namespace Go.Proofs.Ytdmhenlfhbigbaa
open Go.RowKit Go.Shelf
namespace Pk
open Ch

def ltP (x y : Int × Int) : Bool := decide (x.1 < y.1 ∨ (x.1 = y.1 ∧ x.2 < y.2))
theorem cmpI_neg (a b : Int) : cmpI a b < 0 ↔ a < b := by
  unfold cmpI
  by_cases h1 : a < b
  · simp [h1]
  · by_cases h2 : b < a <;> simp [h1, h2]
theorem cmpI_zero (a b : Int) : cmpI a b = 0 ↔ a = b := by
  unfold cmpI
  by_cases h1 : a < b
  · simp [h1]; omega
  · by_cases h2 : b < a
    · simp [h1, h2]; omega
    · simp [h1, h2]; omega
theorem ltOf_eq (x y : Int × Int) : ltOf cmpP x y = ltP x y := by
  unfold ltOf ltP cmpP
  rw [decide_eq_decide]
  by_cases h : cmpI x.1 y.1 = 0
  · rw [if_pos h, cmpI_neg]
    have := (cmpI_zero _ _).1 h
    omega
  · rw [if_neg h, cmpI_neg]
    have : x.1 ≠ y.1 := fun e => h ((cmpI_zero _ _).2 e)
    omega
theorem swo : Go.Sort.SWO (ltOf cmpP) where
  irrefl x := by rw [ltOf_eq]; simp [ltP]
  trans x y z h1 h2 := by rw [ltOf_eq] at *; simp [ltP] at *; omega
  ntrans x y z h1 h2 := by rw [ltOf_eq] at *; simp [ltP] at *; omega

theorem cmpLays (blk off size : Nat) (w : World) : CmpLays Try.prog 25 #[] setC 2 cmpP blk off size w :=
  fun _ _ _ _ x y => compare_any x y _

theorem setC_len (s : Int × Int) : (setC s).length = 2 := rfl
theorem flat_list (d : Array (Int × Int)) : (Go.Sort.flatK setC 2 d).toList = d.toList.flatMap setC := by
  refine List.ext_getElem? fun t => ?_
  by_cases ht : t < d.size * 2
  · have h1 : t / 2 < d.size := by omega
    have hsz : (Go.Sort.flatK setC 2 d).size = d.size * 2 := by simp
    have hg := Go.Sort.get_flatK setC 2 d t ht
    rw [getElem!_pos _ t (by omega), getElem!_pos d _ h1] at hg
    rw [Array.getElem?_toList, Array.getElem?_eq_getElem (by omega), hg]
    have hx : d.toList[t / 2]? = some d[t / 2] := by rw [Array.getElem?_toList, Array.getElem?_eq_getElem h1]
    obtain ⟨x, hx'⟩ : ∃ x, d[t / 2] = x := ⟨_, rfl⟩
    rw [hx'] at hx ⊢
    have hm : t % 2 = 0 ∨ t % 2 = 1 := by omega
    rcases hm with hm | hm
    · have h := Row.flat_get (f := setC) setC_len d.toList (t / 2) 0 x (.int .i64 x.1) hx rfl
      rw [show t / 2 * 2 + 0 = t by omega] at h
      rw [h, hm]; rfl
    · have h := Row.flat_get (f := setC) setC_len d.toList (t / 2) 1 x (.int .i64 x.2) hx rfl
      rw [show t / 2 * 2 + 1 = t by omega] at h
      rw [h, hm]; rfl
  · rw [List.getElem?_eq_none (by simp; omega), List.getElem?_eq_none]
    have : (d.toList.flatMap setC).length = d.size * 2 := by
      rw [List.length_flatMap]
      have : (d.toList.map fun a => (setC a).length) = List.replicate d.size 2 := by
        rw [List.eq_replicate_iff]
        exact ⟨by simp, fun b hb => by obtain ⟨x, _, rfl⟩ := List.mem_map.1 hb; rfl⟩
      rw [this]; simp
    omega

theorem put_heap (w : World) (n blk : Nat) (F : Array Value) (os : Array Obj) (cur : Array Value) (e : TypeId) (h : w.heap[blk]? = some (.cells cur e)) :
    (Go.Sort.grow (Go.Sort.putRow id (Go.Sort.ahead w n) blk 0 F) os).heap[blk]? = some (.cells (Go.Sort.putCells id 0 F cur) e) := by
  have hlt : blk < w.heap.size := heap_lt h
  rw [Go.Sort.heap_grow_old _ _ (by simp [Go.Sort.putRow, Go.Sort.mapBlock, Go.Sort.ahead]; exact hlt)]
  simp [Go.Sort.putRow, Go.Sort.mapBlock, Go.Sort.ahead, Array.getElem?_modify, h, Go.Sort.onCells]
theorem put_grown (w : World) (n blk : Nat) (F : Array Value) (os : Array Obj) : w.grownBy (Go.Sort.grow (Go.Sort.putRow id (Go.Sort.ahead w n) blk 0 F) os) (some blk) := by
  refine ⟨rfl, rfl, rfl, by simp [Go.Sort.putRow, Go.Sort.mapBlock, Go.Sort.ahead], fun k hk hne => ?_⟩
  rw [Go.Sort.heap_grow_old _ _ (by simp [Go.Sort.putRow, Go.Sort.mapBlock, Go.Sort.ahead]; exact hk)]
  have : blk ≠ k := fun e => hne (by rw [e])
  simp [Go.Sort.putRow, Go.Sort.mapBlock, Go.Sort.ahead, Array.getElem?_modify, this]
theorem put_take (F cur : Array Value) (h : F.size ≤ cur.size) : (Go.Sort.putCells id 0 F cur).toList.take F.size = F.toList ∧ (Go.Sort.putCells id 0 F cur).size = cur.size := by
  refine ⟨List.ext_getElem? fun t => ?_, by simp [Go.Sort.putCells]⟩
  by_cases ht : t < F.size
  · rw [List.getElem?_take_of_lt ht, Array.getElem?_toList, Array.getElem?_toList]
    simp only [Go.Sort.putCells, Array.getElem?_mapIdx]
    rw [Array.getElem?_eq_getElem (by omega), Array.getElem?_eq_getElem ht, Option.map_some, if_pos ⟨by omega, by omega⟩, Nat.sub_zero, getElem!_pos F t ht]
    rfl
  · rw [List.getElem?_take_eq_none (by omega), List.getElem?_eq_none (by simpa using ht)]

/-- Sorted: no later one is less. -/
def Rises (xs : List (Int × Int)) : Prop := xs.Pairwise fun x y => ltP y x = false

set_option maxHeartbeats 1000000 in
theorem sort_any (base g cap : Nat) (xs : List (Int × Int)) (w : World) (hown : w.ownsRow base 27 2 (.slice (some ⟨g, 0, none⟩) xs.length cap) xs.length (xs.flatMap setC)) (hlen : xs.length ≤ 1000000000) :
    Calls Try.prog 24 #[.slice (some ⟨g, 0, none⟩) xs.length cap, .func (.func 25) #[] #[]] w fun e w' =>
      e = .returned (.tuple #[]) ∧ ∃ ys : List (Int × Int), ys.Perm xs ∧ Rises ys ∧ w'.ownsRow base 27 2 (.slice (some ⟨g, 0, none⟩) ys.length cap) ys.length (ys.flatMap setC) ∧ w.grownBy w' (some g) := by
  obtain ⟨hl, ⟨h, _⟩ | ⟨g', cp, cur, h, hb, hh, hn, hm, hc, ht⟩⟩ := hown
  · cases h
  cases h
  have eg : ∀ args w, (callFunc 25 args).run Try.prog w = .ok (.enter 25 args) w := fun args w => by simp [go_sem]
  have hH : Go.Sort.HoldsK setC 2 w g 0 xs.toArray := by
    intro j hj
    have hj' : j < xs.length * 2 := by simpa using hj
    have hfl := flat_list xs.toArray
    have h1 : (Go.Sort.flatK setC 2 xs.toArray)[j]? = cur[j]? := by
      rw [← Array.getElem?_toList, hfl, ← ht, List.getElem?_take_of_lt hj', Array.getElem?_toList]
    rw [getElem!_pos _ j hj]
    rw [Array.getElem?_eq_getElem hj] at h1
    refine ⟨?_, ?_⟩
    · rw [Nat.zero_add]
      exact cell_of_heap hh h1.symm
    · exact free_of_heap hh
  have hs := AnyQ.slices_SortFunc sortSt 2 Try.isAgg27 Try.sizeOf27 setC setC_len (fun x v hv => by simp [setC] at hv; rcases hv with rfl | rfl <;> rfl) cmpP swo 25 #[] g 0 cap xs.toArray w eg (cmpLays g 0 _ w) hH (heap_lt hh) (by simp; omega)
  have hs' : Calls Try.prog 24 #[.slice (some ⟨g, 0, none⟩) xs.length cap, .func (.func 25) #[] #[]] w _ := hs
  refine hs'.mono ?_
  rintro e w' ⟨rfl, d', n, os, ⟨hp1, _, hp3⟩, hsd, rfl⟩
  refine ⟨rfl, d'.toList, ?_, ?_, ?_, put_grown w n g _ os⟩
  · have e1 : d'.extract 0 xs.toArray.size = d' := by rw [← hp1]; simp
    have e2 : xs.toArray.extract 0 xs.toArray.size = xs.toArray := by simp
    rw [e1, e2] at hp3
    simpa using hp3
  · unfold Rises
    rw [List.pairwise_iff_getElem]
    intro i j hi hj hij
    have hsz : d'.size = xs.toArray.size := hp1
    have h := hsd i j (Nat.zero_le _) hij (by rw [← hsz]; simpa using hj)
    rw [ltOf_eq, getElem!_pos d' j (by simpa using hj), getElem!_pos d' i (by simpa using hi)] at h
    simpa using h
  · have hsz : d'.size = xs.length := by simpa using hp1
    have hfs : (Go.Sort.flatK setC 2 d').size = xs.length * 2 := by simp [hsz]
    have hcs : cur.size = cap * 2 := hc
    obtain ⟨h1, h2⟩ := put_take (Go.Sort.flatK setC 2 d') cur (by rw [hfs, hcs]; omega)
    have hlen2 : d'.toList.length = xs.length := by simpa using hsz
    have hll : (d'.toList.flatMap setC).length = d'.toList.length * 2 := by rw [← flat_list]; simp
    refine ⟨hll, .inr ⟨g, cap, _, by rw [hlen2], hb, put_heap w n g _ os cur _ hh, by rw [hlen2]; exact hn, hm, by rw [h2]; exact hc, ?_⟩⟩
    rw [hlen2, ← hfs, h1, flat_list]
end Pk
end Go.Proofs.Ytdmhenlfhbigbaa
