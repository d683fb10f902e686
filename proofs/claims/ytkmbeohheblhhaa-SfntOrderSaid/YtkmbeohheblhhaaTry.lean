/- Contracts of layer 1 (view), third part: Try. -/
import Derived.Test.YtkmbeohheblhhaaViewB
namespace Go.Proofs.Ytkmbeohheblhhaa
open Go.RowKit
namespace Vw

set_option maxHeartbeats 400000 in
theorem catch_short (B : Nat) (b : Bool) (w : World) (hc : w.cell? ⟨B, 0, none⟩ = some (.bool b)) (hz : w.frozen? ⟨B, 0, none⟩ = false) :
    CallsD Try.prog 28 #[.pointer (some ⟨B, 0, none⟩)] (.panicking short) w fun e u' w' =>
      e = .returned (.tuple #[]) ∧ u' = .panicking [{ v := .iface 61 (.agg #[]), recovered := true }] ∧ w' = (w.setCell ⟨B, 0, none⟩ (.bool false)).alloc (.cells #[] 61) := by
  have hB : B < w.heap.size := World.block_lt_of_cell? _ _ hc
  have hc' : (w.alloc (.cells #[] 61)).cell? ⟨B, 0, none⟩ = some (.bool b) := by rw [World.cell?_alloc_lt _ _ _ hB]; exact hc
  have hz' : (w.alloc (.cells #[] 61)).frozen? ⟨B, 0, none⟩ = false := by rw [frozen?_alloc_cells]; exact hz
  have hta : ∀ w, (Instr.typeAssert (.iface 61 (.agg #[])) 20 61 true).run Try.prog w = .ok (.tuple #[.agg #[], .bool true]) w := fun _ => by kernel_rfl
  refine callsD_of_wpS Try.func28 rfl fun c₀ cs hu => ?_
  apply wpS_seq
  apply wpS_region
  simp [wpOpsS, go_sem, recoverD, hu, Try.ntmps28, Exit.thenS, short]
  refine wpS_of_wp ?_
  simp only [Array.replicate_succ, Array.replicate_zero, List.push_toArray, List.append_toArray, List.nil_append, List.cons_append, List.setIfInBounds_toArray, List.set_cons_succ, List.set_cons_zero]
  go_wp2
  simp [bodyPostS, results, Try.results28]

set_option maxHeartbeats 400000 in
theorem catch_idle (B : Nat) (w : World) :
    CallsD Try.prog 28 #[.pointer (some ⟨B, 0, none⟩)] .returning w fun e u' w' => e = .returned (.tuple #[]) ∧ u' = .returning ∧ w' = w := by
  refine callsD_of_wpS Try.func28 rfl fun c₀ cs hu => ?_
  apply wpS_seq
  apply wpS_region
  simp [wpOpsS, go_sem, recoverD, hu, Try.ntmps28, Exit.thenS]
  refine wpS_of_wp ?_
  simp only [Array.replicate_succ, Array.replicate_zero, List.push_toArray, List.append_toArray, List.nil_append, List.cons_append, List.setIfInBounds_toArray, List.set_cons_succ, List.set_cons_zero]
  go_wp2
  cases c₀
  simp_all [bodyPostS, results, Try.results28]

/-- What Try's function leaves behind: it has ended, or thrown; the variable that Try keeps for its answer is as it was. -/
def TryPost (B : Nat) (R : Bool → World → Prop) (e : Ending) (w2 : World) : Prop :=
  w2.heap[B]? = some (.cells #[.bool false] 4) ∧ ((e = .returned (.tuple #[]) ∧ R true w2) ∨ (e = .panicked short ∧ R false w2))

def TryDone (B : Nat) (R : Bool → World → Prop) (e : Ending) (w' : World) : Prop :=
  ∃ ok w2, e = .returned (.bool ok) ∧ R ok w2 ∧ B < w2.heap.size ∧ w2.grownBy w' (some B)

set_option maxHeartbeats 400000 in
theorem try_any (K : Nat) (caps : Array Value) (w : World) (R : Bool → World → Prop) (hcf : ∀ w, (callFunc K caps).run Try.prog w = .ok (.enter K caps) w)
    (h : Calls Try.prog K caps (w.alloc (.cells #[.bool false] 4)) (TryPost w.heap.size R)) :
    Calls Try.prog 13 #[.func (.func K) #[] caps] w (TryDone w.heap.size R) := by
  have hmf : ∀ (fn : Fn) (first cap : Array Value) (w : World), (Instr.makeFunc fn first cap).run Try.prog w = .ok (.func fn first cap) w := fun _ _ _ _ => rfl
  have H := Bas.hid h
  clear h
  go_enter_defers Try.func13, Try.ntmps13
  go_wp2_with (fail)
  refine H.out.mono ?_
  clear H hcf
  rintro e w2 ⟨hB, ⟨rfl, hR⟩ | ⟨rfl, hR⟩⟩
  · have hlt : w.heap.size < w2.heap.size := (Array.getElem?_eq_some_iff.1 hB).1
    have hc : w2.cell? ⟨w.heap.size, 0, none⟩ = some (.bool false) := by simp [World.cell?, hB]
    have hz : w2.frozen? ⟨w.heap.size, 0, none⟩ = false := by simp [World.frozen?, hB]
    have HBB := Bas.hid hB
    clear hB
    go_wp2_with (fail)
    refine leaves_cons (f := 28) (args := #[.pointer (some ⟨w.heap.size, 0, none⟩)]) (by simp) (by simp [go_sem]) ?_
    refine (catch_idle w.heap.size _).mono ?_
    rintro e u' w'' ⟨rfl, rfl, rfl⟩
    have hg : w2.grownBy (w2.setCell ⟨w.heap.size, 0, none⟩ (.bool true)) (some w.heap.size) :=
      ⟨rfl, rfl, rfl, by simp, fun k _ hk => Below.heap_setCell _ _ _ _ (fun e => hk (by rw [e]))⟩
    refine ⟨.bool true, ?_, true, w2, rfl, hR, hlt, hg⟩
    simp [results, Try.results13, go_sem, hc]
  · have hlt : w.heap.size < w2.heap.size := (Array.getElem?_eq_some_iff.1 hB).1
    have hc : w2.cell? ⟨w.heap.size, 0, none⟩ = some (.bool false) := by simp [World.cell?, hB]
    have hz : w2.frozen? ⟨w.heap.size, 0, none⟩ = false := by simp [World.frozen?, hB]
    clear hB
    go_wp2_with (fail)
    refine leaves_cons (f := 28) (args := #[.pointer (some ⟨w.heap.size, 0, none⟩)]) (by simp) (by simp [go_sem]) ?_
    refine (catch_short w.heap.size false _ hc hz).mono ?_
    rintro e u' w'' ⟨rfl, rfl, rfl⟩
    have hg : w2.grownBy ((w2.setCell ⟨w.heap.size, 0, none⟩ (.bool false)).alloc (.cells #[] 61)) (some w.heap.size) :=
      ⟨rfl, rfl, rfl, by simp, fun k hk' hk => (Below.heap_alloc (w2.setCell ⟨w.heap.size, 0, none⟩ (.bool false)) _ k (by simpa using hk')).trans (Below.heap_setCell _ _ _ _ (fun e => hk (by rw [e])))⟩
    have hp : TryDone w.heap.size R (.returned (.bool false)) ((w2.setCell ⟨w.heap.size, 0, none⟩ (.bool false)).alloc (.cells #[] 61)) := ⟨false, w2, rfl, hR, hlt, hg⟩
    have hr : ((w2.setCell ⟨w.heap.size, 0, none⟩ (.bool false)).alloc (.cells #[] 61)).cell? ⟨w.heap.size, 0, none⟩ = some (.bool false) := by
      rw [World.cell?_alloc_lt (w2.setCell ⟨w.heap.size, 0, none⟩ (.bool false)) _ _ (by simp only [World.setCell, Array.size_modify]; exact hlt)]; simp [go_sem, hc]
    simp [Leaves, settle, results, Try.results13, go_sem, hp, hr]
end Vw
end Go.Proofs.Ytkmbeohheblhhaa
