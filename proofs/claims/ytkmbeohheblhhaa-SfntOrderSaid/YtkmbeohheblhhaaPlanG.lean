/- A region that draws its order, by a plan that begins at a world of its own: operations that only read, calls that write one block. -/
import Derived.Test.YtkmbeohheblhhaaPlan
import Derived.Test.YtkmbeohheblhhaaRow
namespace Go.Proofs.Ytkmbeohheblhhaa
open Go.RowKit
namespace Pl

section
variable {P : Program} {Q : Exit → Act → World → Prop}

/-- Worlds in which nothing but block r has changed, from w on. -/
theorem fam_g (w : World) (r : Option Nat) : ∃ (I : Type) (F : I → World) (i0 : I), w.drew = F i0 ∧ (∀ i w', (F i).grownBy w' r → ∃ j, w' = F j) ∧ (∀ w', w.grownBy w' r → ∃ j, w' = F j) ∧ ∀ i, w.grownBy (F i) r :=
  ⟨{ u : World // w.grownBy u r }, fun i => i.1, ⟨w.drew, Bas.gdrew (Bas.grefl _ _)⟩, rfl, fun i w' h => ⟨⟨w', Bas.gtrans i.2 h⟩, rfl⟩, fun w' h => ⟨⟨w', h⟩, rfl⟩, fun i => i.2⟩

theorem region_plan0 {id : Nat} {a : Act} {w : World} {l : List Oper} {I : Type} {F : I → World} (i0 : I) (plan : List (Bool × Nat)) (late : List Nat) (hm : P.follows .mixedOrders = true)
    (hB : (Region.noSelect l.toArray && decide (plan.length = l.length) && planB .any l.toArray late plan (Array.replicate l.toArray.size false)) = true)
    (hQ : ∀ c a a' w, Act.defers a = Act.defers a' → Q (.panic c) a w → Q (.panic c) a' w) (h0 : w.drew = F i0)
    (h : walkM P l.toArray Q (fun w => ∃ i, w = F i) late plan a (F i0)) : (Code.region id l.toArray true).wp P Q a w := by
  simp only [Bool.and_eq_true, decide_eq_true_eq] at hB
  obtain ⟨⟨hs, hl⟩, hB⟩ := hB
  refine wp_region_any hm ?_
  change wpAny P .any l.toArray Q _ _ a w.drew
  rw [h0]
  have H := wpAnyF_of_plan (md := .any) (late := late) (S := fun w => ∃ i, w = F i) hs (fun c a d v w => hQ c _ _ w (put_defers a d v)) ⟨F i0, i0, rfl⟩ plan (Array.replicate l.toArray.size false) a (F i0)
    ⟨by simp, fun j oj _ hl => (by rw [getD_replicate_false] at hl; cases hl)⟩ hB (fun _ => ⟨i0, rfl⟩) h
  have := wpAny_of_F _ _ _ _ H
  rw [hl] at this
  simpa using this

variable {ops : Array Oper} {late : List Nat}

theorem walk_quiet0 {I : Type} {F : I → World} (w0 : World) {rest : List (Bool × Nat)} (c : List (Bool × Nat)) (l : List Oper) (a : Act) (hl : fits ops c l) (hv : valuesB c l = true) (ht : (c.all fun x => x.1) = true)
    (h : wpQuiet P ops (fun w => ∃ i, w = F i) (fun a' => walkM P ops Q (fun w => ∃ i, w = F i) late rest a' w0) l a) : walkM P ops Q (fun w => ∃ i, w = F i) late (c ++ rest) a w0 := by
  induction c generalizing l a with
  | nil =>
    cases l with
    | nil => exact h
    | cons o l => exact hl.elim
  | cons x c ih =>
    cases l with
    | nil => exact hl.elim
    | cons o l =>
      obtain ⟨ho, hl⟩ := hl
      simp only [valuesB, Bool.and_eq_true, Bool.or_eq_true, Bool.not_eq_true'] at hv
      simp only [List.all_cons, Bool.and_eq_true] at ht
      obtain ⟨hv0, hv⟩ := hv
      have ih := fun a' h' => ih l a' hl hv ht.2 h'
      have hq : qOp P ops (fun w => ∃ i, w = F i) x.2 (wpQuiet P ops (fun w => ∃ i, w = F i) (fun a' => walkM P ops Q (fun w => ∃ i, w = F i) late rest a' w0) l) a := by unfold qOp; simp only [ho]; exact h
      obtain ⟨b, n⟩ := x
      have hb : b = true := ht.1
      subst hb
      obtain ⟨v, hy, hk⟩ := yieldsIn_of_qOp ho hq
      refine ⟨o, v, ho, ?_, ih _ hk⟩
      rcases hy with ⟨hw, hy⟩ | hy
      · refine .inl ⟨hw, fun w hS => ?_⟩
        have h1 := hy w hS
        have hvo : valueOp o = true := by simpa using hv0
        unfold Oper.quietAt at h1
        generalize hr : (execOp a.eval o).run P w = r at h1
        cases r with
        | ok n w' =>
          obtain ⟨u, rfl⟩ := value_run hvo hr
          obtain ⟨rfl, rfl⟩ := h1
          exact ⟨rfl, rfl⟩
        | halt x w' => exact h1.elim
      · exact .inr hy

/-- The operations that only read come first. -/
theorem head_sel0 {I : Type} {F : I → World} {w0 : World} {l : List Oper} {a : Act} {rest : List (Bool × Nat)} (c : List (Bool × Nat)) (hB : okB l c = true) (ht : (c.all fun x => x.1) = true)
    (h : wpQuiet P l.toArray (fun w => ∃ i, w = F i) (fun a' => walkM P l.toArray Q (fun w => ∃ i, w = F i) late rest a' w0) (sel l c) a) : walkM P l.toArray Q (fun w => ∃ i, w = F i) late (c ++ rest) a w0 :=
  walk_quiet0 w0 c _ a (fits_sel hB).1 (fits_sel hB).2 ht h
end
end Pl
end Go.Proofs.Ytkmbeohheblhhaa
