/- append onto a new slice without room: nothing that was is changed. Two settings compared in a quiet walk. -/
import Derived.Test.YtdmhenlfhbigbaaPickPre
namespace Go.Proofs.Ytdmhenlfhbigbaa
open Go.RowKit
namespace Pk
open Ch Ft Go.Maps

theorem append_fresh {P : Program} (w : World) (base : Nat) (t ty e : TypeId) (z : Value) (size bytes : Nat) (ht : P.underlying t = some (.slice e)) (hinfo : (P.info? e).map (fun i => (i.zero, i.size, i.bytes)) = some (some z, size, bytes)) (hzs : z.cells.size = size) (hsz : 0 < size)
    (g : Nat) (hg : w.heap[g]? = some (.cells #[] e (0, 0))) (hbg : base ≤ g) (vx : Value) (len : Nat) (news : List Value) (hl : Row.Leads w vx len news) (hln : news.length = len * size) (h1 : ∀ u ∈ news, u.oneCell' = true) (h63 : len ≤ maxLen) (hbd : len * bytes ≤ 140737488355328) :
    ∃ v' w', (Builtin.append_ #[t, t] ty #[.slice (some ⟨g, 0, none⟩) 0 0, vx]).run P w = .ok v' w' ∧ w'.ownsRow base e size v' len news ∧ Below w.heap.size w w' := by
  obtain ⟨i8, hi8, hz1, hz2, hz3⟩ := info_parts hinfo
  have hown : w.ownsRow base e size (.slice (some ⟨g, 0, none⟩) 0 0) 0 [] := ⟨by simp, .inr ⟨g, 0, #[], rfl, hbg, hg, Nat.le_refl _, Nat.zero_le _, by simp, by simp⟩⟩
  have hgl := heap_lt hg
  rcases hl with ⟨rfl, rfl, rfl⟩ | ⟨ad, cap, rfl, hc⟩
  · exact ⟨_, w, run_append_owned_none w base t ty e i8 size ht hi8 _ _ _ hown, hown, Below.refl _ _⟩
  · subst hz2
    by_cases hm : len = 0
    · subst hm
      have hn : news = [] := List.eq_nil_of_length_eq_zero (by simpa using hln)
      subst hn
      have hr := run_append_room (P := P) w t ty e i8 ht hi8 g 0 0 #[] hg ad 0 cap [] hln hc h1 (Nat.le_refl _) (by simp)
      have hh : (w.setRow g (#[] : Array Value)).heap[g]? = w.heap[g]? := (setRow_heap w g #[] _ e _ hg).trans hg.symm
      have hb : Below w.heap.size w (w.setRow g (#[] : Array Value)) := ⟨rfl, rfl, rfl, by simp, fun k _ => by
        by_cases hk : k = g
        · subst hk; exact hh
        · exact setRow_other w g k _ hk⟩
      refine ⟨_, _, hr, ?_, by simpa using hb⟩
      have := Row.owned_below hown hb
      simpa using this
    · have hr := run_append_grow (P := P) w t ty e i8 z ht hi8 hz1 ⟨g, 0, none⟩ 0 0 [] (by simp) (fun j u hu => by simp at hu) ad len cap news hln hc (by omega) (by unfold maxLen at h63; omega) (growslice_fits (by omega) (by rw [hz3]; simpa using hbd))
      simp only [Nat.zero_add] at hr
      refine ⟨_, _, hr, ⟨hln, .inr ⟨w.heap.size, _, _, rfl, by omega, heap_alloc_new w.drew _, ?_, grownCap_le_maxLen w len 0 e (by omega), ?_, ?_⟩⟩, ⟨rfl, rfl, rfl, by simp, fun k hk => heap_alloc_old w.drew _ hk⟩⟩
      · have := grownCap_ge w len 0 e; omega
      · have hge := grownCap_ge w len 0 e
        simp only [Array.size_append, List.size_toArray, size_zeroCells, hzs, hln, List.length_nil, Nat.zero_add, ← Nat.add_mul]
        congr 1
        omega
      · rw [← hln]; simp

theorem setC_flat (l : List (Int × Int)) : (l.flatMap setC).length = l.length * 2 := by
  induction l with
  | nil => rfl
  | cons s l ih => rw [List.flatMap_cons, List.length_append, ih, List.length_cons]; simp [setC]; omega
theorem setC_one (l : List (Int × Int)) : ∀ u ∈ l.flatMap setC, u.oneCell' = true := fun v hv => by
  obtain ⟨s, _, hs⟩ := List.mem_flatMap.1 hv
  simp [setC] at hs
  rcases hs with rfl | rfl <;> rfl
theorem own_empty {w : World} {base size g : Nat} {e : TypeId} (hg : w.heap[g]? = some (.cells #[] e (0, 0))) (hbg : base ≤ g) : w.ownsRow base e size (.slice (some ⟨g, 0, none⟩) 0 0) 0 [] :=
  ⟨by simp, .inr ⟨g, 0, #[], rfl, hbg, hg, Nat.le_refl _, Nat.zero_le _, by simp, by simp⟩⟩

section
variable {ops : Array Oper} {C : World → Prop} {K : Act → Prop} {act : Act} {o : Oper} {a b c d : Int}
theorem quiet_eqS (x y : Operand) (ty : TypeId) (ho : o.op = .binOp .eql 27 x y ty) (hx : act.eval x = .agg #[.int .i64 a, .int .i64 b]) (hy : act.eval y = .agg #[.int .i64 c, .int .i64 d]) (hk : K (act.put o.dst (.bool (decide (a = c) && decide (b = d))))) : o.quiet Try.prog act C K :=
  ⟨_, fun w _ => by unfold Oper.quietAt; simp only [ho, execOp, hx, hy]; simp [go_sem]; by_cases e1 : a = c <;> by_cases e2 : b = d <;> simp [e1, e2], hk⟩
theorem quiet_neqS (x y : Operand) (ty : TypeId) (ho : o.op = .binOp .neq 27 x y ty) (hx : act.eval x = .agg #[.int .i64 a, .int .i64 b]) (hy : act.eval y = .agg #[.int .i64 c, .int .i64 d]) (hk : K (act.put o.dst (.bool (!(decide (a = c) && decide (b = d)))))) : o.quiet Try.prog act C K :=
  ⟨_, fun w _ => by unfold Oper.quietAt; simp only [ho, execOp, hx, hy]; simp [go_sem]; by_cases e1 : a = c <;> by_cases e2 : b = d <;> simp [e1, e2], hk⟩
end
end Pk
end Go.Proofs.Ytdmhenlfhbigbaa
