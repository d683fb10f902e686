/- Layer 9 (pick): the map of the settings that were asked for last, as it reads. -/
import Derived.Test.YtdmhenlfhbigbaaPickSort
import Derived.Test.YtdmhenlfhbigbaaFeatExcl
import Derived.Maps.RangeWalk
import Derived.Maps.Ext
import Derived.DeepKeys4
namespace Go.Proofs.Ytdmhenlfhbigbaa
open Go.RowKit
namespace Pk
open Ch Ft Go.Maps

/-- A setting as a map's key reads. -/
def kl (s : Int × Int) : Lit := .string (keyBytes [.int .i64 s.1, .int .i64 s.2])
def wf64 (s : Int × Int) : Prop := (Lit.int .i64 s.1).wf = true ∧ (Lit.int .i64 s.2).wf = true
theorem laidOut : laidOutB Try.prog = true := by kernel_rfl
theorem keyed : Keyed Try.prog 27 := Keyed.of_law (deep_law_laid laidOut (m := 2) (by omega) (of_decide_eq_true (by kernel_rfl)) (by kernel_rfl) (by rw [Try.underlying27]))
theorem key_type : Try.prog.keyType 27 = true := by kernel_rfl
theorem cells_set : Try.prog.cellsOf 27 = 2 := by kernel_rfl
theorem cells_int : Try.prog.cellsOf 3 = 1 := by kernel_rfl
theorem types_size : ∃ m, Try.prog.types.size = m + 1 := ⟨Try.prog.types.size - 1, by have : 0 < Try.prog.types.size := of_decide_eq_true (by kernel_rfl); omega⟩
theorem keyOf_set (s : Int × Int) (h : wf64 s) : keyOf Try.prog 27 (setV s) = some (kl s) := by
  obtain ⟨m, hm⟩ := types_size
  have h1 : (Value.agg #[Value.int IntKind.i64 s.1, Value.int IntKind.i64 s.2]).formed Try.prog 27 = true := by simp [Value.formed, Try.underlying27, cells_set]
  unfold keyOf setV
  simp only [Try.underlying27, key_type, h1, Bool.and_self, if_true]
  rw [hm]
  simp [Program.keyLits, Try.underlying27, Try.underlying3, Value.cells, cells_set, cells_int, h.1, h.2, kl]
set_option maxRecDepth 100000 in
theorem keyOf_set_inv {v : Value} {l : Lit} (h : keyOf Try.prog 27 v = some l) : ∃ s, wf64 s ∧ v = setV s ∧ l = kl s := by
  obtain ⟨m, hm⟩ := types_size
  unfold keyOf at h
  simp only [Try.underlying27, key_type, Bool.true_and] at h
  rw [hm] at h
  split at h
  · rename_i hf
    cases v with
    | agg cs =>
      simp only [Value.formed, Try.underlying27, cells_set, beq_iff_eq] at hf
      obtain ⟨cs⟩ := cs
      have hf2 : cs.length = 2 := by simpa using hf
      clear hf
      rcases cs with _ | ⟨c0, _ | ⟨c1, _ | ⟨c2, cs⟩⟩⟩
      · cases hf2
      · cases hf2
      · simp [Program.keyLits, Try.underlying27, Try.underlying3, Value.cells, cells_set, cells_int] at h
        cases c0 <;> simp at h
        rename_i k0 n0
        by_cases hk0 : k0 = IntKind.i64 ∧ (Lit.int IntKind.i64 n0).wf = true
        · rw [if_pos hk0] at h
          cases c1 <;> simp at h
          rename_i k1 n1
          by_cases hk1 : k1 = IntKind.i64 ∧ (Lit.int IntKind.i64 n1).wf = true
          · rw [if_pos hk1] at h
            simp at h
            obtain ⟨rfl, hw0⟩ := hk0
            obtain ⟨rfl, hw1⟩ := hk1
            exact ⟨(n0, n1), ⟨hw0, hw1⟩, rfl, h.symm⟩
          · rw [if_neg hk1] at h
            simp at h
        · rw [if_neg hk0] at h
          simp at h
      · simp at hf2
    | _ => simp [Value.formed, Try.underlying27] at hf
  · cases h

theorem kl_inj {a b : Int × Int} (ha : wf64 a) (hb : wf64 b) (h : kl a = kl b) : a = b := by
  have h1 := keyOf_set a ha
  rw [h] at h1
  have h2 := keyed.inj h1 (keyOf_set b hb)
  simp [setV] at h2
  exact Prod.ext h2.1 h2.2
theorem kl_key (a : Int × Int) (ha : wf64 a) : WideAt.IsKeyLit (kl a) := keyed.key (keyOf_set a ha)

/-- A setting as a map's element reads. -/
def dS (s : Int × Int) : DataW Unit := .agg [.lit (.int .i64 s.1), .lit (.int .i64 s.2)]
def readS : Value → Option (DataW Unit × List MemPlace)
  | .agg ⟨[.int .i64 a, .int .i64 b]⟩ => some (dS (a, b), [])
  | _ => none
theorem readS_mk (s : Int × Int) : readS (setV s) = some (dS s, []) := rfl
theorem readS_inv {v : Value} {y : DataW Unit × List MemPlace} (h : readS v = some y) : ∃ s : Int × Int, v = setV s ∧ y = (dS s, []) := by
  unfold readS at h
  split at h
  · cases h; exact ⟨(_, _), rfl, rfl⟩
  · cases h
theorem dS_inj {a b : Int × Int} (h : dS a = dS b) : a = b := by
  simp [dS] at h
  exact Prod.ext h.1 h.2

def rightB (s : Int × Int) : Bool := decide (0 ≤ s.1 ∧ s.1 ≤ 65535 ∧ 0 ≤ s.2 ∧ s.2 ≤ 65535)
/-- Whose place a setting takes. -/
def ck (fs : List FeatD) (s : Int × Int) : Int × Int := if exclL fs s.1 then (s.1, -1) else (s.1, s.2 / 2)
theorem ck_wf (fs : List FeatD) (s : Int × Int) (h : rightB s = true) : wf64 (ck fs s) := by
  have h2 := of_decide_eq_true h
  unfold ck wf64
  split <;> refine ⟨?_, ?_⟩ <;> simp [Lit.wf, IntKind.min, IntKind.max, IntKind.bits, IntKind.signed] <;> omega

/-- The map, behind some settings. -/
def Dm (fs : List FeatD) : List (Int × Int) → DataW Unit := fun l => l.foldl (fun D s => if rightB s then D.put (kl (ck fs s)) (dS s) else D) (.map [])
theorem Dm_snoc (fs : List FeatD) (l : List (Int × Int)) (s : Int × Int) : Dm fs (l ++ [s]) = if rightB s then (Dm fs l).put (kl (ck fs s)) (dS s) else Dm fs l := by
  unfold Dm; rw [List.foldl_append]; rfl
theorem Dm_map (fs : List FeatD) (l : List (Int × Int)) : IsMap (Dm fs l) := by
  have key : ∀ (l : List (Int × Int)) (D : DataW Unit), IsMap D → IsMap (l.foldl (fun D s => if rightB s then D.put (kl (ck fs s)) (dS s) else D) D) := by
    intro l
    induction l with
    | nil => exact fun D h => h
    | cons s l ih =>
      intro D h
      refine ih _ ?_
      show IsMap (if rightB s then D.put (kl (ck fs s)) (dS s) else D)
      split
      · exact h.put _ _
      · exact h
  exact key l _ isMap_empty

/-- The last one that takes a place. -/
def lastK (fs : List FeatD) (l : List (Int × Int)) (c : Int × Int) : Option (Int × Int) := l.foldl (fun o s => if rightB s && decide (ck fs s = c) then some s else o) none
theorem lastK_snoc (fs : List FeatD) (l : List (Int × Int)) (s c : Int × Int) : lastK fs (l ++ [s]) c = if rightB s && decide (ck fs s = c) then some s else lastK fs l c := by
  unfold lastK; rw [List.foldl_append]; rfl
theorem rev_ind {α : Type} {p : List α → Prop} (h0 : p []) (h1 : ∀ l x, p l → p (l ++ [x])) : ∀ l, p l := fun l => by
  have key : ∀ n (l : List α), l.length = n → p l := by
    intro n
    induction n with
    | zero => intro l h; rw [List.length_eq_zero_iff.1 h]; exact h0
    | succ n ih =>
      intro l h
      have hne : l ≠ [] := fun e => by rw [e] at h; cases h
      rw [← List.dropLast_concat_getLast hne]
      exact h1 _ _ (ih _ (by rw [List.length_dropLast]; omega))
  exact key _ l rfl
theorem lastK_some (fs : List FeatD) {c s : Int × Int} : ∀ l, lastK fs l c = some s → s ∈ l ∧ rightB s = true ∧ ck fs s = c := by
  refine rev_ind (fun h => by cases h) fun l x ih h => ?_
  rw [lastK_snoc] at h
  split at h
  · rename_i hc
    cases h
    simp at hc
    exact ⟨by simp, hc.1, hc.2⟩
  · obtain ⟨h1, h2⟩ := ih h
    exact ⟨by simp [h1], h2⟩
theorem Dm_reads (fs : List FeatD) (c : Int × Int) (hc : wf64 c) : ∀ l, (has (Dm fs l) (kl c) = (lastK fs l c).isSome) ∧ ∀ s, lastK fs l c = some s → ∀ z, (Dm fs l).atKey (kl c) z = dS s := by
  refine rev_ind ⟨rfl, fun s h => by cases h⟩ fun l x ih => ?_
  rw [Dm_snoc, lastK_snoc]
  cases hr : rightB x with
  | false => simp only [Bool.false_and, if_false, Bool.false_eq_true]; exact ih
  | true =>
    simp only [Bool.true_and, if_true]
    by_cases h : ck fs x = c
    · rw [h]
      simp only [decide_true, if_true]
      refine ⟨by rw [has_put_same (Dm_map fs l) (kl_key c hc)]; rfl, fun s hs z => ?_⟩
      cases hs
      exact atKey_put_same (Dm_map fs l) (kl_key c hc) _ z
    · have hne : kl c ≠ kl (ck fs x) := fun e => h (kl_inj (ck_wf fs x hr) hc e.symm)
      rw [decide_eq_false h]
      simp only [if_false, Bool.false_eq_true]
      exact ⟨by rw [has_put_other hne]; exact ih.1, fun s hs z => by rw [atKey_put_other hne]; exact ih.2 s hs z⟩
theorem Dm_has {fs : List FeatD} {k : Lit} : ∀ l, has (Dm fs l) k = true → ∃ s ∈ l, rightB s = true ∧ k = kl (ck fs s) := by
  refine rev_ind (fun h => by cases h) fun l x ih h => ?_
  rw [Dm_snoc] at h
  split at h
  · rename_i hr
    by_cases e : k = kl (ck fs x)
    · exact ⟨x, by simp, hr, e⟩
    · rw [has_put_other e] at h
      obtain ⟨s, hs, h2⟩ := ih h
      exact ⟨s, by simp [hs], h2⟩
  · obtain ⟨s, hs, h2⟩ := ih h
    exact ⟨s, by simp [hs], h2⟩
end Pk
end Go.Proofs.Ytdmhenlfhbigbaa
