/- Regions that draw their order: (A) where one operation is sure to panic; (B) where quiet operations are followed by a tail in forced order. Both over a class of worlds. -/
import Derived.Test.YtkmbeohheblhhaaBase
import Derived.StillTail
namespace Go.Proofs.Ytkmbeohheblhhaa
open Go.RowKit
namespace Ord

section
variable {P : Program} {ops : Array Oper} {md : Region.Mode} {C : World → Prop} {Z : List PanicEntry → World → Prop}

/-- The operation does not come to its end: it panics, and Z holds of what was thrown. -/
def haltUpon (P : Program) (Z : List PanicEntry → World → Prop) (w : World) : Result Next → Prop
  | .ok (.enter f args) w' => w' = w ∧ Calls P f args w (fun e w'' => ∃ ch, e = .panicked ch ∧ Z ch w'')
  | .halt (.panic v) w' => Z [{ v, recovered := false }] w'
  | _ => False

def haltsIn (P : Program) (C : World → Prop) (Z : List PanicEntry → World → Prop) (o : Oper) (a : Act) : Prop := ∀ w, C w → haltUpon P Z w ((execOp a.eval o).run P w)

theorem wp_of_halts {o : Oper} {a : Act} {K : Act → World → Prop} {Q : Exit → Act → World → Prop} {w : World} (hw : C w) (hQ : ∀ ch w, Z ch w → Q (.panic ch) a w) (h : haltsIn P C Z o a) : o.wp P a w K Q := by
  have h1 := h w hw
  unfold Oper.wp
  generalize (execOp a.eval o).run P w = r at *
  cases r with
  | ok n w' =>
    cases n <;> simp only [haltUpon] at h1 <;> simp only [Oper.upon]
    case enter f args =>
      obtain ⟨e1, hc⟩ := h1
      rw [e1]
      exact hc.mono fun e w'' ⟨ch, he, hz⟩ => by subst he; exact hQ _ _ hz
  | halt x w' =>
    cases x <;> simp only [haltUpon] at h1
    exact hQ _ _ h1

theorem put_defers (a : Act) (d : Option Tmp) (v : Value) : (a.put d v).defers = a.defers := by cases d <;> rfl

def pOp (P : Program) (ops : Array Oper) (C : World → Prop) (Z : List PanicEntry → World → Prop) (i : Nat) (K : Act → Prop) (a : Act) : Prop :=
  match ops[i]? with
  | none => K a
  | some o => if Region.wanted o (yielded ops a.tmps) then (o.quiet P a C K ∨ haltsIn P C Z o a) else K (a.put o.dst undef)

theorem pOp_mono {i : Nat} {a : Act} {K K' : Act → Prop} (h : ∀ a, K a → K' a) (hh : pOp P ops C Z i K a) : pOp P ops C Z i K' a := by
  unfold pOp at *
  cases ho : ops[i]? with
  | none => rw [ho] at hh; exact h _ hh
  | some o =>
    rw [ho] at hh
    simp only at hh ⊢
    by_cases hw : Region.wanted o (yielded ops a.tmps) = true
    · rw [if_pos hw] at hh ⊢
      exact hh.imp (Oper.quiet_mono h) id
    · rw [if_neg hw] at hh ⊢
      exact h _ hh

theorem pOp_of_qOp {i : Nat} {a : Act} {K : Act → Prop} (hh : qOp P ops C i K a) : pOp P ops C Z i K a := by
  unfold pOp
  unfold qOp at hh
  cases ho : ops[i]? with
  | none => rw [ho] at hh; exact hh
  | some o =>
    rw [ho] at hh
    simp only at hh ⊢
    by_cases hw : Region.wanted o (yielded ops a.tmps) = true
    · rw [if_pos hw] at hh ⊢; exact .inl hh
    · rw [if_neg hw] at hh ⊢; exact hh

theorem wpOp_of_pOp {i : Nat} {a : Act} {K : Act → Prop} {K' : Act → World → Prop} {Q : Exit → Act → World → Prop} {w : World} (hC : C w) (hQ : ∀ ch w, Z ch w → Q (.panic ch) a w)
    (h : ∀ a' w', C w' → a'.defers = a.defers → K a' → K' a' w') (hh : pOp P ops C Z i K a) : wpOp P ops Q i K' a w := by
  replace hh : pOp P ops C Z i (fun a' => a'.defers = a.defers ∧ K a') a := by
    unfold pOp at *
    cases ho : ops[i]? with
    | none => rw [ho] at hh; exact ⟨rfl, hh⟩
    | some o =>
      rw [ho] at hh
      simp only at hh ⊢
      by_cases hw : Region.wanted o (yielded ops a.tmps) = true
      · rw [if_pos hw] at hh ⊢
        refine hh.imp (fun ⟨v, h1, h2⟩ => ⟨v, h1, put_defers a o.dst v, h2⟩) id
      · rw [if_neg hw] at hh ⊢
        exact ⟨put_defers a o.dst undef, hh⟩
  replace h : ∀ a' w', C w' → (a'.defers = a.defers ∧ K a') → K' a' w' := fun a' w' hc hk => h a' w' hc hk.1 hk.2
  unfold pOp at hh
  unfold wpOp
  cases ho : ops[i]? with
  | none => rw [ho] at hh; exact h _ _ hC hh
  | some o =>
    rw [ho] at hh
    simp only at hh ⊢
    by_cases hw : Region.wanted o (yielded ops a.tmps) = true
    · rw [if_pos hw] at hh ⊢
      exact .inl (hh.elim (Oper.wp_of_quiet hC h) (wp_of_halts hC hQ))
    · rw [if_neg hw] at hh ⊢
      exact h _ _ hC hh

def wpAnyZ (P : Program) (md : Region.Mode) (ops : Array Oper) (C : World → Prop) (Z : List PanicEntry → World → Prop) : Nat → Array Bool → Act → Prop
  | 0, _, _ => False
  | n + 1, listed, a => Region.ready md ops listed ≠ [] ∧ ∀ i ∈ Region.ready md ops listed, pOp P ops C Z i (wpAnyZ P md ops C Z n (listed.setIfInBounds i true)) a

theorem wpAny_of_Z {Q : Exit → Act → World → Prop} {d : List Deferred} (hQ : ∀ ch a w, a.defers = d → Z ch w → Q (.panic ch) a w) : ∀ (n m : Nat) (listed : Array Bool) (a : Act) (w : World), C w → a.defers = d → n ≤ m →
    wpAnyZ P md ops C Z n listed a → wpAny P md ops Q m listed a w
  | 0, _, _, _, _, _, _, _, h => h.elim
  | n + 1, 0, _, _, _, _, _, hm, _ => absurd hm (by omega)
  | n + 1, m + 1, _, _, _, hw, hd, hm, h =>
    ⟨fun h0 => absurd h0 h.1, fun i hi => wpOp_of_pOp hw (fun ch w hz => hQ ch _ w hd hz) (fun a' w' hw' hd' h' => wpAny_of_Z hQ n m _ a' w' hw' (hd'.trans hd) (by omega) h') (h.2 i hi)⟩

theorem pOp_put {j : Nat} {oi oj : Oper} {v : Value} (hj : ops[j]? = some oj) (hap : oi.apart ops oj = true)
    (hsi : ∀ cs b, oi.op ≠ .select cs b) (hsj : ∀ cs b, oj.op ≠ .select cs b) {K : Act → Prop} {a : Act}
    (hy : YieldsIn P ops C oi v a) (h : pOp P ops C Z j K (a.put oi.dst v)) :
    pOp P ops C Z j (fun a' => YieldsIn P ops C oi v a' ∧ K (a'.put oi.dst v)) a := by
  obtain ⟨h1, h2, h3⟩ := Oper.apart_spec hap
  by_cases hw : Region.wanted oj (yielded ops a.tmps) = true
  · have hw' : Region.wanted oj (yielded ops (a.put oi.dst v).tmps) = true := by rw [wanted_put oj a oi.dst v h1]; exact hw
    unfold pOp at h
    simp only [hj] at h
    rw [if_pos hw'] at h
    rcases h with h | h
    · refine pOp_of_qOp (qOp_put hj hap hsi hsj hy ?_)
      unfold qOp
      simp only [hj]
      rw [if_pos hw']
      exact h
    · unfold pOp
      simp only [hj]
      rw [if_pos hw]
      right
      intro w hw2
      have := h w hw2
      rwa [execOp_put oj hsj a oi.dst v h1] at this
  · refine pOp_of_qOp (qOp_put hj hap hsi hsj hy ?_)
    have hw' : ¬ Region.wanted oj (yielded ops (a.put oi.dst v).tmps) = true := by rw [wanted_put oj a oi.dst v h1]; exact hw
    unfold pOp at h
    simp only [hj] at h
    rw [if_neg hw'] at h
    unfold qOp
    simp only [hj]
    rw [if_neg hw']
    exact h

theorem wpAnyZ_first {i : Nat} {oi : Oper} {v : Value} (hi : ops[i]? = some oi) (hsel : ∀ (j : Nat) (o : Oper) cs b, ops[j]? = some o → o.op ≠ .select cs b) :
    ∀ (n : Nat) (listed : Array Bool) (a : Act),
      (∀ j oj, ops[j]? = some oj → j ≠ i → listed.getD j true = false → (∀ e ∈ oj.after, Region.binds md e = true → e.on ≠ i) → oi.apart ops oj = true) →
      i ∈ Region.ready md ops listed → YieldsIn P ops C oi v a →
      wpAnyZ P md ops C Z n (listed.setIfInBounds i true) (a.put oi.dst v) → wpAnyZ P md ops C Z (n + 1) listed a := by
  intro n
  induction n with
  | zero => intro _ _ _ _ _ H; exact H.elim
  | succ n ih =>
    intro listed a hfree hr hy H
    have hun := (mem_ready.1 hr).1
    refine ⟨fun h => (by rw [h] at hr; cases hr), fun j hj => ?_⟩
    by_cases hji : j = i
    · subst hji; exact pOp_of_qOp (hy.qOp hi H)
    · have h1 := H.2 j (ready_mono hj hji)
      obtain ⟨hjun, oj, hoj, hall⟩ := mem_ready.1 hj
      have hnot : ∀ e ∈ oj.after, Region.binds md e = true → e.on ≠ i := fun e he hb heq => by
        have h1 := hall e he hb
        rw [heq, getD_both hun] at h1
        cases h1
      have h2 := pOp_put hoj (hfree j oj hoj hji hjun hnot) (fun cs b => hsel i oi cs b hi) (fun cs b => hsel j oj cs b hoj) hy h1
      have hfree' : ∀ k ok, ops[k]? = some ok → k ≠ i → (listed.setIfInBounds j true).getD k true = false →
          (∀ e ∈ ok.after, Region.binds md e = true → e.on ≠ i) → oi.apart ops ok = true := fun k ok hk hki hun hno => by
        refine hfree k ok hk hki ?_ hno
        by_cases hjk : j = k
        · subst hjk; exact hjun
        · rw [getD_set_ne true hjk] at hun; exact hun
      refine pOp_mono (fun a' h3 => ih (listed.setIfInBounds j true) a' hfree' (ready_mono hr (Ne.symm hji)) h3.1 ?_) h2
      rw [Array.setIfInBounds_comm _ _ hji]
      exact h3.2

/-- The operations that a mask picks. -/
def pick : List Oper → List Bool → List Oper
  | o :: l, true :: m => o :: pick l m
  | _ :: l, false :: m => pick l m
  | _, _ => []

/-- The order of the mask is one in which each operation may be taken first, and behind it operation p alone may come up. -/
def maskB (md : Region.Mode) (ops : Array Oper) (p : Nat) : List Bool → Nat → Array Bool → Bool
  | [], _, listed => decide (Region.ready md ops listed = [p])
  | true :: m, k, listed => (Region.ready md ops listed).contains k && Region.free md ops listed k && maskB md ops p m (k + 1) (listed.setIfInBounds k true)
  | false :: m, k, listed => maskB md ops p m (k + 1) listed

theorem wpAnyZ_mask {p : Nat} {op : Oper} (hsel : Region.noSelect ops = true) (hp : ops[p]? = some op) : ∀ (m : List Bool) (l : List Oper) (k : Nat) (listed : Array Bool) (a : Act),
    (∀ j, l[j]? = ops[k + j]?) → m.length = l.length → maskB md ops p m k listed = true →
    wpQuiet P ops C (fun a' => Region.wanted op (yielded ops a'.tmps) = true ∧ haltsIn P C Z op a') (pick l m) a → wpAnyZ P md ops C Z (m.count true + 1) listed a
  | [], l, k, listed, a, hl, hm, hB, h => by
    have hB' : Region.ready md ops listed = [p] := of_decide_eq_true hB
    have hl0 : l = [] := List.length_eq_zero_iff.1 hm.symm
    subst hl0
    refine ⟨by rw [hB']; simp, fun i hi => ?_⟩
    rw [hB'] at hi
    have : i = p := by simpa using hi
    subst this
    have h' : Region.wanted op (yielded ops a.tmps) = true ∧ haltsIn P C Z op a := h
    unfold pOp
    simp only [hp]
    rw [if_pos h'.1]
    exact .inr h'.2
  | b :: m, [], _, _, _, _, hm, _, _ => by simp at hm
  | false :: m, o :: l, k, listed, a, hl, hm, hB, h => by
    have H := wpAnyZ_mask hsel hp m l (k + 1) listed a (fun j => by have := hl (j + 1); simpa [Nat.add_assoc, Nat.add_comm 1 j] using this) (by simpa using hm) hB h
    simpa using H
  | true :: m, o :: l, k, listed, a, hl, hm, hB, h => by
    have h0 : ops[k]? = some o := by simpa using (hl 0).symm
    simp only [maskB, Bool.and_eq_true] at hB
    obtain ⟨⟨hr, hf⟩, hB'⟩ := hB
    have hst : qOp P ops C k (wpQuiet P ops C (fun a' => Region.wanted op (yielded ops a'.tmps) = true ∧ haltsIn P C Z op a') (pick l m)) a := by unfold qOp; simp only [h0]; exact h
    obtain ⟨v, hy, hK⟩ := yieldsIn_of_qOp h0 hst
    have H := wpAnyZ_mask hsel hp m l (k + 1) _ _ (fun j => by have := hl (j + 1); simpa [Nat.add_assoc, Nat.add_comm 1 j] using this) (by simpa using hm) hB' hK
    rw [List.count_cons_self]
    exact wpAnyZ_first h0 (Region.noSelect_spec hsel) _ listed a (Region.free_spec h0 hf) (by simpa using hr) hy H

/-- (A) Operation p panics: the operations of the mask go first. -/
theorem region_halt {id : Nat} {Q : Exit → Act → World → Prop} {a : Act} {w : World} {l : List Oper} {I : Type} {F : I → World} (Z : List PanicEntry → World → Prop) (m : List Bool) (p : Nat) (op : Oper)
    (hp : l[p]? = some op) (hm : P.follows .mixedOrders = true) (hB : (Region.noSelect l.toArray && decide (m.length = l.length) && decide (m.count true < l.length) && maskB .any l.toArray p m 0 (Array.replicate l.toArray.size false)) = true)
    (h0 : ∃ i, w.drew = F i) (hQ : ∀ ch a' w, a'.defers = a.defers → Z ch w → Q (.panic ch) a' w)
    (h : wpQuiet P l.toArray (fun w' => ∃ i, w' = F i) (fun a' => Region.wanted op (yielded l.toArray a'.tmps) = true ∧ haltsIn P (fun w' => ∃ i, w' = F i) Z op a') (pick l m) a) : (Code.region id l.toArray true).wp P Q a w := by
  simp only [Bool.and_eq_true, decide_eq_true_eq] at hB
  obtain ⟨⟨⟨hs, hml⟩, hcn⟩, hB⟩ := hB
  refine wp_region_any hm ?_
  have H := wpAnyZ_mask (md := .any) hs (by simpa using hp) m l 0 (Array.replicate l.toArray.size false) a (by simp) hml hB h
  exact wpAny_of_Z hQ _ _ _ _ _ h0 rfl (by simp only [List.size_toArray]; omega) H

/-! ### (B) Quiet operations, then a tail in forced order -/

def wpAnyT (P : Program) (md : Region.Mode) (ops : Array Oper) (C : World → Prop) (n : Nat) (L : Array Bool → Act → Prop) : Nat → Array Bool → Act → Prop
  | 0, listed, a => L listed a
  | f + 1, listed, a => Region.ready md ops listed ≠ [] ∧ ∀ i ∈ Region.ready md ops listed, i < n ∧ qOp P ops C i (wpAnyT P md ops C n L f (listed.setIfInBounds i true)) a

theorem wpAny_of_T {n g : Nat} {L : Array Bool → Act → Prop} {Q : Exit → Act → World → Prop} (hL : ∀ listed a w, C w → L listed a → wpAny P md ops Q g listed a w) :
    ∀ (f : Nat) (listed : Array Bool) (a : Act) (w : World), C w → wpAnyT P md ops C n L f listed a → wpAny P md ops Q (f + g) listed a w
  | 0, listed, a, w, hw, h => by rw [Nat.zero_add]; exact hL _ _ _ hw h
  | f + 1, listed, a, w, hw, h => by
    rw [show f + 1 + g = (f + g) + 1 by omega]
    exact ⟨fun h0 => absurd h0 h.1, fun i hi => wpOp_of_qOp hw (fun a' w' hw' h' => wpAny_of_T hL f _ a' w' hw' h') (h.2 i hi).2⟩

theorem wpAnyT_first {n i : Nat} {oi : Oper} {v : Value} {L : Array Bool → Act → Prop} (hi : ops[i]? = some oi) (hsel : ∀ (j : Nat) (o : Oper) cs b, ops[j]? = some o → o.op ≠ .select cs b)
    (hs : Region.sinkB md ops n = true) (hc : Region.chainB md ops n = true) (hn : n < ops.size) (hin : i < n)
    (hdone : ∀ listed a, L listed a → ∀ j ∈ Region.ready md ops listed, n ≤ j) :
    ∀ (f : Nat) (listed : Array Bool) (a : Act), HeadInv md ops n listed →
      (∀ j oj, ops[j]? = some oj → j ≠ i → listed.getD j true = false → (∀ e ∈ oj.after, Region.binds md e = true → e.on ≠ i) → oi.apart ops oj = true) →
      i ∈ Region.ready md ops listed → YieldsIn P ops C oi v a →
      wpAnyT P md ops C n L f (listed.setIfInBounds i true) (a.put oi.dst v) → wpAnyT P md ops C n L (f + 1) listed a := by
  intro f
  induction f with
  | zero =>
    intro listed a inv _ hr hy H
    have hun := (mem_ready.1 hr).1
    have hall : ∀ j ∈ Region.ready md ops listed, j < n := fun j hj => by
      rcases Nat.lt_or_ge j n with h | h
      · exact h
      · exact absurd hj (tail_waits hs hc hn inv _ i rfl hin hun j h)
    refine ⟨fun h => (by rw [h] at hr; cases hr), fun j hj => ⟨hall j hj, ?_⟩⟩
    by_cases hji : j = i
    · subst hji; exact hy.qOp hi H
    · have := hdone _ _ H j (ready_mono hj hji)
      have := hall j hj
      omega
  | succ f ih =>
    intro listed a inv hfree hr hy H
    have hun := (mem_ready.1 hr).1
    have hall : ∀ j ∈ Region.ready md ops listed, j < n := fun j hj => by
      rcases Nat.lt_or_ge j n with h | h
      · exact h
      · exact absurd hj (tail_waits hs hc hn inv _ i rfl hin hun j h)
    refine ⟨fun h => (by rw [h] at hr; cases hr), fun j hj => ⟨hall j hj, ?_⟩⟩
    by_cases hji : j = i
    · subst hji; exact hy.qOp hi H
    · have h1 := (H.2 j (ready_mono hj hji)).2
      obtain ⟨hjun, oj, hoj, hwait⟩ := mem_ready.1 hj
      have hnot : ∀ e ∈ oj.after, Region.binds md e = true → e.on ≠ i := fun e he hb heq => by
        have h1 := hwait e he hb
        rw [heq, getD_both hun] at h1
        cases h1
      have h2 := qOp_put hoj (hfree j oj hoj hji hjun hnot) (fun cs b => hsel i oi cs b hi) (fun cs b => hsel j oj cs b hoj) hy h1
      have hfree' : ∀ k ok, ops[k]? = some ok → k ≠ i → (listed.setIfInBounds j true).getD k true = false →
          (∀ e ∈ ok.after, Region.binds md e = true → e.on ≠ i) → oi.apart ops ok = true := fun k ok hk hki hun hno => by
        refine hfree k ok hk hki ?_ hno
        by_cases hjk : j = k
        · subst hjk; exact hjun
        · rw [getD_set_ne true hjk] at hun; exact hun
      refine qOp_mono (fun a' h3 => ih (listed.setIfInBounds j true) a' (inv.set hj (hall j hj)) hfree' (ready_mono hr (Ne.symm hji)) h3.1 ?_) h2
      rw [Array.setIfInBounds_comm _ _ hji]
      exact h3.2

theorem wpAnyT_lex {n g : Nat} {Lq : Act → Prop} (hsel : Region.noSelect ops = true) (hs : Region.sinkB md ops n = true) (hc : Region.chainB md ops n = true) (hn : n < ops.size) :
    ∀ (l : List Oper) (k : Nat) (listed : Array Bool) (a : Act), (∀ j, j < l.length → l[j]? = ops[k + j]?) → k + l.length = n → HeadInv md ops n listed →
    Region.lexHead md ops g l.length k listed = true → wpQuiet P ops C Lq l a →
    wpAnyT P md ops C n (fun listed' a' => Region.seqB md ops g n listed' = true ∧ Lq a') l.length listed a
  | [], k, listed, a, _, hk, _, hB, h => by
    have : k = n := by simpa using hk
    subst this
    exact ⟨by simpa [Region.lexHead] using hB, h⟩
  | o :: l, k, listed, a, hl, hk, inv, hB, h => by
    have h0 : ops[k]? = some o := by simpa using (hl 0 (by simp)).symm
    simp only [List.length_cons, Region.lexHead, Bool.and_eq_true] at hB
    obtain ⟨⟨hr, hf⟩, hB'⟩ := hB
    have hkn : k < n := by simp only [List.length_cons] at hk; omega
    have hr' : k ∈ Region.ready md ops listed := by simpa using hr
    have hst : qOp P ops C k (wpQuiet P ops C Lq l) a := by unfold qOp; simp only [h0]; exact h
    obtain ⟨v, hy, hK⟩ := yieldsIn_of_qOp h0 hst
    exact wpAnyT_first h0 (Region.noSelect_spec hsel) hs hc hn hkn (fun listed' a' hL => seqB_ready hL.1) l.length listed a inv (Region.free_spec h0 hf) hr' hy
      (wpAnyT_lex hsel hs hc hn l (k + 1) _ _ (fun j hj => by have := hl (j + 1) (by simp; omega); simpa [Nat.add_assoc, Nat.add_comm 1 j] using this) (by simp only [List.length_cons] at hk; omega) (inv.set hr' hkn) hB' hK)

/-- (B) The first n operations are quiet in the family; the others come in the order of the text. -/
theorem region_tail {id : Nat} {Q : Exit → Act → World → Prop} {a : Act} {w : World} {l : List Oper} {I : Type} {F : I → World} (n : Nat) (hm : P.follows .mixedOrders = true) (hB : Region.lexTailB .any l.toArray n = true)
    (h0 : ∃ i, w.drew = F i)
    (h : wpQuiet P l.toArray (fun w' => ∃ i, w' = F i) (fun a' => ∀ i, wpList P l.toArray Q (l.drop n) a' (F i)) (l.take n) a) : (Code.region id l.toArray true).wp P Q a w := by
  simp only [Region.lexTailB, Bool.and_eq_true, decide_eq_true_eq] at hB
  obtain ⟨⟨⟨⟨hsel, hn⟩, hs⟩, hc⟩, hlex⟩ := hB
  have hn' : n < l.length := by simpa using hn
  have htl : (l.take n).length = n := by simp; omega
  have hdl : (l.drop n).length = l.toArray.size - n := by simp
  have inv0 : HeadInv .any l.toArray n (Array.replicate l.toArray.size false) :=
    ⟨by simp, fun j oj _ hl => (by rw [getD_replicate_false] at hl; cases hl), fun t _ ht => getD_in (by simpa using ht) (getD_replicate_false _ _)⟩
  have H := wpAnyT_lex (md := .any) (g := l.toArray.size - n) hsel hs hc hn (l.take n) 0 _ a (fun j hj => by
    have hj' : j < n := by rw [htl] at hj; exact hj
    simp [hj']) (by simpa using htl) inv0 (by rw [htl]; exact hlex) h
  refine wp_region_any hm ?_
  have := wpAny_of_T (Q := Q) (g := l.toArray.size - n) (fun listed a' w' hw' hL => by
    obtain ⟨i, rfl⟩ := hw'
    rw [← hdl]
    exact wpAny_of_seq (l.drop n) n listed a' _ (fun j => by simp) (by rw [hdl]; exact hL.1) (hL.2 i)) _ _ _ _ h0 H
  rw [htl] at this
  rwa [show n + (l.toArray.size - n) = l.toArray.size by omega] at this
end
end Ord
end Go.Proofs.Ytkmbeohheblhhaa
