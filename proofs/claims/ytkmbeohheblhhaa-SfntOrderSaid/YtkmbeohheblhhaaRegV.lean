/- A region that draws its order: operations whose value is fixed (they read, or call what makes memory at most), operations whose value is known by a predicate that growth keeps, and a tail in forced order. -/
import Derived.Test.YtkmbeohheblhhaaPlan
namespace Go.Proofs.Ytkmbeohheblhhaa
open Go.RowKit
namespace Pl

section
variable {P : Program} {ops : Array Oper} {Q : Exit → Act → World → Prop} {B : Nat} {W : World}

/-- What the operation does from world w: it yields v; memory has grown at most. -/
def growAt (P : Program) (w : World) (v : Value) : Result Next → Prop
  | .ok (.value u) w' => w' = w ∧ u = v
  | .ok .skip w' => w' = w ∧ undef = v
  | .ok (.enter f args) w' => w' = w ∧ Calls P f args w (fun e w'' => e = .returned v ∧ Below w.heap.size w w'')
  | _ => False

def YG (P : Program) (ops : Array Oper) (B : Nat) (W : World) (o : Oper) (v : Value) (A : Act) : Prop :=
  (Region.wanted o (yielded ops A.tmps) = true ∧ ∀ w, Below B W w → growAt P w v ((execOp A.eval o).run P w)) ∨
  (Region.wanted o (yielded ops A.tmps) = false ∧ v = undef)

/-- What the operation does from world w: it yields what R says, or is thrown as Z says. -/
def valsAt (P : Program) (R : Value → World → Prop) (Z : List PanicEntry → World → Prop) : Result Next → Prop
  | .ok (.value u) w' => R u w'
  | .ok (.enter f args) w' => Calls P f args w' (fun e w'' => (∃ u, e = .returned u ∧ R u w'') ∨ ∃ c, e = .panicked c ∧ Z c w'')
  | .halt (.panic v) w' => Z [{ v, recovered := false }] w'
  | _ => False

abbrev VP := Value → World → Prop

def dstOf (ops : Array Oper) (i : Nat) : Option Tmp := (ops[i]?).bind (·.dst)
def looksOf (ops : Array Oper) (i : Nat) : List Tmp := match ops[i]? with
  | some o => o.looksAt ops
  | none => []
def valOf (ops : Array Oper) (A : Act) (i : Nat) : Value := match dstOf ops i with
  | some d => A.tmps.getD d undef
  | none => undef
def fillF (ops : Array Oper) (A1 : Act) (a : Act) (p : List Nat) : Act := p.foldl (fun a i => a.put (dstOf ops i) (valOf ops A1 i)) a
def fillV (ops : Array Oper) (A : Act) (q : List (Nat × Value)) : Act := q.foldl (fun a x => a.put (dstOf ops x.1) x.2) A

/-- Nothing that i looks at is written by j. -/
def blind (ops : Array Oper) (i j : Nat) : Bool := match dstOf ops j with
  | some d => !(looksOf ops i).contains d
  | none => true

theorem blind_spec {i j : Nat} {o : Oper} (hi : ops[i]? = some o) (h : blind ops i j = true) : ∀ d, dstOf ops j = some d → d ∉ o.looksAt ops := by
  intro d hd
  unfold blind at h
  rw [hd] at h
  simpa [looksOf, hi] using h

theorem eval_fillF {A1 : Act} {i : Nat} {o : Oper} (hi : ops[i]? = some o) (hsel : ∀ cs b, o.op ≠ .select cs b) : ∀ (p : List Nat) (a : Act), (∀ j ∈ p, blind ops i j = true) →
    execOp (fillF ops A1 a p).eval o = execOp a.eval o ∧ Region.wanted o (yielded ops (fillF ops A1 a p).tmps) = Region.wanted o (yielded ops a.tmps)
  | [], a, _ => ⟨rfl, rfl⟩
  | j :: p, a, h => by
    have h1 := eval_fillF (A1 := A1) hi hsel p (a.put (dstOf ops j) (valOf ops A1 j)) (fun k hk => h k (by simp [hk]))
    have hb := blind_spec hi (h j (by simp))
    exact ⟨h1.1.trans (execOp_put o hsel a _ _ hb), h1.2.trans (wanted_put o a _ _ hb)⟩

theorem eval_fillV {i : Nat} {o : Oper} (hi : ops[i]? = some o) (hsel : ∀ cs b, o.op ≠ .select cs b) : ∀ (q : List (Nat × Value)) (a : Act), (∀ x ∈ q, blind ops i x.1 = true) →
    execOp (fillV ops a q).eval o = execOp a.eval o ∧ Region.wanted o (yielded ops (fillV ops a q).tmps) = Region.wanted o (yielded ops a.tmps)
  | [], a, _ => ⟨rfl, rfl⟩
  | x :: q, a, h => by
    have h1 := eval_fillV hi hsel q (a.put (dstOf ops x.1) x.2) (fun k hk => h k (by simp [hk]))
    have hb := blind_spec hi (h x (by simp))
    exact ⟨h1.1.trans (execOp_put o hsel a _ _ hb), h1.2.trans (wanted_put o a _ _ hb)⟩

theorem fillF_put {A1 : Act} {d : Option Tmp} {v : Value} : ∀ (p : List Nat) (a : Act), (∀ j ∈ p, ∀ t, d = some t → dstOf ops j ≠ some t) → fillF ops A1 (a.put d v) p = (fillF ops A1 a p).put d v
  | [], a, _ => rfl
  | j :: p, a, h => by
    show fillF ops A1 ((a.put d v).put (dstOf ops j) (valOf ops A1 j)) p = (fillF ops A1 (a.put (dstOf ops j) (valOf ops A1 j)) p).put d v
    rw [Act.put_comm a v (valOf ops A1 j) (h j (by simp))]
    exact fillF_put p _ (fun k hk => h k (by simp [hk]))

theorem fillV_put {d : Option Tmp} {v : Value} (q : List (Nat × Value)) (a : Act) {i : Nat} (hi : dstOf ops i = d) : (fillV ops a q).put d v = fillV ops a (q ++ [(i, v)]) := by
  unfold fillV; rw [List.foldl_append]; simp [hi]

theorem fillF_perm {A1 : Act} {p p' : List Nat} (h : p.Perm p') (hd : ∀ i ∈ p, ∀ j ∈ p, i ≠ j → ∀ t, dstOf ops i = some t → dstOf ops j ≠ some t) (a : Act) : fillF ops A1 a p = fillF ops A1 a p' := by
  unfold fillF
  refine h.foldl_eq' (fun i hi j hj z => ?_) a
  by_cases hij : i = j
  · subst hij; rfl
  · exact Act.put_comm z _ _ (hd i hi j hj hij)

theorem fillV_perm {q q' : List (Nat × Value)} (h : q.Perm q') (hd : ∀ x ∈ q, ∀ y ∈ q, x ≠ y → ∀ t, dstOf ops x.1 = some t → dstOf ops y.1 ≠ some t) (a : Act) : fillV ops a q = fillV ops a q' := by
  unfold fillV
  refine h.foldl_eq' (fun i hi j hj z => ?_) a
  by_cases hij : i = j
  · subst hij; rfl
  · exact Act.put_comm z _ _ (hd i hi j hj hij)

/-- The pieces of a walk: which operations they are. -/
def fitsN (ops : Array Oper) : List Nat → List Oper → Prop
  | [], [] => True
  | i :: c, o :: l => ops[i]? = some o ∧ fitsN ops c l
  | _, _ => False

theorem walk_eval {C : World → Prop} {A1 : Act} {i : Nat} {oi : Oper} (hi : ops[i]? = some oi) (hsel : ∀ cs b, oi.op ≠ .select cs b) : ∀ (c : List Nat) (l : List Oper) (a : Act), fitsN ops c l → wpQuiet P ops C (fun a' => a' = A1) l a →
    (∀ j ∈ c, blind ops i j = true) → execOp A1.eval oi = execOp a.eval oi ∧ Region.wanted oi (yielded ops A1.tmps) = Region.wanted oi (yielded ops a.tmps)
  | [], [], a, _, h, _ => by
    have h' : a = A1 := h
    subst h'; exact ⟨rfl, rfl⟩
  | [], _ :: _, _, hl, _, _ => hl.elim
  | _ :: _, [], _, hl, _, _ => hl.elim
  | j :: c, o :: l, a, hl, h, hb => by
    have hq : qOp P ops C j (wpQuiet P ops C (fun a' => a' = A1) l) a := by unfold qOp; simp only [hl.1]; exact h
    obtain ⟨v, _, hk⟩ := yieldsIn_of_qOp hl.1 hq
    have h1 := walk_eval hi hsel c l (a.put o.dst v) hl.2 hk (fun k hk => hb k (by simp [hk]))
    have hd := blind_spec hi (hb j (by simp))
    have hdo : dstOf ops j = o.dst := by simp [dstOf, hl.1]
    rw [hdo] at hd
    exact ⟨h1.1.trans (execOp_put oi hsel a _ _ hd), h1.2.trans (wanted_put oi a _ _ hd)⟩

theorem walk_slot {C : World → Prop} {A1 : Act} (d : Tmp) : ∀ (c : List Nat) (l : List Oper) (a : Act), fitsN ops c l → wpQuiet P ops C (fun a' => a' = A1) l a →
    (∀ j ∈ c, dstOf ops j ≠ some d) → A1.tmps[d]? = a.tmps[d]? ∧ A1.tmps.size = a.tmps.size ∧ A1.defers = a.defers
  | [], [], a, _, h, _ => by
    have h' : a = A1 := h
    subst h'; exact ⟨rfl, rfl, rfl⟩
  | [], _ :: _, _, hl, _, _ => hl.elim
  | _ :: _, [], _, hl, _, _ => hl.elim
  | j :: c, o :: l, a, hl, h, hb => by
    have hq : qOp P ops C j (wpQuiet P ops C (fun a' => a' = A1) l) a := by unfold qOp; simp only [hl.1]; exact h
    obtain ⟨v, _, hk⟩ := yieldsIn_of_qOp hl.1 hq
    have h1 := walk_slot d c l (a.put o.dst v) hl.2 hk (fun k hk => hb k (by simp [hk]))
    have hdo : dstOf ops j = o.dst := by simp [dstOf, hl.1]
    have hne := hb j (by simp)
    rw [hdo] at hne
    have h2 : (a.put o.dst v).tmps[d]? = a.tmps[d]? ∧ (a.put o.dst v).tmps.size = a.tmps.size := by
      cases ho : o.dst with
      | none => exact ⟨rfl, rfl⟩
      | some e =>
        rw [ho] at hne
        have : e ≠ d := fun h => hne (by rw [h])
        simp [Act.put, this]
    exact ⟨h1.1.trans h2.1, h1.2.1.trans h2.2, h1.2.2.trans (put_defers _ _ _)⟩

theorem fixed_of_walk {C : World → Prop} {A1 : Act} (hsel : ∀ (j : Nat) (o : Oper) cs b, ops[j]? = some o → o.op ≠ .select cs b) : ∀ (c : List Nat) (l : List Oper) (a : Act), fitsN ops c l → wpQuiet P ops C (fun a' => a' = A1) l a →
    c.Pairwise (fun i j => blind ops i j = true ∧ ∀ t, dstOf ops i = some t → dstOf ops j ≠ some t) → (∀ i ∈ c, blind ops i i = true ∧ ∃ d, dstOf ops i = some d ∧ d < a.tmps.size) →
    ∀ i ∈ c, ∃ o, ops[i]? = some o ∧ ((Region.wanted o (yielded ops A1.tmps) = true ∧ ∀ w, C w → Oper.quietUpon P C w (valOf ops A1 i) ((execOp A1.eval o).run P w)) ∨ (Region.wanted o (yielded ops A1.tmps) = false ∧ valOf ops A1 i = undef))
  | [], _, _, _, _, _, _, i, hi => by cases hi
  | _ :: _, [], _, hl, _, _, _, _, _ => hl.elim
  | j :: c, o :: l, a, hl, h, hp, hd, i, hi => by
    have hq : qOp P ops C j (wpQuiet P ops C (fun a' => a' = A1) l) a := by unfold qOp; simp only [hl.1]; exact h
    obtain ⟨v, hy, hk⟩ := yieldsIn_of_qOp hl.1 hq
    have hdo : dstOf ops j = o.dst := by simp [dstOf, hl.1]
    obtain ⟨hp1, hp2⟩ := List.pairwise_cons.1 hp
    by_cases hij : i = j
    · subst hij
      obtain ⟨hb, d, hdd, hds⟩ := hd i (by simp)
      have h1 := walk_eval hl.1 (fun cs b => hsel i o cs b hl.1) c l (a.put o.dst v) hl.2 hk (fun k hk => (hp1 k hk).1)
      have h2 := walk_slot d c l (a.put o.dst v) hl.2 hk (fun k hk => (hp1 k hk).2 d hdd)
      have hbb := blind_spec hl.1 hb
      rw [hdo] at hbb hdd
      have e1 := h1.1.trans (execOp_put o (fun cs b => hsel i o cs b hl.1) a _ _ hbb)
      have e2 := h1.2.trans (wanted_put o a _ _ hbb)
      have hval : valOf ops A1 i = v := by
        unfold valOf
        rw [hdo, hdd]
        have h3 := h2.1
        rw [hdd] at h3
        simp only [Array.getD_eq_getD_getElem?, h3]
        simp [Act.put, hds]
      refine ⟨o, hl.1, ?_⟩
      rw [e1, e2, hval]
      exact hy
    · have hi' : i ∈ c := by simpa [hij] using hi
      refine fixed_of_walk hsel c l (a.put o.dst v) hl.2 hk hp2 (fun k hk => ?_) i hi'
      obtain ⟨h1, d, h2, h3⟩ := hd k (by simp [hk])
      exact ⟨h1, d, h2, by cases o.dst <;> simpa [Act.put] using h3⟩

/-- The fixed operations, from the walk in every class that grows. -/
theorem fixed_all {A1 : Act} (hsel : ∀ (j : Nat) (o : Oper) cs b, ops[j]? = some o → o.op ≠ .select cs b) (c : List Nat) (l : List Oper) (a : Act) (hl : fitsN ops c l)
    (h : ∀ (I : Type) (F : I → World), Nonempty I → ((∀ i w, Below (F i).heap.size (F i) w → ∃ j, w = F j) ∧ ∀ i, Below B W (F i)) → wpQuiet P ops (fun w => ∃ i, w = F i) (fun a' => a' = A1) l a)
    (hp : c.Pairwise (fun i j => blind ops i j = true ∧ ∀ t, dstOf ops i = some t → dstOf ops j ≠ some t)) (hd : ∀ i ∈ c, blind ops i i = true ∧ ∃ d, dstOf ops i = some d ∧ d < a.tmps.size) (hB : B ≤ W.heap.size) :
    ∀ i ∈ c, ∃ o, ops[i]? = some o ∧ YG P ops B W o (valOf ops A1 i) A1 := by
  intro i hi
  have key : ∀ w, Below B W w → ∃ o, ops[i]? = some o ∧ ((Region.wanted o (yielded ops A1.tmps) = true ∧ growAt P w (valOf ops A1 i) ((execOp A1.eval o).run P w)) ∨ (Region.wanted o (yielded ops A1.tmps) = false ∧ valOf ops A1 i = undef)) := by
    intro w hw
    have h1 := fixed_of_walk hsel c l a hl (h { u : World // Below w.heap.size w u } (fun x => x.1) ⟨⟨w, Below.refl _ _⟩⟩ ⟨fun x u hu => ⟨⟨u, x.2.trans (hu.mono x.2.size)⟩, rfl⟩, fun x => hw.trans (x.2.mono (Nat.le_trans hB hw.size))⟩) hp hd i hi
    obtain ⟨o, ho, h2⟩ := h1
    refine ⟨o, ho, h2.imp (fun ⟨h3, h4⟩ => ⟨h3, ?_⟩) id⟩
    have h5 := h4 w ⟨⟨w, Below.refl _ _⟩, rfl⟩
    generalize (execOp A1.eval o).run P w = r at *
    cases r with
    | ok n w' =>
      cases n <;> simp only [Oper.quietUpon] at h5 <;> simp only [growAt]
      case value u => exact h5
      case skip => exact ⟨h5.1, h5.2.symm⟩
      case enter f args => exact ⟨h5.1, h5.2.mono fun e w'' ⟨he, x, hx⟩ => ⟨he, hx ▸ x.2⟩⟩
    | halt x w' => exact h5.elim
  obtain ⟨o, ho, _⟩ := key W (Below.refl _ _)
  refine ⟨o, ho, ?_⟩
  cases hw : Region.wanted o (yielded ops A1.tmps) with
  | true =>
    refine .inl ⟨hw, fun w hb => ?_⟩
    obtain ⟨o', ho', h1⟩ := key w hb
    rw [ho] at ho'
    cases ho'
    rcases h1 with h1 | h1
    · exact h1.2
    · rw [hw] at h1; cases h1.1
  | false =>
    obtain ⟨o', ho', h1⟩ := key W (Below.refl _ _)
    rw [ho] at ho'
    cases ho'
    rcases h1 with h1 | h1
    · rw [hw] at h1; cases h1.1
    · exact .inr ⟨hw, h1.2⟩

theorem wpOp_YG {A1 a' : Act} {i : Nat} {o : Oper} {v : Value} {w : World} {K : Act → World → Prop} (hi : ops[i]? = some o) (e1 : execOp a'.eval o = execOp A1.eval o) (e2 : Region.wanted o (yielded ops a'.tmps) = Region.wanted o (yielded ops A1.tmps))
    (hy : YG P ops B W o v A1) (hw : Below B W w) (h : ∀ w', Below w.heap.size w w' → K (a'.put o.dst v) w') : wpOp P ops Q i K a' w := by
  unfold wpOp
  simp only [hi]
  rcases hy with ⟨h1, h2⟩ | ⟨h1, rfl⟩
  · rw [e2, if_pos h1]
    refine .inl ?_
    have h3 := h2 w hw
    unfold Oper.wp
    rw [e1]
    generalize (execOp A1.eval o).run P w = r at *
    cases r with
    | ok n w' =>
      cases n <;> simp only [growAt] at h3 <;> simp only [Oper.upon]
      case value u => obtain ⟨rfl, rfl⟩ := h3; exact h _ (Below.refl _ _)
      case skip => obtain ⟨rfl, rfl⟩ := h3; exact h _ (Below.refl _ _)
      case enter f args => obtain ⟨rfl, h4⟩ := h3; exact h4.mono fun e w'' ⟨he, hb⟩ => by subst he; exact h _ hb
    | halt x w' => exact h3.elim
  · rw [e2, h1]
    simp only [Bool.false_eq_true, if_false]
    exact h _ (Below.refl _ _)

theorem wpOp_vals {A1 a' : Act} {i : Nat} {o : Oper} {w : World} {K : Act → World → Prop} {R : VP} {Z : List PanicEntry → World → Prop} (hi : ops[i]? = some o) (hg : o.guard = none) (e1 : execOp a'.eval o = execOp A1.eval o)
    (hr : valsAt P R Z ((execOp A1.eval o).run P w)) (hZ : ∀ c w', Z c w' → Q (.panic c) a' w') (h : ∀ u w', R u w' → K (a'.put o.dst u) w') : wpOp P ops Q i K a' w := by
  unfold wpOp
  simp only [hi, Region.wanted, hg, if_true]
  refine .inl ?_
  unfold Oper.wp
  rw [e1]
  generalize (execOp A1.eval o).run P w = r at *
  cases r with
  | ok n w' =>
    cases n <;> simp only [valsAt] at hr <;> simp only [Oper.upon]
    case value u => exact h _ _ hr
    case enter f args =>
      refine hr.mono fun e w'' he => ?_
      rcases he with ⟨u, rfl, he⟩ | ⟨c, rfl, he⟩
      · exact h _ _ he
      · exact hZ _ _ he
  | halt x w' =>
    cases x <;> simp only [valsAt] at hr
    exact hZ _ _ hr

/-- The tail comes in this order, and nothing else. -/
def seqT (ops : Array Oper) : List Nat → Array Bool → Bool
  | [], listed => (Region.ready .any ops listed).isEmpty
  | t :: r, listed => decide (Region.ready .any ops listed = [t]) && seqT ops r (listed.setIfInBounds t true)

theorem wpAnyF_seq {S : World → Prop} {late : List Nat} : ∀ (tl : List Nat) (l : List Oper) (listed : Array Bool) (a : Act) (w : World), fitsN ops tl l → (∀ t ∈ tl, t ∈ late) → seqT ops tl listed = true → wpList P ops Q l a w → wpAnyF P .any ops Q S late tl.length listed a w
  | [], [], _, _, _, _, _, hB, h => ⟨by simpa [seqT] using hB, h⟩
  | [], _ :: _, _, _, _, hl, _, _, _ => hl.elim
  | _ :: _, [], _, _, _, hl, _, _, _ => hl.elim
  | t :: r, o :: l, listed, a, w, hl, hm, hB, h => by
    simp only [seqT, Bool.and_eq_true, decide_eq_true_eq] at hB
    refine ⟨fun h1 => (by rw [hB.1] at h1; cases h1), fun i hi => ?_⟩
    rw [hB.1] at hi
    have hik : i = t := by simpa using hi
    subst hik
    have hw : wpOp P ops Q i (wpList P ops Q l) a w := by unfold wpOp; simp only [hl.1]; exact h
    exact wpOp_mono (fun a' w' h' => ⟨fun hn => absurd (hm i (by simp)) hn, wpAnyF_seq r l _ a' w' hl.2 (fun x hx => hm x (by simp [hx])) hB.2 h'⟩) hw

/-- What is checked of a region. -/
structure Shape (ops : Array Oper) (fx vsI tl : List Nat) : Prop where
  nodup : (fx ++ vsI ++ tl).Nodup
  all : ∀ i, (i ∈ fx ∨ i ∈ vsI ∨ i ∈ tl) → i < ops.size
  edges : ∀ i o, ops[i]? = some o → ∀ e ∈ o.after, Region.binds .any e = true → e.on < i
  bl1 : ∀ i ∈ fx ++ vsI, ∀ j ∈ fx, blind ops i j = true ∨ ∃ m, waitsT .any ops m i j = true
  bl2 : ∀ i ∈ fx ++ vsI, ∀ j ∈ vsI, blind ops i j = true
  dst : ∀ i ∈ fx ++ vsI, ∀ j ∈ fx ++ vsI, i ≠ j → ∀ t, dstOf ops i = some t → dstOf ops j ≠ some t
  guard : ∀ i ∈ vsI, ∀ o, ops[i]? = some o → o.guard = none

theorem ready_ne {listed : Array Bool} {fx vsI tl : List Nat} (sh : Shape ops fx vsI tl) (hs : listed.size = ops.size) : ∀ i, i < ops.size → listed.getD i true = false → Region.ready .any ops listed ≠ [] := by
  intro i
  induction i using Nat.strongRecOn with
  | _ i ih =>
    intro hi hl
    by_cases hr : i ∈ Region.ready .any ops listed
    · intro h; rw [h] at hr; cases hr
    · obtain ⟨o, ho⟩ : ∃ o, ops[i]? = some o := ⟨_, Array.getElem?_eq_getElem hi⟩
      have : ¬ ∀ e ∈ o.after, Region.binds .any e = true → listed.getD e.on false = true := fun h => hr (mem_ready.2 ⟨hl, o, ho, h⟩)
      simp only [Classical.not_forall] at this
      obtain ⟨e, he, hb, hne⟩ := this
      have hlt := sh.edges i o ho e he hb
      refine ih e.on hlt (by omega) ?_
      have h1 : e.on < listed.size := by omega
      simp [h1] at hne ⊢
      exact hne

structure St (P : Program) (ops : Array Oper) (B : Nat) (W : World) (A1 : Act) (V : Nat → VP) (fx vsI tl : List Nat) (listed : Array Bool) (a : Act) (w : World) (p pv : List Nat) (q : List (Nat × Value)) : Prop where
  closed : Closed .any ops listed
  un : ∀ i, listed.getD i true = false ↔ i ∈ p ∨ i ∈ pv ∨ i ∈ tl
  pn : p.Nodup
  ps : ∀ i ∈ p, i ∈ fx
  vn : (pv ++ q.map Prod.fst).Perm vsI
  eqA : fillF ops A1 a p = fillV ops A1 q
  qok : ∀ x ∈ q, V x.1 x.2 w
  bel : Below B W w
  dfr : a.defers = A1.defers

theorem core {A1 : Act} {V : Nat → VP} {Z : List PanicEntry → World → Prop} {fx vsI tl : List Nat} (hsel : ∀ (j : Nat) (o : Oper) cs b, ops[j]? = some o → o.op ≠ .select cs b) (hB0 : B ≤ W.heap.size) (sh : Shape ops fx vsI tl) (hvn : vsI.Nodup)
    (hZ : ∀ c (a' : Act) w, a'.defers = A1.defers → Z c w → Q (.panic c) a' w)
    (hfx : ∀ i ∈ fx, ∃ o, ops[i]? = some o ∧ YG P ops B W o (valOf ops A1 i) A1)
    (hst : ∀ i ∈ vsI, ∀ v w w', V i v w → Below B W w → Below w.heap.size w w' → V i v w')
    (hvs : ∀ i ∈ vsI, ∃ o, ops[i]? = some o ∧ ∀ w, Below B W w → valsAt P (fun u w' => Below w.heap.size w w' ∧ V i u w') Z ((execOp A1.eval o).run P w))
    (htl : ∀ t ∈ tl, (∀ h ∈ fx ++ vsI, ∃ m, waitsT .any ops m t h = true) ∨ ∃ k ∈ vsI, (∃ m, waitsT .any ops m t k = true) ∧ ∀ v w, ¬ V k v w)
    (hend : ∀ (listed : Array Bool) (q : List (Nat × Value)) (w : World), Below B W w → (q.map Prod.fst).Perm vsI → (∀ x ∈ q, V x.1 x.2 w) → listed.size = ops.size → (∀ i, listed.getD i true = false ↔ i ∈ tl) → wpAnyF P .any ops Q (Below B W) tl tl.length listed (fillV ops A1 q) w) :
    ∀ (k : Nat) (listed : Array Bool) (a : Act) (w : World) (p pv : List Nat) (q : List (Nat × Value)), k = p.length + pv.length → St P ops B W A1 V fx vsI tl listed a w p pv q → wpAnyF P .any ops Q (Below B W) tl (k + tl.length) listed a w := by
  intro k
  induction k with
  | zero =>
    intro listed a w p pv q hk st
    have hp : p = [] := List.length_eq_zero_iff.1 (by omega)
    have hpv : pv = [] := List.length_eq_zero_iff.1 (by omega)
    subst hp hpv
    have hA : a = fillV ops A1 q := st.eqA
    rw [Nat.zero_add, hA]
    exact hend listed q w st.bel (by simpa using st.vn) st.qok st.closed.1 (fun i => by simpa using st.un i)
  | succ k ih =>
    intro listed a w p pv q hk st
    rw [show k + 1 + tl.length = (k + tl.length) + 1 by omega]
    have hqv : ∀ x ∈ q, x.1 ∈ vsI := fun x hx => st.vn.mem_iff.1 (by simp; exact .inr ⟨x.2, hx⟩)
    have hvi : ∀ i ∈ pv, i ∈ vsI := fun i hi => st.vn.mem_iff.1 (by simp [hi])
    have hlt : ∀ i, i ∈ p ∨ i ∈ pv → i < ops.size := fun i hi => sh.all i (hi.elim (fun h => .inl (st.ps i h)) (fun h => .inr (.inl (hvi i h))))
    have hex : ∃ i, i ∈ p ∨ i ∈ pv := by
      cases p with
      | cons i p => exact ⟨i, .inl (by simp)⟩
      | nil =>
        cases pv with
        | cons i pv => exact ⟨i, .inr (by simp)⟩
        | nil => simp at hk
    have hne : Region.ready .any ops listed ≠ [] := by
      obtain ⟨i, hi⟩ := hex
      exact ready_ne sh st.closed.1 i (hlt i hi) ((st.un i).2 (hi.elim .inl (fun h => .inr (.inl h))))
    refine ⟨fun h => absurd h hne, fun i hi => ?_⟩
    obtain ⟨hun, oi, hoi, hall⟩ := mem_ready.1 hi
    have hdo : dstOf ops i = oi.dst := by simp [dstOf, hoi]
    have evals : (i ∈ fx ++ vsI) → execOp a.eval oi = execOp A1.eval oi ∧ Region.wanted oi (yielded ops a.tmps) = Region.wanted oi (yielded ops A1.tmps) := by
      intro hh
      have h1 := eval_fillF (A1 := A1) hoi (fun cs b => hsel i oi cs b hoi) p a (fun j hj => by
        rcases sh.bl1 i hh j (st.ps j hj) with h | ⟨m, h⟩
        · exact h
        · exact absurd (waitsT_ready st.closed hi h) (fun h2 => not_both ((st.un j).2 (.inl hj)) h2))
      have h2 := eval_fillV hoi (fun cs b => hsel i oi cs b hoi) q A1 (fun x hx => sh.bl2 i hh x.1 (hqv x hx))
      rw [st.eqA] at h1
      exact ⟨h1.1.symm.trans h2.1, h1.2.symm.trans h2.2⟩
    rcases (st.un i).1 hun with hip | hipv | hitl
    · -- a fixed one
      have hh : i ∈ fx ++ vsI := by simp [st.ps i hip]
      obtain ⟨e1, e2⟩ := evals hh
      obtain ⟨o', ho', hy⟩ := hfx i (st.ps i hip)
      rw [hoi] at ho'; cases ho'
      refine wpOp_YG hoi e1 e2 hy st.bel fun w' hw' => ⟨fun _ hb => hb.trans (hw'.mono (Nat.le_trans hB0 hb.size)), ?_⟩
      have hperm : p.Perm (i :: p.erase i) := List.perm_cons_erase hip
      refine ih _ _ w' (p.erase i) pv q (by have := hperm.length_eq; simp at this; omega) ⟨st.closed.set hi, fun j => ?_, st.pn.erase i, fun j hj => st.ps j (List.mem_of_mem_erase hj), st.vn, ?_, fun x hx => hst x.1 (hqv x hx) _ _ _ (st.qok x hx) st.bel hw', st.bel.trans (hw'.mono (Nat.le_trans hB0 st.bel.size)), (put_defers _ _ _).trans st.dfr⟩
      · by_cases hij : i = j
        · subst hij
          have h1 : i < listed.size := by rw [st.closed.1]; exact hlt i (.inl hip)
          have h2 : i ∉ p.erase i := fun h => ((List.Nodup.mem_erase_iff st.pn).1 h).1 rfl
          have h3 := sh.nodup
          have h4 : i ∉ vsI ∧ i ∉ tl := by
            have h5 := st.ps i hip
            simp only [List.nodup_append, List.mem_append] at h3
            exact ⟨fun h => h3.1.2.2 i h5 i h rfl, fun h => h3.2.2 i (.inl h5) i h rfl⟩
          have h6 : i ∉ pv := fun h => h4.1 (hvi i h)
          simp [h1, h2, h6, h4.2]
        · rw [getD_set_ne true hij, st.un j]
          have : j ∈ p.erase i ↔ j ∈ p := by rw [List.Nodup.mem_erase_iff st.pn]; simp [Ne.symm hij]
          rw [this]
      · have h1 := fillF_perm (A1 := A1) hperm (fun x hx y hy hxy => sh.dst x (by simp [st.ps x hx]) y (by simp [st.ps y hy]) hxy) a
        rw [← st.eqA, h1, ← hdo]
        rfl
    · -- one that is known by a predicate
      have hiv := hvi i hipv
      have hh : i ∈ fx ++ vsI := by simp [hiv]
      obtain ⟨e1, e2⟩ := evals hh
      obtain ⟨o', ho', hy⟩ := hvs i hiv
      rw [hoi] at ho'; cases ho'
      refine wpOp_vals hoi (sh.guard i hiv oi hoi) e1 (hy w st.bel) (fun c w' hz => hZ c a w' st.dfr hz) fun u w' ⟨hw', hV⟩ => ⟨fun _ hb => hb.trans (hw'.mono (Nat.le_trans hB0 hb.size)), ?_⟩
      have hperm : pv.Perm (i :: pv.erase i) := List.perm_cons_erase hipv
      have hvn2 : (pv.erase i ++ (q ++ [(i, u)]).map Prod.fst).Perm vsI := by
        refine List.Perm.trans ?_ st.vn
        rw [List.map_append, ← List.append_assoc]
        refine List.Perm.trans List.perm_append_comm ?_
        exact (List.Perm.append_right (q.map Prod.fst) hperm).symm
      have hpvn : pv.Nodup := by
        have := (st.vn.nodup_iff).2 hvn
        exact (List.nodup_append.1 this).1
      refine ih _ _ w' p (pv.erase i) (q ++ [(i, u)]) (by have := hperm.length_eq; simp at this; omega) ⟨st.closed.set hi, fun j => ?_, st.pn, st.ps, hvn2, ?_, fun x hx => ?_, st.bel.trans (hw'.mono (Nat.le_trans hB0 st.bel.size)), (put_defers _ _ _).trans st.dfr⟩
      · by_cases hij : i = j
        · subst hij
          have h1 : i < listed.size := by rw [st.closed.1]; exact hlt i (.inr hipv)
          have h2 : i ∉ pv.erase i := fun h => ((List.Nodup.mem_erase_iff hpvn).1 h).1 rfl
          have h3 := sh.nodup
          simp only [List.nodup_append, List.mem_append] at h3
          have h4 : i ∉ p := fun h => h3.1.2.2 i (st.ps i h) i hiv rfl
          have h5 : i ∉ tl := fun h => h3.2.2 i (.inr hiv) i h rfl
          simp [h1, h2, h4, h5]
        · rw [getD_set_ne true hij, st.un j]
          have : j ∈ pv.erase i ↔ j ∈ pv := by rw [List.Nodup.mem_erase_iff hpvn]; simp [Ne.symm hij]
          rw [this]
      · have h1 := fillF_put (A1 := A1) (ops := ops) (d := oi.dst) (v := u) p a (fun j hj t ht => by
          have h3 := sh.nodup
          simp only [List.nodup_append, List.mem_append] at h3
          have hne : i ≠ j := fun h => h3.1.2.2 j (st.ps j hj) i hiv h.symm
          exact sh.dst i hh j (by simp [st.ps j hj]) hne t (by rw [hdo]; exact ht))
        rw [h1, st.eqA]
        exact fillV_put q A1 hdo
      · rcases List.mem_append.1 hx with hx | hx
        · exact hst x.1 (hqv x hx) _ _ _ (st.qok x hx) st.bel hw'
        · have : x = (i, u) := by simpa using hx
          subst this
          exact hV
    · -- the tail waits
      exfalso
      obtain ⟨j, hj⟩ := hex
      have hjh : j ∈ fx ++ vsI := by
        rcases hj with h | h
        · simp [st.ps j h]
        · simp [hvi j h]
      have hju : listed.getD j true = false := (st.un j).2 (hj.elim .inl (fun h => .inr (.inl h)))
      rcases htl i hitl with h | ⟨k', hk', ⟨m, hm⟩, hV⟩
      · obtain ⟨m, hm⟩ := h j hjh
        exact not_both hju (waitsT_ready st.closed hi hm)
      · have h1 := waitsT_ready st.closed hi hm
        have h2 : k' ∈ pv ++ q.map Prod.fst := st.vn.mem_iff.2 hk'
        rcases List.mem_append.1 h2 with h2 | h2
        · exact not_both ((st.un k').2 (.inr (.inl h2))) h1
        · obtain ⟨x, hx, rfl⟩ := List.mem_map.1 h2
          exact hV _ _ (st.qok x hx)

theorem act_of_walk {C : World → Prop} {A1 : Act} (hsel : ∀ (j : Nat) (o : Oper) cs b, ops[j]? = some o → o.op ≠ .select cs b) : ∀ (c : List Nat) (l : List Oper) (a : Act), fitsN ops c l → wpQuiet P ops C (fun a' => a' = A1) l a →
    c.Pairwise (fun i j => blind ops i j = true ∧ ∀ t, dstOf ops i = some t → dstOf ops j ≠ some t) → (∀ i ∈ c, blind ops i i = true ∧ ∃ d, dstOf ops i = some d ∧ d < a.tmps.size) →
    A1 = fillF ops A1 a c
  | [], [], a, _, h, _, _ => by
    have h' : a = A1 := h
    subst h'; rfl
  | [], _ :: _, _, hl, _, _, _ => hl.elim
  | _ :: _, [], _, hl, _, _, _ => hl.elim
  | j :: c, o :: l, a, hl, h, hp, hd => by
    have hq : qOp P ops C j (wpQuiet P ops C (fun a' => a' = A1) l) a := by unfold qOp; simp only [hl.1]; exact h
    obtain ⟨v, hy, hk⟩ := yieldsIn_of_qOp hl.1 hq
    have hdo : dstOf ops j = o.dst := by simp [dstOf, hl.1]
    obtain ⟨hp1, hp2⟩ := List.pairwise_cons.1 hp
    obtain ⟨hb, d, hdd, hds⟩ := hd j (by simp)
    have h2 := walk_slot d c l (a.put o.dst v) hl.2 hk (fun k hk => (hp1 k hk).2 d hdd)
    have hval : valOf ops A1 j = v := by
      unfold valOf
      rw [hdd]
      have h3 := h2.1
      rw [← hdo, hdd] at h3
      simp only [Array.getD_eq_getD_getElem?, h3]
      simp [Act.put, hds]
    have ih := act_of_walk hsel c l (a.put o.dst v) hl.2 hk hp2 (fun k hk => by
      obtain ⟨h1, d, h2, h3⟩ := hd k (by simp [hk])
      exact ⟨h1, d, h2, by cases o.dst <;> simpa [Act.put] using h3⟩)
    show A1 = fillF ops A1 (a.put (dstOf ops j) (valOf ops A1 j)) c
    rw [hval, hdo]
    exact ih

def pairsB (ops : Array Oper) : List Nat → Bool
  | [] => true
  | i :: c => (c.all fun j => blind ops i j && (match dstOf ops i with
    | some t => dstOf ops j != some t
    | none => true)) && pairsB ops c

def floatB (ops : Array Oper) : List Nat → Array Bool → Bool
  | [], _ => true
  | i :: r, listed => (Region.ready .any ops listed).contains i && Region.free .any ops listed i && (match ops[i]? with
    | some o => pureOp o
    | none => false) && floatB ops r (listed.setIfInBounds i true)

/-- All that is checked of a region, by the kernel. fl: what may come at any time; fx: of fixed value; vs: with their slots; tl: the tail; halt: is one of vs sure to be thrown? -/
def regB (ops : Array Oper) (ntmps : Nat) (fl fx : List Nat) (vs : List (Nat × Tmp)) (tl : List Nat) (halt : Option Nat) : Bool :=
  Region.noSelect ops &&
  decide ((fl ++ (fx ++ vs.map Prod.fst ++ tl)).Nodup) && (List.range ops.size).all (fun i => (fl ++ (fx ++ vs.map Prod.fst ++ tl)).contains i) && (fl ++ (fx ++ vs.map Prod.fst ++ tl)).all (fun i => decide (i < ops.size)) &&
  (List.range ops.size).all (fun i => match ops[i]? with
    | some o => o.after.all fun e => !Region.binds .any e || decide (e.on < i)
    | none => true) &&
  (fx ++ vs.map Prod.fst).all (fun i => fx.all fun j => blind ops i j || waitsT .any ops ops.size i j) &&
  (fx ++ vs.map Prod.fst).all (fun i => (vs.map Prod.fst).all fun j => blind ops i j) &&
  (fx ++ vs.map Prod.fst).all (fun i => (fx ++ vs.map Prod.fst).all fun j => i == j || match dstOf ops i with
    | some t => dstOf ops j != some t
    | none => true) &&
  vs.all (fun x => (match ops[x.1]? with
    | some o => o.guard.isNone
    | none => false) && dstOf ops x.1 == some x.2) &&
  (match halt with
    | none => (tl.all fun t => (fx ++ vs.map Prod.fst).all fun h => waitsT .any ops ops.size t h) && seqT ops tl ((Array.range ops.size).map fun i => !tl.contains i)
    | some k => (vs.map Prod.fst).contains k && tl.all fun t => waitsT .any ops ops.size t k) &&
  (fl ++ fx).all (fun i => blind ops i i && match dstOf ops i with
    | some d => decide (d < ntmps)
    | none => false) &&
  pairsB ops (fl ++ fx) && floatB ops fl (Array.replicate ops.size false) && fl.all (fun i => (fl ++ fx).all fun j => blind ops i j)

theorem pairsB_spec : ∀ c : List Nat, pairsB ops c = true → c.Pairwise (fun i j => blind ops i j = true ∧ ∀ t, dstOf ops i = some t → dstOf ops j ≠ some t)
  | [], _ => List.Pairwise.nil
  | i :: c, h => by
    simp only [pairsB, Bool.and_eq_true, List.all_eq_true] at h
    refine List.pairwise_cons.2 ⟨fun j hj => ⟨(h.1 j hj).1, fun t ht => ?_⟩, pairsB_spec c h.2⟩
    have := (h.1 j hj).2
    rw [ht] at this
    simpa using this

theorem pure_yields {o : Oper} {v : Value} {A a : Act} (hp : pureOp o = true) (hy : YG P ops B W o v A) (e1 : execOp a.eval o = execOp A.eval o) (e2 : Region.wanted o (yielded ops a.tmps) = Region.wanted o (yielded ops A.tmps)) :
    YieldsC P ops (fun _ => True) o v a := by
  rcases hy with ⟨h1, h2⟩ | h
  · refine .inl ⟨e2.trans h1, fun w _ => ?_⟩
    have h3 := h2 W (Below.refl _ _)
    rw [e1]
    unfold pureOp at hp
    unfold execOp at h3 ⊢
    split at hp <;> rename_i ho <;> simp only [ho] at h3 ⊢
    · obtain ⟨_, h4⟩ := h3; exact ⟨rfl, h4⟩
    · obtain ⟨_, h4⟩ := h3; exact ⟨rfl, h4⟩
    · cases hp
  · exact .inr ⟨e2.trans h.1, h.2⟩

/-- The floaters are taken first. -/
theorem float_first {A1 : Act} {S : World → Prop} {tl : List Nat} (hsel : Region.noSelect ops = true) (hQ : ∀ c a a' w, Act.defers a = Act.defers a' → Q (.panic c) a w → Q (.panic c) a' w) :
    ∀ (fl : List Nat) (k : Nat) (listed : Array Bool) (a : Act) (w : World), Closed .any ops listed → floatB ops fl listed = true →
      (∀ i ∈ fl, ∃ o, ops[i]? = some o ∧ YG P ops B W o (valOf ops A1 i) A1 ∧ execOp a.eval o = execOp A1.eval o ∧ Region.wanted o (yielded ops a.tmps) = Region.wanted o (yielded ops A1.tmps)) → (∀ i ∈ fl, ∀ j ∈ fl, blind ops i j = true) →
      (∀ listed', Closed .any ops listed' → listed' = fl.foldl (fun s i => s.setIfInBounds i true) listed → wpAnyF P .any ops Q S tl k listed' (fillF ops A1 a fl) w) → wpAnyF P .any ops Q S tl (fl.length + k) listed a w
  | [], k, listed, a, w, inv, _, _, _, h => by rw [List.length_nil, Nat.zero_add]; exact h listed inv rfl
  | i :: fl, k, listed, a, w, inv, hB, hy, hb, h => by
    obtain ⟨o, ho, hyi, e1, e2⟩ := hy i (by simp)
    simp only [floatB, ho, Bool.and_eq_true] at hB
    obtain ⟨⟨⟨h1, h2⟩, h3⟩, h4⟩ := hB
    have hri : i ∈ Region.ready .any ops listed := by simpa using h1
    have hdo : dstOf ops i = o.dst := by simp [dstOf, ho]
    rw [show (i :: fl).length + k = (fl.length + k) + 1 by simp; omega]
    refine wpAnyF_first ho (Region.noSelect_spec hsel) (fun c a d v w => hQ c _ _ w (put_defers a d v)) _ _ _ _ inv (Region.free_spec ho h2) hri (pure_yields h3 hyi e1 e2) (.inl fun _ => trivial) ?_
    refine float_first (A1 := A1) hsel hQ fl k _ _ w (inv.set hri) h4 (fun j hj => ?_) (fun x hx y hy => hb x (by simp [hx]) y (by simp [hy])) (fun listed' hc he => ?_)
    · obtain ⟨o', ho', hy', f1, f2⟩ := hy j (by simp [hj])
      have hbl := blind_spec ho' (hb j (by simp [hj]) i (by simp))
      rw [hdo] at hbl
      exact ⟨o', ho', hy', (execOp_put o' (fun cs b => Region.noSelect_spec hsel j o' cs b ho') a _ _ hbl).trans f1, (wanted_put o' a _ _ hbl).trans f2⟩
    · have h5 := h listed' hc he
      have h6 : fillF ops A1 a (i :: fl) = fillF ops A1 (a.put o.dst (valOf ops A1 i)) fl := by
        show fillF ops A1 (a.put (dstOf ops i) (valOf ops A1 i)) fl = _
        rw [hdo]
      rw [h6] at h5
      exact h5

/-- The operations of a piece. -/
def selN (l : List Oper) : List Nat → List Oper
  | [] => []
  | i :: c => match l.drop i with
    | [] => selN l c
    | o :: _ => o :: selN l c

theorem fits_selN {l : List Oper} : ∀ c : List Nat, (∀ i ∈ c, i < l.length) → fitsN l.toArray c (selN l c)
  | [], _ => trivial
  | i :: c, h => by
    have ih := fits_selN c (fun j hj => h j (by simp [hj]))
    have hi := h i (by simp)
    unfold selN
    cases hd : l.drop i with
    | nil => simp at hd; omega
    | cons o r =>
      refine ⟨?_, ih⟩
      have : (l.drop i)[0]? = some o := by rw [hd]; rfl
      rw [List.getElem?_drop] at this
      simpa using this

theorem set_fold : ∀ (fl : List Nat) (listed : Array Bool) (i : Nat), (fl.foldl (fun s i => s.setIfInBounds i true) listed).getD i true = (if i ∈ fl then true else listed.getD i true) ∧ (fl.foldl (fun s i => s.setIfInBounds i true) listed).size = listed.size
  | [], _, _ => by simp
  | j :: fl, listed, i => by
    obtain ⟨h1, h2⟩ := set_fold fl (listed.setIfInBounds j true) i
    refine ⟨?_, by rw [List.foldl_cons, h2]; simp⟩
    rw [List.foldl_cons, h1]
    by_cases hi : i ∈ fl
    · simp [hi]
    · by_cases hij : j = i
      · subst hij
        rcases Nat.lt_or_ge j listed.size with h | h
        · simp [h]
        · simp [hi]
      · rw [if_neg hi, getD_set_ne true hij]
        simp [hi, Ne.symm hij]

theorem region_reg {id : Nat} {a : Act} {w : World} {l : List Oper} (ntmps : Nat) (fl fx : List Nat) (vs : List (Nat × Tmp)) (tl : List Nat) (halt : Option Nat) (A1 : Act) (V : Nat → VP) (Z : List PanicEntry → World → Prop)
    (hm : P.follows .mixedOrders = true) (hB : regB l.toArray ntmps fl fx vs tl halt = true) (hnt : ntmps ≤ a.tmps.size)
    (hQ : ∀ c a a' w, Act.defers a = Act.defers a' → Q (.panic c) a w → Q (.panic c) a' w)
    (h1 : ∀ (I : Type) (F : I → World), Nonempty I → ((∀ i u, Below (F i).heap.size (F i) u → ∃ j, u = F j) ∧ ∀ i, Below w.heap.size w (F i)) → wpQuiet P l.toArray (fun u => ∃ i, u = F i) (fun a' => a' = A1) (selN l (fl ++ fx)) a)
    (hst : ∀ x ∈ vs, ∀ v u u', V x.1 v u → Below w.heap.size w u → Below u.heap.size u u' → V x.1 v u')
    (hvs : ∀ x ∈ vs, ∀ o ∈ selN l [x.1], ∀ u, Below w.heap.size w u → valsAt P (fun v u' => Below u.heap.size u u' ∧ V x.1 v u') Z ((execOp A1.eval o).run P u))
    (hZ : ∀ c (a' : Act) u, a'.defers = a.defers → Z c u → Q (.panic c) a' u)
    (hhalt : ∀ k, halt = some k → ∀ v u, ¬ V k v u)
    (hend : halt = none → ∀ (f : Nat → Value) u, Below w.heap.size w u → (∀ x ∈ vs, V x.1 (f x.1) u) → wpList P l.toArray Q (selN l tl) (vs.foldl (fun a x => a.put (some x.2) (f x.1)) A1) u) : (Code.region id l.toArray true).wp P Q a w := by
  simp only [regB, Bool.and_eq_true, List.all_eq_true, decide_eq_true_eq, List.mem_range, Bool.or_eq_true] at hB
  obtain ⟨⟨⟨⟨⟨⟨⟨⟨⟨⟨⟨⟨⟨c1, c2⟩, c3⟩, c4⟩, c5⟩, c6⟩, c7⟩, c8⟩, c9⟩, c10⟩, c11⟩, c12⟩, c13⟩, c14⟩ := hB
  have hsel := Region.noSelect_spec c1
  have hlen : l.toArray.size = l.length := by simp
  have c4' : ∀ i ∈ fl ++ (fx ++ vs.map Prod.fst ++ tl), i < l.length := fun i hi => by have := c4 i hi; omega
  have hfits : ∀ c : List Nat, (∀ i ∈ c, i ∈ fl ++ (fx ++ vs.map Prod.fst ++ tl)) → fitsN l.toArray c (selN l c) := fun c hc => fits_selN c (fun i hi => c4' i (hc i hi))
  have hff := hfits (fl ++ fx) (fun i hi => by simp at hi ⊢; rcases hi with h | h <;> simp [h])
  have hpair := pairsB_spec _ c12
  have hdd : ∀ i ∈ fl ++ fx, blind l.toArray i i = true ∧ ∃ d, dstOf l.toArray i = some d ∧ d < a.tmps.size := fun i hi => by
    have := c11 i hi
    refine ⟨this.1, ?_⟩
    cases hd : dstOf l.toArray i with
    | none => rw [hd] at this; cases this.2
    | some d =>
      rw [hd] at this
      have h2 : d < ntmps := by simpa using this.2
      exact ⟨d, rfl, Nat.lt_of_lt_of_le h2 hnt⟩
  have hfixed := fixed_all (P := P) (B := w.heap.size) (W := w) hsel (fl ++ fx) _ a hff h1 hpair hdd (Nat.le_refl _)
  have hA0 := act_of_walk hsel (fl ++ fx) _ a hff (h1 { u : World // Below w.heap.size w u } (fun x => x.1) ⟨⟨w, Below.refl _ _⟩⟩ ⟨fun x u hu => ⟨⟨u, x.2.trans (hu.mono x.2.size)⟩, rfl⟩, fun x => x.2⟩) hpair hdd
  have hslot := walk_slot (A1 := A1) ntmps [] [] A1 trivial (C := fun _ => True) (P := P) (ops := l.toArray) rfl (by simp)
  have hdefA : A1.defers = a.defers := by
    have key : ∀ (c : List Nat) (b : Act), (fillF l.toArray A1 b c).defers = b.defers := by
      intro c
      induction c with
      | nil => intro b; rfl
      | cons i c ih => intro b; show (fillF l.toArray A1 (b.put _ _) c).defers = b.defers; rw [ih, put_defers]
    rw [hA0]; exact key _ _
  -- the shape of what is left behind the floaters
  have hnd := List.nodup_append.1 c2
  have sh : Shape l.toArray fx (vs.map Prod.fst) tl := by
    refine ⟨hnd.2.1, fun i hi => c4 i (by simp at hi ⊢; rcases hi with h | h | h <;> simp [h]), fun i o ho e he hb => ?_, fun i hi j hj => ?_, fun i hi j hj => c7 i hi j hj, fun i hi j hj hne t ht => ?_, fun i hi o ho => ?_⟩
    · have hi : i < l.toArray.size := (Array.getElem?_eq_some_iff.1 ho).1
      have h2 := c5 i hi
      rw [ho] at h2
      have h3 := Array.all_eq_true'.1 h2 e he
      simp [hb] at h3
      exact h3
    · rcases c6 i hi j hj with h | h
      · exact .inl h
      · exact .inr ⟨_, h⟩
    · have h2 := c8 i hi j hj
      rw [ht] at h2
      simpa [hne] using h2
    · obtain ⟨x, hx, rfl⟩ := List.mem_map.1 hi
      have h2 := (c9 x hx).1
      rw [ho] at h2
      simpa using h2
  have hvn : (vs.map Prod.fst).Nodup := (List.nodup_append.1 (List.nodup_append.1 hnd.2.1).1).2.1
  have hfx : ∀ i ∈ fx, ∃ o, l.toArray[i]? = some o ∧ YG P l.toArray w.heap.size w o (valOf l.toArray A1 i) A1 := fun i hi => hfixed i (by simp [hi])
  have hopAt : ∀ i, i < l.length → ∃ o, l.toArray[i]? = some o ∧ selN l [i] = [o] := fun i hi => by
    have h2 := fits_selN (l := l) [i] (by simpa using hi)
    unfold selN at h2 ⊢
    cases hd : l.drop i with
    | nil => simp at hd; omega
    | cons o r => rw [hd] at h2; exact ⟨o, h2.1, rfl⟩
  have hvs' : ∀ i ∈ vs.map Prod.fst, ∃ o, l.toArray[i]? = some o ∧ ∀ u, Below w.heap.size w u → valsAt P (fun v u' => Below u.heap.size u u' ∧ V i v u') Z ((execOp A1.eval o).run P u) := fun i hi => by
    obtain ⟨x, hx, rfl⟩ := List.mem_map.1 hi
    obtain ⟨o, ho, hs⟩ := hopAt x.1 (c4' _ (by simp; exact .inr (.inr (.inl ⟨x.2, hx⟩))))
    exact ⟨o, ho, hvs x hx o (by rw [hs]; simp)⟩
  have hst' : ∀ i ∈ vs.map Prod.fst, ∀ v u u', V i v u → Below w.heap.size w u → Below u.heap.size u u' → V i v u' := fun i hi => by
    obtain ⟨x, hx, rfl⟩ := List.mem_map.1 hi
    exact hst x hx
  have htl : ∀ t ∈ tl, (∀ h ∈ fx ++ vs.map Prod.fst, ∃ m, waitsT .any l.toArray m t h = true) ∨ ∃ k ∈ vs.map Prod.fst, (∃ m, waitsT .any l.toArray m t k = true) ∧ ∀ v u, ¬ V k v u := fun t ht => by
    cases hh : halt with
    | none =>
      rw [hh] at c10
      simp only [Bool.and_eq_true, List.all_eq_true] at c10
      exact .inl fun h hm => ⟨_, c10.1 t ht h hm⟩
    | some k =>
      rw [hh] at c10
      simp only [Bool.and_eq_true, List.all_eq_true] at c10
      exact .inr ⟨k, by simpa using c10.1, ⟨_, c10.2 t ht⟩, hhalt k hh⟩
  have hfin : ∀ (listed : Array Bool) (q : List (Nat × Value)) (u : World), Below w.heap.size w u → (q.map Prod.fst).Perm (vs.map Prod.fst) → (∀ x ∈ q, V x.1 x.2 u) → listed.size = l.toArray.size → (∀ i, listed.getD i true = false ↔ i ∈ tl) →
      wpAnyF P .any l.toArray Q (Below w.heap.size w) tl tl.length listed (fillV l.toArray A1 q) u := by
    intro listed q u hu hq hqv hls hun
    cases hh : halt with
    | some k =>
      exfalso
      rw [hh] at c10
      simp only [Bool.and_eq_true, List.all_eq_true] at c10
      have hk : k ∈ q.map Prod.fst := hq.mem_iff.2 (by simpa using c10.1)
      obtain ⟨x, hx, rfl⟩ := List.mem_map.1 hk
      exact hhalt _ hh _ _ (hqv x hx)
    | none =>
      rw [hh] at c10
      simp only [Bool.and_eq_true, List.all_eq_true] at c10
      have hL : listed = (Array.range l.toArray.size).map fun i => !tl.contains i := by
        refine Array.ext (by simpa using hls) (fun i hi1 hi2 => ?_)
        have h2 := hun i
        simp [hi1] at h2
        simp
        by_cases hi : i ∈ tl
        · simp [hi, h2.2 hi]
        · have h3 : ¬ listed[i] = false := fun h => hi (h2.1 h)
          simp [hi]
          simpa using h3
      refine wpAnyF_seq tl (selN l tl) listed _ u (hfits tl (fun i hi => by simp [hi])) (fun t ht => ht) (by rw [hL]; exact c10.2) ?_
      -- the values by number
      have hqn : (q.map Prod.fst).Nodup := (hq.nodup_iff).2 hvn
      obtain ⟨f, hf⟩ : ∃ f : Nat → Value, ∀ x ∈ q, f x.1 = x.2 := by
        refine ⟨fun i => ((q.find? fun x => x.1 == i).map Prod.snd).getD undef, fun x hx => ?_⟩
        have : q.find? (fun y => y.1 == x.1) = some x := by
          clear hq hqv
          induction q with
          | nil => cases hx
          | cons y q ih =>
            simp only [List.map_cons, List.nodup_cons] at hqn
            by_cases hyx : y.1 = x.1
            · rcases List.mem_cons.1 hx with h | h
              · subst h; simp
              · exact absurd (List.mem_map.2 ⟨x, h, hyx.symm⟩) hqn.1
            · have hx' : x ∈ q := by
                rcases List.mem_cons.1 hx with h | h
                · subst h; exact absurd rfl hyx
                · exact h
              rw [List.find?_cons_of_neg (by simpa using hyx)]
              exact ih hqn.2 hx'
        simp [this]
      have hq2 : q = (q.map Prod.fst).map fun i => (i, f i) := by
        rw [List.map_map]
        conv => lhs; rw [← List.map_id q]
        exact List.map_congr_left fun x hx => by simp [hf x hx]
      have hperm : q.Perm ((vs.map Prod.fst).map fun i => (i, f i)) := by
        rw [hq2]
        exact hq.map _
      have hfill : fillV l.toArray A1 q = vs.foldl (fun a x => a.put (some x.2) (f x.1)) A1 := by
        rw [fillV_perm hperm (fun x hx y hy hxy t ht => ?_) A1]
        · have key : ∀ (c : List (Nat × Tmp)) (b : Act), (∀ x ∈ c, dstOf l.toArray x.1 = some x.2) → fillV l.toArray b ((c.map Prod.fst).map fun i => (i, f i)) = c.foldl (fun a x => a.put (some x.2) (f x.1)) b := by
            intro c
            induction c with
            | nil => intro b _; rfl
            | cons x c ih =>
              intro b hc
              show fillV l.toArray (b.put (dstOf l.toArray x.1) (f x.1)) _ = _
              rw [hc x (by simp), ih _ (fun y hy => hc y (by simp [hy]))]
              rfl
          exact key vs A1 (fun x hx => by simpa using (c9 x hx).2)
        · have hxm := hq.mem_iff.1 (List.mem_map.2 ⟨x, hx, rfl⟩)
          have hym := hq.mem_iff.1 (List.mem_map.2 ⟨y, hy, rfl⟩)
          have hne : x.1 ≠ y.1 := fun h => hxy (by
            have h2 := hf x hx
            have h3 := hf y hy
            rw [h] at h2
            exact Prod.ext h (h2.symm.trans h3))
          exact sh.dst x.1 (by simp only [List.mem_append]; exact .inr hxm) y.1 (by simp only [List.mem_append]; exact .inr hym) hne t ht
      rw [hfill]
      refine hend hh f u hu fun x hx => ?_
      have hxm : x.1 ∈ q.map Prod.fst := hq.mem_iff.2 (List.mem_map.2 ⟨x, hx, rfl⟩)
      obtain ⟨y, hy, hyx⟩ := List.mem_map.1 hxm
      have := hqv y hy
      rw [← hf y hy, hyx] at this
      exact this
  refine wp_region_any hm ?_
  change wpAny P .any l.toArray Q _ _ a w.drew
  have hcl0 : Closed .any l.toArray (Array.replicate l.toArray.size false) := ⟨by simp, fun j oj _ hl => (by rw [getD_replicate_false] at hl; cases hl)⟩
  have hlenp : l.toArray.size = fl.length + ((fx.length + (vs.map Prod.fst).length) + tl.length) := by
    have h2 : (fl ++ (fx ++ vs.map Prod.fst ++ tl)).Perm (List.range l.toArray.size) := by
      refine (List.perm_ext_iff_of_nodup c2 List.nodup_range).2 fun i => ⟨fun hi => List.mem_range.2 (c4 i hi), fun hi => ?_⟩
      have := c3 i (List.mem_range.1 hi)
      simpa using this
    have h3 := h2.length_eq
    simp only [List.length_append, List.length_range] at h3
    omega
  have hblf : ∀ i ∈ fl, ∀ j ∈ fl ++ fx, blind l.toArray i j = true := fun i hi j hj => c14 i hi j hj
  have hF := float_first (P := P) (B := w.heap.size) (W := w) (S := Below w.heap.size w) (tl := tl) (A1 := A1) c1 hQ fl ((fx.length + (vs.map Prod.fst).length) + tl.length) (Array.replicate l.toArray.size false) a w.drew hcl0 c13
    (fun i hi => by
      obtain ⟨o, ho, hy⟩ := hfixed i (by simp [hi])
      have h2 := eval_fillF (A1 := A1) ho (fun cs b => hsel i o cs b ho) (fl ++ fx) a (fun j hj => hblf i hi j hj)
      rw [← hA0] at h2
      exact ⟨o, ho, hy, h2.1.symm, h2.2.symm⟩)
    (fun i hi j hj => hblf i hi j (by simp [hj])) ?_
  · have h9 := wpAny_of_F _ _ _ _ hF
    rw [← hlenp] at h9
    exact h9
  · intro listed hc he
    refine core (Z := Z) (V := V) (fx := fx) (vsI := vs.map Prod.fst) hsel (Nat.le_refl _) sh hvn (fun c a' u hd hz => hZ c a' u (hd.trans hdefA) hz) hfx hst' hvs' htl hfin _ listed _ w.drew fx (vs.map Prod.fst) [] rfl
      ⟨hc, fun i => ?_, (List.nodup_append.1 (List.nodup_append.1 hnd.2.1).1).1, fun i hi => hi, by simp, ?_, by simp, (Below.refl _ _).drew, ?_⟩
    · rw [he, (set_fold fl _ i).1]
      by_cases hi : i ∈ fl
      · have h2 : ¬ (i ∈ fx ∨ i ∈ vs.map Prod.fst ∨ i ∈ tl) := fun h => hnd.2.2 i hi i (by simp only [List.mem_append]; rcases h with h | h | h <;> simp [h]) rfl
        simp only [hi, if_true]
        exact ⟨fun h => (by cases h), fun h => absurd h h2⟩
      · rw [if_neg hi]
        rcases Nat.lt_or_ge i l.toArray.size with h | h
        · have h2 := c3 i h
          simp only [List.contains_iff_mem, List.mem_append, hi, false_or] at h2
          rw [getD_in (by simpa using h) (getD_replicate_false _ _)]
          simp only [true_iff]
          rcases h2 with (h2 | h2) | h2 <;> simp [h2]
        · have h2 : ¬ (i ∈ fx ∨ i ∈ vs.map Prod.fst ∨ i ∈ tl) := fun h2 => by
            have := c4 i (by simp only [List.mem_append]; rcases h2 with h2 | h2 | h2 <;> simp [h2])
            omega
          have h3 : (Array.replicate l.toArray.size false).getD i true = true := by
            rw [Array.getD_eq_getD_getElem?, Array.getElem?_eq_none (by simpa using h)]; rfl
          rw [h3]
          exact ⟨fun h => (by cases h), fun h => absurd h h2⟩
    · have h2 : fillF l.toArray A1 (fillF l.toArray A1 a fl) fx = fillF l.toArray A1 a (fl ++ fx) := by unfold fillF; rw [List.foldl_append]
      rw [h2, ← hA0]; rfl
    · have key : ∀ (c : List Nat) (b : Act), (fillF l.toArray A1 b c).defers = b.defers := by
        intro c
        induction c with
        | nil => intro b; rfl
        | cons i c ih => intro b; show (fillF l.toArray A1 (b.put _ _) c).defers = b.defers; rw [ih, put_defers]
      rw [key, hdefA]

/-- A family of worlds that grow from w and that growth does not leave. -/
def Fam (w : World) {I : Type} (F : I → World) : Prop := (∀ i u, Below (F i).heap.size (F i) u → ∃ j, u = F j) ∧ ∀ i, Below w.heap.size w (F i)

theorem Fam.bel {w : World} {I : Type} {F : I → World} (hF : Fam w F) (i : I) : Below w.heap.size w (F i) := hF.2 i
/-- Grown from what w has grown from. -/
theorem Fam.on {w0 w : World} {I : Type} {F : I → World} (hF : Fam w F) (h : Below w0.heap.size w0 w) (i : I) : Below w0.heap.size w0 (F i) := h.trans ((hF.2 i).mono h.size)
theorem Fam.call {w : World} {I : Type} {F : I → World} (hF : Fam w F) {f : FuncId} {args : Array Value} {i : I} {v : Value} (h : Calls P f args (F i) fun e w' => e = .returned v ∧ Below (F i).heap.size (F i) w') :
    Calls P f args (F i) fun e w'' => e = .returned v ∧ ∃ j, w'' = F j := h.mono fun _ w' ⟨he, hb⟩ => ⟨he, hF.1 i w' hb⟩
theorem Fam.same {w : World} {I : Type} {F : I → World} (_hF : Fam w F) {f : FuncId} {args : Array Value} {i : I} {v : Value} (h : Calls P f args (F i) fun e w' => e = .returned v ∧ F i = w') :
    Calls P f args (F i) fun e w'' => e = .returned v ∧ ∃ j, w'' = F j := h.mono fun _ _ ⟨he, hb⟩ => ⟨he, i, hb.symm⟩
theorem Fam.cell {w : World} {I : Type} {F : I → World} (hF : Fam w F) {b o : Nat} {v : Value} (hb : b < w.heap.size) (h : w.cell? ⟨b, o, none⟩ = some v) (i : I) : (F i).cell? ⟨b, o, none⟩ = some v :=
  ((hF.2 i).cell (p := ⟨b, o, none⟩) hb).trans h

/-- No operation but fixed ones, and a tail. -/
theorem region_v0 {id : Nat} {a : Act} {w : World} {l : List Oper} (ntmps : Nat) (fl fx tl : List Nat) (A1 : Act)
    (hm : P.follows .mixedOrders = true) (hB : regB l.toArray ntmps fl fx [] tl none = true) (hnt : ntmps ≤ a.tmps.size)
    (hQ : ∀ c a a' w, Act.defers a = Act.defers a' → Q (.panic c) a w → Q (.panic c) a' w)
    (h1 : ∀ (I : Type) (F : I → World), Nonempty I → Fam w F → wpQuiet P l.toArray (fun u => ∃ i, u = F i) (fun a' => a' = A1) (selN l (fl ++ fx)) a)
    (hend : ∀ u, Below w.heap.size w u → wpList P l.toArray Q (selN l tl) A1 u) : (Code.region id l.toArray true).wp P Q a w :=
  region_reg ntmps fl fx [] tl none A1 (fun _ _ _ => True) (fun _ _ => False) hm hB hnt hQ h1 (fun x hx => by cases hx) (fun x hx => by cases hx) (fun _ _ _ _ h => h.elim) (fun k hk => by cases hk) (fun _ _ u hu _ => hend u hu)

/-- One operation is known by a predicate. -/
theorem region_v1 {id : Nat} {a : Act} {w : World} {l : List Oper} (ntmps : Nat) (fl fx : List Nat) (k : Nat) (d : Tmp) (tl : List Nat) (A1 : Act) (V : VP)
    (hm : P.follows .mixedOrders = true) (hB : regB l.toArray ntmps fl fx [(k, d)] tl none = true) (hnt : ntmps ≤ a.tmps.size)
    (hQ : ∀ c a a' w, Act.defers a = Act.defers a' → Q (.panic c) a w → Q (.panic c) a' w)
    (h1 : ∀ (I : Type) (F : I → World), Nonempty I → Fam w F → wpQuiet P l.toArray (fun u => ∃ i, u = F i) (fun a' => a' = A1) (selN l (fl ++ fx)) a)
    (hst : ∀ v u u', V v u → Below w.heap.size w u → Below u.heap.size u u' → V v u')
    (hv : ∀ o ∈ selN l [k], ∀ u, Below w.heap.size w u → valsAt P (fun v u' => Below u.heap.size u u' ∧ V v u') (fun _ _ => False) ((execOp A1.eval o).run P u))
    (hend : ∀ v u, Below w.heap.size w u → V v u → wpList P l.toArray Q (selN l tl) (A1.put (some d) v) u) : (Code.region id l.toArray true).wp P Q a w :=
  region_reg ntmps fl fx [(k, d)] tl none A1 (fun _ => V) (fun _ _ => False) hm hB hnt hQ h1 (fun _ _ => hst) (fun x hx => by
    have : x = (k, d) := by simpa using hx
    subst this; exact hv) (fun _ _ _ _ h => h.elim) (fun k hk => by cases hk) (fun _ f u hu hV => hend (f k) u hu (hV (k, d) (by simp)))

/-- Two operations are known by predicates. -/
theorem region_v2 {id : Nat} {a : Act} {w : World} {l : List Oper} (ntmps : Nat) (fl fx : List Nat) (k1 : Nat) (d1 : Tmp) (k2 : Nat) (d2 : Tmp) (tl : List Nat) (A1 : Act) (V1 V2 : VP)
    (hm : P.follows .mixedOrders = true) (hne : k1 ≠ k2) (hB : regB l.toArray ntmps fl fx [(k1, d1), (k2, d2)] tl none = true) (hnt : ntmps ≤ a.tmps.size)
    (hQ : ∀ c a a' w, Act.defers a = Act.defers a' → Q (.panic c) a w → Q (.panic c) a' w)
    (h1 : ∀ (I : Type) (F : I → World), Nonempty I → Fam w F → wpQuiet P l.toArray (fun u => ∃ i, u = F i) (fun a' => a' = A1) (selN l (fl ++ fx)) a)
    (hs1 : ∀ v u u', V1 v u → Below w.heap.size w u → Below u.heap.size u u' → V1 v u') (hs2 : ∀ v u u', V2 v u → Below w.heap.size w u → Below u.heap.size u u' → V2 v u')
    (hv1 : ∀ o ∈ selN l [k1], ∀ u, Below w.heap.size w u → valsAt P (fun v u' => Below u.heap.size u u' ∧ V1 v u') (fun _ _ => False) ((execOp A1.eval o).run P u))
    (hv2 : ∀ o ∈ selN l [k2], ∀ u, Below w.heap.size w u → valsAt P (fun v u' => Below u.heap.size u u' ∧ V2 v u') (fun _ _ => False) ((execOp A1.eval o).run P u))
    (hend : ∀ v1 v2 u, Below w.heap.size w u → V1 v1 u → V2 v2 u → wpList P l.toArray Q (selN l tl) ((A1.put (some d1) v1).put (some d2) v2) u) : (Code.region id l.toArray true).wp P Q a w :=
  region_reg ntmps fl fx [(k1, d1), (k2, d2)] tl none A1 (fun i => if i = k1 then V1 else V2) (fun _ _ => False) hm hB hnt hQ h1 (fun x hx => by
      rcases (by simpa using hx : x = (k1, d1) ∨ x = (k2, d2)) with rfl | rfl
      · simpa using hs1
      · simpa [Ne.symm hne] using hs2) (fun x hx => by
      rcases (by simpa using hx : x = (k1, d1) ∨ x = (k2, d2)) with rfl | rfl
      · simpa using hv1
      · simpa [Ne.symm hne] using hv2) (fun _ _ _ _ h => h.elim) (fun k hk => by cases hk)
    (fun _ f u hu hV => hend (f k1) (f k2) u hu (by simpa using hV (k1, d1) (by simp)) (by simpa [Ne.symm hne] using hV (k2, d2) (by simp)))

/-- One operation is sure to be thrown; rest: what waits for it. Beside it one may be known by a predicate that is not needed. -/
theorem region_vh {id : Nat} {a : Act} {w : World} {l : List Oper} (ntmps : Nat) (fl fx : List Nat) (vs : List (Nat × Tmp)) (k : Nat) (d : Tmp) (tl : List Nat) (A1 : Act) (Z : List PanicEntry → World → Prop)
    (hm : P.follows .mixedOrders = true) (hk : (vs.all fun x => x.1 != k) = true) (hB : regB l.toArray ntmps fl fx ((k, d) :: vs) tl (some k) = true) (hnt : ntmps ≤ a.tmps.size)
    (hQ : ∀ c a a' w, Act.defers a = Act.defers a' → Q (.panic c) a w → Q (.panic c) a' w)
    (h1 : ∀ (I : Type) (F : I → World), Nonempty I → Fam w F → wpQuiet P l.toArray (fun u => ∃ i, u = F i) (fun a' => a' = A1) (selN l (fl ++ fx)) a)
    (hv : ∀ o ∈ selN l [k], ∀ u, Below w.heap.size w u → valsAt P (fun _ _ => False) Z ((execOp A1.eval o).run P u))
    (hvs : ∀ x ∈ vs, ∀ o ∈ selN l [x.1], ∀ u, Below w.heap.size w u → valsAt P (fun _ u' => Below u.heap.size u u') Z ((execOp A1.eval o).run P u))
    (hZ : ∀ c (a' : Act) u, a'.defers = a.defers → Z c u → Q (.panic c) a' u) : (Code.region id l.toArray true).wp P Q a w := by
  have hvk : ∀ x ∈ vs, x.1 ≠ k := fun x hx => by simpa using List.all_eq_true.1 hk x hx
  refine region_reg ntmps fl fx ((k, d) :: vs) tl (some k) A1 (fun i _ _ => i ≠ k) Z hm hB hnt hQ h1 (fun _ _ _ _ _ h _ _ => h) (fun x hx o ho u hu => ?_) hZ (fun k' hk' v u h => h (by cases hk'; rfl)) (fun h => by cases h)
  have vmono : ∀ (R R' : VP) (r : Result Next), (∀ v u, R v u → R' v u) → valsAt P R Z r → valsAt P R' Z r := fun R R' r hR h => by
    cases r with
    | ok n w' =>
      cases n <;> simp only [valsAt] at h ⊢
      case value v => exact hR _ _ h
      case enter f args => exact h.mono fun e w'' he => he.imp (fun ⟨u, h1, h2⟩ => ⟨u, h1, hR _ _ h2⟩) (fun h => h)
    | halt x w' => cases x <;> simp only [valsAt] at h ⊢ <;> exact h
  rcases List.mem_cons.1 hx with h | h
  · subst h
    exact vmono _ _ _ (fun _ _ h => h.elim) (hv o ho u hu)
  · exact vmono _ _ _ (fun _ _ hb => ⟨hb, hvk x h⟩) (hvs x h o ho u hu)
end
end Pl
end Go.Proofs.Ytkmbeohheblhhaa
