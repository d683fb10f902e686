/- Parts of a proof: texts RegV, LkNum, PlanG, StRow, StEnt, LnAt, LnSet, LkTrim, LkSing. -/
import Derived.Test.YtoncnjhhdlpliaaGreatMP01
import Derived.OwnWalk
import Derived.Laws.ResultCell
namespace Go.Proofs.YtoncnjhhdlpliaaGreat
open Go.RowKit
namespace Pl
section
variable {P : Program} {ops : Array Oper} {Q : Exit → Act → World → Prop} {B : Nat} {W : World}
def growAt (P : Program) (w : World) (v : Value) : Result Next → Prop
 | .ok (.value u) w' => w' = w ∧ u = v
 | .ok .skip w' => w' = w ∧ undef = v
 | .ok (.enter f args) w' => w' = w ∧ Calls P f args w (fun e w'' => e = .returned v ∧ Below w.heap.size w w'')
 | _ => False
def YG (P : Program) (ops : Array Oper) (B : Nat) (W : World) (o : Oper) (v : Value) (A : Act) : Prop :=
 (Region.wanted o (yielded ops A.tmps) = true ∧ ∀ w, Below B W w → growAt P w v ((execOp A.eval o).run P w)) ∨
 (Region.wanted o (yielded ops A.tmps) = false ∧ v = undef)
def valsAt (P : Program) (R : Value → World → Prop) (Z : List PanicEntry → World → Prop) : Result Next → Prop
 | .ok (.value u) w' => R u w'
 | .ok (.enter f args) w' => Calls P f args w' (fun e w'' => (∃ u, e = .returned u ∧ R u w'') ∨ ∃ c, e = .panicked c ∧ Z c w'')
 | .halt (.panic v) w' => Z [{ v, recovered := false }] w'
 | _ => False
abbrev VP := Value → World → Prop
def dstOf (ops : Array Oper) (i : Nat) : Option Tmp := (ops[i]?).bind (·.dst)
def looksOf (ops : Array Oper) (i : Nat) : List Tmp := match ops[i]? with
 | some o => o.looksAt ops
 | none => []
def valOf (ops : Array Oper) (A : Act) (i : Nat) : Value := match dstOf ops i with
 | some d => A.tmps.getD d undef
 | none => undef
def fillF (ops : Array Oper) (A1 : Act) (a : Act) (p : List Nat) : Act := p.foldl (fun a i => a.put (dstOf ops i) (valOf ops A1 i)) a
def fillV (ops : Array Oper) (A : Act) (q : List (Nat × Value)) : Act := q.foldl (fun a x => a.put (dstOf ops x.1) x.2) A
def blind (ops : Array Oper) (i j : Nat) : Bool := match dstOf ops j with
 | some d => !(looksOf ops i).contains d
 | none => true
theorem blind_spec {i j : Nat} {o : Oper} (hi : ops[i]? = some o) (h : blind ops i j = true) : ∀ d, dstOf ops j = some d → d ∉ o.looksAt ops := by
 intro d hd;unfold blind at h;rw [hd] at h;simpa [looksOf, hi] using h
theorem eval_fillF {A1 : Act} {i : Nat} {o : Oper} (hi : ops[i]? = some o) (hsel : ∀ cs b, o.op ≠ .select cs b) : ∀ (p : List Nat) (a : Act), (∀ j ∈ p, blind ops i j = true) →
  execOp (fillF ops A1 a p).eval o = execOp a.eval o ∧ Region.wanted o (yielded ops (fillF ops A1 a p).tmps) = Region.wanted o (yielded ops a.tmps)
 | [], a, _ => ⟨rfl, rfl⟩
 | j :: p, a, h => by
  have h1 := eval_fillF (A1 := A1) hi hsel p (a.put (dstOf ops j) (valOf ops A1 j)) (fun k hk => h k (by simp [hk]))
  have hb := blind_spec hi (h j (by simp))
  exact ⟨h1.1.trans (execOp_put o hsel a _ _ hb), h1.2.trans (wanted_put o a _ _ hb)⟩
theorem eval_fillV {i : Nat} {o : Oper} (hi : ops[i]? = some o) (hsel : ∀ cs b, o.op ≠ .select cs b) : ∀ (q : List (Nat × Value)) (a : Act), (∀ x ∈ q, blind ops i x.1 = true) →
  execOp (fillV ops a q).eval o = execOp a.eval o ∧ Region.wanted o (yielded ops (fillV ops a q).tmps) = Region.wanted o (yielded ops a.tmps)
 | [], a, _ => ⟨rfl, rfl⟩
 | x :: q, a, h => by
  have h1 := eval_fillV hi hsel q (a.put (dstOf ops x.1) x.2) (fun k hk => h k (by simp [hk]))
  have hb := blind_spec hi (h x (by simp))
  exact ⟨h1.1.trans (execOp_put o hsel a _ _ hb), h1.2.trans (wanted_put o a _ _ hb)⟩
theorem fillF_put {A1 : Act} {d : Option Tmp} {v : Value} : ∀ (p : List Nat) (a : Act), (∀ j ∈ p, ∀ t, d = some t → dstOf ops j ≠ some t) → fillF ops A1 (a.put d v) p = (fillF ops A1 a p).put d v
 | [], a, _ => rfl
 | j :: p, a, h => by
  show fillF ops A1 ((a.put d v).put (dstOf ops j) (valOf ops A1 j)) p = (fillF ops A1 (a.put (dstOf ops j) (valOf ops A1 j)) p).put d v
  rw [Act.put_comm a v (valOf ops A1 j) (h j (by simp))]
  exact fillF_put p _ (fun k hk => h k (by simp [hk]))
theorem fillV_put {d : Option Tmp} {v : Value} (q : List (Nat × Value)) (a : Act) {i : Nat} (hi : dstOf ops i = d) : (fillV ops a q).put d v = fillV ops a (q ++ [(i, v)]) := by
 unfold fillV; rw [List.foldl_append]; simp [hi]
theorem fillF_perm {A1 : Act} {p p' : List Nat} (h : p.Perm p') (hd : ∀ i ∈ p, ∀ j ∈ p, i ≠ j → ∀ t, dstOf ops i = some t → dstOf ops j ≠ some t) (a : Act) : fillF ops A1 a p = fillF ops A1 a p' := by
 unfold fillF;refine h.foldl_eq' (fun i hi j hj z => ?_) a
 by_cases hij : i = j
 ·subst hij; rfl
 ·exact Act.put_comm z _ _ (hd i hi j hj hij)
theorem fillV_perm {q q' : List (Nat × Value)} (h : q.Perm q') (hd : ∀ x ∈ q, ∀ y ∈ q, x ≠ y → ∀ t, dstOf ops x.1 = some t → dstOf ops y.1 ≠ some t) (a : Act) : fillV ops a q = fillV ops a q' := by
 unfold fillV;refine h.foldl_eq' (fun i hi j hj z => ?_) a
 by_cases hij : i = j
 ·subst hij; rfl
 ·exact Act.put_comm z _ _ (hd i hi j hj hij)
def fitsN (ops : Array Oper) : List Nat → List Oper → Prop
 | [], [] => True
 | i :: c, o :: l => ops[i]? = some o ∧ fitsN ops c l
 | _, _ => False
theorem walk_eval {C : World → Prop} {A1 : Act} {i : Nat} {oi : Oper} (hi : ops[i]? = some oi) (hsel : ∀ cs b, oi.op ≠ .select cs b) : ∀ (c : List Nat) (l : List Oper) (a : Act), fitsN ops c l → wpQuiet P ops C (fun a' => a' = A1) l a →
  (∀ j ∈ c, blind ops i j = true) → execOp A1.eval oi = execOp a.eval oi ∧ Region.wanted oi (yielded ops A1.tmps) = Region.wanted oi (yielded ops a.tmps)
 | [], [], a, _, h, _ => by
  have h' : a = A1 := h;subst h'; exact ⟨rfl, rfl⟩
 | [], _ :: _, _, hl, _, _ => hl.elim
 | _ :: _, [], _, hl, _, _ => hl.elim
 | j :: c, o :: l, a, hl, h, hb => by
  have hq : qOp P ops C j (wpQuiet P ops C (fun a' => a' = A1) l) a := by unfold qOp; simp only [hl.1]; exact h
  obtain ⟨v, _, hk⟩ := yieldsIn_of_qOp hl.1 hq;have h1 := walk_eval hi hsel c l (a.put o.dst v) hl.2 hk (fun k hk => hb k (by simp [hk]))
  have hd := blind_spec hi (hb j (by simp))
  have hdo : dstOf ops j = o.dst := by simp [dstOf, hl.1]
  rw [hdo] at hd;exact ⟨h1.1.trans (execOp_put oi hsel a _ _ hd), h1.2.trans (wanted_put oi a _ _ hd)⟩
theorem walk_slot {C : World → Prop} {A1 : Act} (d : Tmp) : ∀ (c : List Nat) (l : List Oper) (a : Act), fitsN ops c l → wpQuiet P ops C (fun a' => a' = A1) l a →
  (∀ j ∈ c, dstOf ops j ≠ some d) → A1.tmps[d]? = a.tmps[d]? ∧ A1.tmps.size = a.tmps.size ∧ A1.defers = a.defers
 | [], [], a, _, h, _ => by
  have h' : a = A1 := h;subst h'; exact ⟨rfl, rfl, rfl⟩
 | [], _ :: _, _, hl, _, _ => hl.elim
 | _ :: _, [], _, hl, _, _ => hl.elim
 | j :: c, o :: l, a, hl, h, hb => by
  have hq : qOp P ops C j (wpQuiet P ops C (fun a' => a' = A1) l) a := by unfold qOp; simp only [hl.1]; exact h
  obtain ⟨v, _, hk⟩ := yieldsIn_of_qOp hl.1 hq;have h1 := walk_slot d c l (a.put o.dst v) hl.2 hk (fun k hk => hb k (by simp [hk]))
  have hdo : dstOf ops j = o.dst := by simp [dstOf, hl.1]
  have hne := hb j (by simp)
  rw [hdo] at hne;have h2 : (a.put o.dst v).tmps[d]? = a.tmps[d]? ∧ (a.put o.dst v).tmps.size = a.tmps.size := by
   cases ho : o.dst with
   | none => exact ⟨rfl, rfl⟩
   | some e =>
    rw [ho] at hne;have : e ≠ d := fun h => hne (by rw [h])
    simp [Act.put, this]
  exact ⟨h1.1.trans h2.1, h1.2.1.trans h2.2, h1.2.2.trans (put_defers _ _ _)⟩
theorem fixed_of_walk {C : World → Prop} {A1 : Act} (hsel : ∀ (j : Nat) (o : Oper) cs b, ops[j]? = some o → o.op ≠ .select cs b) : ∀ (c : List Nat) (l : List Oper) (a : Act), fitsN ops c l → wpQuiet P ops C (fun a' => a' = A1) l a →
  c.Pairwise (fun i j => blind ops i j = true ∧ ∀ t, dstOf ops i = some t → dstOf ops j ≠ some t) → (∀ i ∈ c, blind ops i i = true ∧ ∃ d, dstOf ops i = some d ∧ d < a.tmps.size) →
  ∀ i ∈ c, ∃ o, ops[i]? = some o ∧ ((Region.wanted o (yielded ops A1.tmps) = true ∧ ∀ w, C w → Oper.quietUpon P C w (valOf ops A1 i) ((execOp A1.eval o).run P w)) ∨ (Region.wanted o (yielded ops A1.tmps) = false ∧ valOf ops A1 i = undef))
 | [], _, _, _, _, _, _, i, hi => by cases hi
 | _ :: _, [], _, hl, _, _, _, _, _ => hl.elim
 | j :: c, o :: l, a, hl, h, hp, hd, i, hi => by
  have hq : qOp P ops C j (wpQuiet P ops C (fun a' => a' = A1) l) a := by unfold qOp; simp only [hl.1]; exact h
  obtain ⟨v, hy, hk⟩ := yieldsIn_of_qOp hl.1 hq;have hdo : dstOf ops j = o.dst := by simp [dstOf, hl.1]
  obtain ⟨hp1, hp2⟩ := List.pairwise_cons.1 hp;by_cases hij : i = j
  ·subst hij;obtain ⟨hb, d, hdd, hds⟩ := hd i (by simp)
   have h1 := walk_eval hl.1 (fun cs b => hsel i o cs b hl.1) c l (a.put o.dst v) hl.2 hk (fun k hk => (hp1 k hk).1)
   have h2 := walk_slot d c l (a.put o.dst v) hl.2 hk (fun k hk => (hp1 k hk).2 d hdd)
   have hbb := blind_spec hl.1 hb;rw [hdo] at hbb hdd;have e1 := h1.1.trans (execOp_put o (fun cs b => hsel i o cs b hl.1) a _ _ hbb)
   have e2 := h1.2.trans (wanted_put o a _ _ hbb);have hval : valOf ops A1 i = v := by
    unfold valOf;rw [hdo, hdd];have h3 := h2.1;rw [hdd] at h3;simp only [Array.getD_eq_getD_getElem?, h3];simp [Act.put, hds]
   refine ⟨o, hl.1, ?_⟩;rw [e1, e2, hval];exact hy
  ·have hi' : i ∈ c := by simpa [hij] using hi
   refine fixed_of_walk hsel c l (a.put o.dst v) hl.2 hk hp2 (fun k hk => ?_) i hi'
   obtain ⟨h1, d, h2, h3⟩ := hd k (by simp [hk])
   exact ⟨h1, d, h2, by cases o.dst <;> simpa [Act.put] using h3⟩
theorem fixed_all {A1 : Act} (hsel : ∀ (j : Nat) (o : Oper) cs b, ops[j]? = some o → o.op ≠ .select cs b) (c : List Nat) (l : List Oper) (a : Act) (hl : fitsN ops c l)
  (h : ∀ (I : Type) (F : I → World), Nonempty I → ((∀ i w, Below (F i).heap.size (F i) w → ∃ j, w = F j) ∧ ∀ i, Below B W (F i)) → wpQuiet P ops (fun w => ∃ i, w = F i) (fun a' => a' = A1) l a)
  (hp : c.Pairwise (fun i j => blind ops i j = true ∧ ∀ t, dstOf ops i = some t → dstOf ops j ≠ some t)) (hd : ∀ i ∈ c, blind ops i i = true ∧ ∃ d, dstOf ops i = some d ∧ d < a.tmps.size) (hB : B ≤ W.heap.size) :
  ∀ i ∈ c, ∃ o, ops[i]? = some o ∧ YG P ops B W o (valOf ops A1 i) A1 := by
 intro i hi;have key : ∀ w, Below B W w → ∃ o, ops[i]? = some o ∧ ((Region.wanted o (yielded ops A1.tmps) = true ∧ growAt P w (valOf ops A1 i) ((execOp A1.eval o).run P w)) ∨ (Region.wanted o (yielded ops A1.tmps) = false ∧ valOf ops A1 i = undef)) := by
  intro w hw;have h1 := fixed_of_walk hsel c l a hl (h { u : World // Below w.heap.size w u } (fun x => x.1) ⟨⟨w, Below.refl _ _⟩⟩ ⟨fun x u hu => ⟨⟨u, x.2.trans (hu.mono x.2.size)⟩, rfl⟩, fun x => hw.trans (x.2.mono (Nat.le_trans hB hw.size))⟩) hp hd i hi
  obtain ⟨o, ho, h2⟩ := h1;refine ⟨o, ho, h2.imp (fun ⟨h3, h4⟩ => ⟨h3, ?_⟩) id⟩
  have h5 := h4 w ⟨⟨w, Below.refl _ _⟩, rfl⟩;generalize (execOp A1.eval o).run P w = r at *;cases r with
  | ok n w' =>
   cases n <;> simp only [Oper.quietUpon] at h5 <;> simp only [growAt]
   case value u => exact h5
   case skip => exact ⟨h5.1, h5.2.symm⟩
   case enter f args => exact ⟨h5.1, h5.2.mono fun e w'' ⟨he, x, hx⟩ => ⟨he, hx ▸ x.2⟩⟩
  | halt x w' => exact h5.elim
 obtain ⟨o, ho, _⟩ := key W (Below.refl _ _);refine ⟨o, ho, ?_⟩;cases hw : Region.wanted o (yielded ops A1.tmps) with
 | true =>
  refine .inl ⟨hw, fun w hb => ?_⟩
  obtain ⟨o', ho', h1⟩ := key w hb;rw [ho] at ho';cases ho';rcases h1 with h1 | h1
  ·exact h1.2
  ·rw [hw] at h1; cases h1.1
 | false =>
  obtain ⟨o', ho', h1⟩ := key W (Below.refl _ _);rw [ho] at ho';cases ho';rcases h1 with h1 | h1
  ·rw [hw] at h1; cases h1.1
  ·exact .inr ⟨hw, h1.2⟩
theorem wpOp_YG {A1 a' : Act} {i : Nat} {o : Oper} {v : Value} {w : World} {K : Act → World → Prop} (hi : ops[i]? = some o) (e1 : execOp a'.eval o = execOp A1.eval o) (e2 : Region.wanted o (yielded ops a'.tmps) = Region.wanted o (yielded ops A1.tmps))
  (hy : YG P ops B W o v A1) (hw : Below B W w) (h : ∀ w', Below w.heap.size w w' → K (a'.put o.dst v) w') : wpOp P ops Q i K a' w := by
 unfold wpOp;simp only [hi];rcases hy with ⟨h1, h2⟩ | ⟨h1, rfl⟩
 ·rw [e2, if_pos h1];refine .inl ?_;have h3 := h2 w hw;unfold Oper.wp;rw [e1];generalize (execOp A1.eval o).run P w = r at *;cases r with
  | ok n w' =>
   cases n <;> simp only [growAt] at h3 <;> simp only [Oper.upon]
   case value u => obtain ⟨rfl, rfl⟩ := h3; exact h _ (Below.refl _ _)
   case skip => obtain ⟨rfl, rfl⟩ := h3; exact h _ (Below.refl _ _)
   case enter f args => obtain ⟨rfl, h4⟩ := h3; exact h4.mono fun e w'' ⟨he, hb⟩ => by subst he; exact h _ hb
  | halt x w' => exact h3.elim
 ·rw [e2, h1];simp only [Bool.false_eq_true, if_false];exact h _ (Below.refl _ _)
theorem wpOp_vals {A1 a' : Act} {i : Nat} {o : Oper} {w : World} {K : Act → World → Prop} {R : VP} {Z : List PanicEntry → World → Prop} (hi : ops[i]? = some o) (hg : o.guard = none) (e1 : execOp a'.eval o = execOp A1.eval o)
  (hr : valsAt P R Z ((execOp A1.eval o).run P w)) (hZ : ∀ c w', Z c w' → Q (.panic c) a' w') (h : ∀ u w', R u w' → K (a'.put o.dst u) w') : wpOp P ops Q i K a' w := by
 unfold wpOp;simp only [hi, Region.wanted, hg, if_true];refine .inl ?_;unfold Oper.wp;rw [e1];generalize (execOp A1.eval o).run P w = r at *;cases r with
 | ok n w' =>
  cases n <;> simp only [valsAt] at hr <;> simp only [Oper.upon]
  case value u => exact h _ _ hr
  case enter f args =>
   refine hr.mono fun e w'' he => ?_
   rcases he with ⟨u, rfl, he⟩ | ⟨c, rfl, he⟩
   ·exact h _ _ he
   ·exact hZ _ _ he
 | halt x w' =>
  cases x <;> simp only [valsAt] at hr
  exact hZ _ _ hr
def seqT (ops : Array Oper) : List Nat → Array Bool → Bool
 | [], listed => (Region.ready .any ops listed).isEmpty
 | t :: r, listed => decide (Region.ready .any ops listed = [t]) && seqT ops r (listed.setIfInBounds t true)
theorem wpAnyF_seq {S : World → Prop} {late : List Nat} : ∀ (tl : List Nat) (l : List Oper) (listed : Array Bool) (a : Act) (w : World), fitsN ops tl l → (∀ t ∈ tl, t ∈ late) → seqT ops tl listed = true → wpList P ops Q l a w → wpAnyF P .any ops Q S late tl.length listed a w
 | [], [], _, _, _, _, _, hB, h => ⟨by simpa [seqT] using hB, h⟩
 | [], _ :: _, _, _, _, hl, _, _, _ => hl.elim
 | _ :: _, [], _, _, _, hl, _, _, _ => hl.elim
 | t :: r, o :: l, listed, a, w, hl, hm, hB, h => by
  simp only [seqT, Bool.and_eq_true, decide_eq_true_eq] at hB;refine ⟨fun h1 => (by rw [hB.1] at h1; cases h1), fun i hi => ?_⟩
  rw [hB.1] at hi;have hik : i = t := by simpa using hi
  subst hik;have hw : wpOp P ops Q i (wpList P ops Q l) a w := by unfold wpOp; simp only [hl.1]; exact h
  exact wpOp_mono (fun a' w' h' => ⟨fun hn => absurd (hm i (by simp)) hn, wpAnyF_seq r l _ a' w' hl.2 (fun x hx => hm x (by simp [hx])) hB.2 h'⟩) hw
structure Shape (ops : Array Oper) (fx vsI tl : List Nat) : Prop where
 nodup : (fx ++ vsI ++ tl).Nodup
 all : ∀ i, (i ∈ fx ∨ i ∈ vsI ∨ i ∈ tl) → i < ops.size
 edges : ∀ i o, ops[i]? = some o → ∀ e ∈ o.after, Region.binds .any e = true → e.on < i
 bl1 : ∀ i ∈ fx ++ vsI, ∀ j ∈ fx, blind ops i j = true ∨ ∃ m, waitsT .any ops m i j = true
 bl2 : ∀ i ∈ fx ++ vsI, ∀ j ∈ vsI, blind ops i j = true
 dst : ∀ i ∈ fx ++ vsI, ∀ j ∈ fx ++ vsI, i ≠ j → ∀ t, dstOf ops i = some t → dstOf ops j ≠ some t
 guard : ∀ i ∈ vsI, ∀ o, ops[i]? = some o → o.guard = none
theorem ready_ne {listed : Array Bool} {fx vsI tl : List Nat} (sh : Shape ops fx vsI tl) (hs : listed.size = ops.size) : ∀ i, i < ops.size → listed.getD i true = false → Region.ready .any ops listed ≠ [] := by
 intro i;induction i using Nat.strongRecOn with
 | _ i ih =>
  intro hi hl;by_cases hr : i ∈ Region.ready .any ops listed
  ·intro h; rw [h] at hr; cases hr
  ·obtain ⟨o, ho⟩ : ∃ o, ops[i]? = some o := ⟨_, Array.getElem?_eq_getElem hi⟩;have : ¬ ∀ e ∈ o.after, Region.binds .any e = true → listed.getD e.on false = true := fun h => hr (mem_ready.2 ⟨hl, o, ho, h⟩)
   simp only [Classical.not_forall] at this;obtain ⟨e, he, hb, hne⟩ := this;have hlt := sh.edges i o ho e he hb;refine ih e.on hlt (by omega) ?_
   have h1 : e.on < listed.size := by omega
   simp [h1] at hne ⊢;exact hne
structure St (P : Program) (ops : Array Oper) (B : Nat) (W : World) (A1 : Act) (V : Nat → VP) (fx vsI tl : List Nat) (listed : Array Bool) (a : Act) (w : World) (p pv : List Nat) (q : List (Nat × Value)) : Prop where
 closed : Closed .any ops listed
 un : ∀ i, listed.getD i true = false ↔ i ∈ p ∨ i ∈ pv ∨ i ∈ tl
 pn : p.Nodup
 ps : ∀ i ∈ p, i ∈ fx
 vn : (pv ++ q.map Prod.fst).Perm vsI
 eqA : fillF ops A1 a p = fillV ops A1 q
 qok : ∀ x ∈ q, V x.1 x.2 w
 bel : Below B W w
 dfr : a.defers = A1.defers
theorem core {A1 : Act} {V : Nat → VP} {Z : List PanicEntry → World → Prop} {fx vsI tl : List Nat} (hsel : ∀ (j : Nat) (o : Oper) cs b, ops[j]? = some o → o.op ≠ .select cs b) (hB0 : B ≤ W.heap.size) (sh : Shape ops fx vsI tl) (hvn : vsI.Nodup)
  (hZ : ∀ c (a' : Act) w, a'.defers = A1.defers → Z c w → Q (.panic c) a' w)
  (hfx : ∀ i ∈ fx, ∃ o, ops[i]? = some o ∧ YG P ops B W o (valOf ops A1 i) A1)
  (hst : ∀ i ∈ vsI, ∀ v w w', V i v w → Below B W w → Below w.heap.size w w' → V i v w')
  (hvs : ∀ i ∈ vsI, ∃ o, ops[i]? = some o ∧ ∀ w, Below B W w → valsAt P (fun u w' => Below w.heap.size w w' ∧ V i u w') Z ((execOp A1.eval o).run P w))
  (htl : ∀ t ∈ tl, (∀ h ∈ fx ++ vsI, ∃ m, waitsT .any ops m t h = true) ∨ ∃ k ∈ vsI, (∃ m, waitsT .any ops m t k = true) ∧ ∀ v w, ¬ V k v w)
  (hend : ∀ (listed : Array Bool) (q : List (Nat × Value)) (w : World), Below B W w → (q.map Prod.fst).Perm vsI → (∀ x ∈ q, V x.1 x.2 w) → listed.size = ops.size → (∀ i, listed.getD i true = false ↔ i ∈ tl) → wpAnyF P .any ops Q (Below B W) tl tl.length listed (fillV ops A1 q) w) :
  ∀ (k : Nat) (listed : Array Bool) (a : Act) (w : World) (p pv : List Nat) (q : List (Nat × Value)), k = p.length + pv.length → St P ops B W A1 V fx vsI tl listed a w p pv q → wpAnyF P .any ops Q (Below B W) tl (k + tl.length) listed a w := by
 intro k;induction k with
 | zero =>
  intro listed a w p pv q hk st;have hp : p = [] := List.length_eq_zero_iff.1 (by omega)
  have hpv : pv = [] := List.length_eq_zero_iff.1 (by omega)
  subst hp hpv;have hA : a = fillV ops A1 q := st.eqA;rw [Nat.zero_add, hA];exact hend listed q w st.bel (by simpa using st.vn) st.qok st.closed.1 (fun i => by simpa using st.un i)
 | succ k ih =>
  intro listed a w p pv q hk st;rw [show k + 1 + tl.length = (k + tl.length) + 1 by omega]
  have hqv : ∀ x ∈ q, x.1 ∈ vsI := fun x hx => st.vn.mem_iff.1 (by simp; exact .inr ⟨x.2, hx⟩)
  have hvi : ∀ i ∈ pv, i ∈ vsI := fun i hi => st.vn.mem_iff.1 (by simp [hi])
  have hlt : ∀ i, i ∈ p ∨ i ∈ pv → i < ops.size := fun i hi => sh.all i (hi.elim (fun h => .inl (st.ps i h)) (fun h => .inr (.inl (hvi i h))))
  have hex : ∃ i, i ∈ p ∨ i ∈ pv := by
   cases p with
   | cons i p => exact ⟨i, .inl (by simp)⟩
   | nil =>
    cases pv with
    | cons i pv => exact ⟨i, .inr (by simp)⟩
    | nil => simp at hk
  have hne : Region.ready .any ops listed ≠ [] := by
   obtain ⟨i, hi⟩ := hex;exact ready_ne sh st.closed.1 i (hlt i hi) ((st.un i).2 (hi.elim .inl (fun h => .inr (.inl h))))
  refine ⟨fun h => absurd h hne, fun i hi => ?_⟩
  obtain ⟨hun, oi, hoi, hall⟩ := mem_ready.1 hi;have hdo : dstOf ops i = oi.dst := by simp [dstOf, hoi]
  have evals : (i ∈ fx ++ vsI) → execOp a.eval oi = execOp A1.eval oi ∧ Region.wanted oi (yielded ops a.tmps) = Region.wanted oi (yielded ops A1.tmps) := by
   intro hh;have h1 := eval_fillF (A1 := A1) hoi (fun cs b => hsel i oi cs b hoi) p a (fun j hj => by
    rcases sh.bl1 i hh j (st.ps j hj) with h | ⟨m, h⟩
    ·exact h
    ·exact absurd (waitsT_ready st.closed hi h) (fun h2 => not_both ((st.un j).2 (.inl hj)) h2))
   have h2 := eval_fillV hoi (fun cs b => hsel i oi cs b hoi) q A1 (fun x hx => sh.bl2 i hh x.1 (hqv x hx))
   rw [st.eqA] at h1;exact ⟨h1.1.symm.trans h2.1, h1.2.symm.trans h2.2⟩
  rcases (st.un i).1 hun with hip | hipv | hitl
  · -- a fixed one
   have hh : i ∈ fx ++ vsI := by simp [st.ps i hip]
   obtain ⟨e1, e2⟩ := evals hh;obtain ⟨o', ho', hy⟩ := hfx i (st.ps i hip);rw [hoi] at ho'; cases ho';refine wpOp_YG hoi e1 e2 hy st.bel fun w' hw' => ⟨fun _ hb => hb.trans (hw'.mono (Nat.le_trans hB0 hb.size)), ?_⟩
   have hperm : p.Perm (i :: p.erase i) := List.perm_cons_erase hip;refine ih _ _ w' (p.erase i) pv q (by have := hperm.length_eq; simp at this; omega) ⟨st.closed.set hi, fun j => ?_, st.pn.erase i, fun j hj => st.ps j (List.mem_of_mem_erase hj), st.vn, ?_, fun x hx => hst x.1 (hqv x hx) _ _ _ (st.qok x hx) st.bel hw', st.bel.trans (hw'.mono (Nat.le_trans hB0 st.bel.size)), (put_defers _ _ _).trans st.dfr⟩
   ·by_cases hij : i = j
    ·subst hij;have h1 : i < listed.size := by rw [st.closed.1]; exact hlt i (.inl hip)
     have h2 : i ∉ p.erase i := fun h => ((List.Nodup.mem_erase_iff st.pn).1 h).1 rfl
     have h3 := sh.nodup;have h4 : i ∉ vsI ∧ i ∉ tl := by
      have h5 := st.ps i hip;simp only [List.nodup_append, List.mem_append] at h3;exact ⟨fun h => h3.1.2.2 i h5 i h rfl, fun h => h3.2.2 i (.inl h5) i h rfl⟩
     have h6 : i ∉ pv := fun h => h4.1 (hvi i h)
     simp [h1, h2, h6, h4.2]
    ·rw [getD_set_ne true hij, st.un j];have : j ∈ p.erase i ↔ j ∈ p := by rw [List.Nodup.mem_erase_iff st.pn]; simp [Ne.symm hij]
     rw [this]
   ·have h1 := fillF_perm (A1 := A1) hperm (fun x hx y hy hxy => sh.dst x (by simp [st.ps x hx]) y (by simp [st.ps y hy]) hxy) a
    rw [← st.eqA, h1, ← hdo];rfl
  · -- one that is known by a predicate
   have hiv := hvi i hipv;have hh : i ∈ fx ++ vsI := by simp [hiv]
   obtain ⟨e1, e2⟩ := evals hh;obtain ⟨o', ho', hy⟩ := hvs i hiv;rw [hoi] at ho'; cases ho';refine wpOp_vals hoi (sh.guard i hiv oi hoi) e1 (hy w st.bel) (fun c w' hz => hZ c a w' st.dfr hz) fun u w' ⟨hw', hV⟩ => ⟨fun _ hb => hb.trans (hw'.mono (Nat.le_trans hB0 hb.size)), ?_⟩
   have hperm : pv.Perm (i :: pv.erase i) := List.perm_cons_erase hipv;have hvn2 : (pv.erase i ++ (q ++ [(i, u)]).map Prod.fst).Perm vsI := by
    refine List.Perm.trans ?_ st.vn;rw [List.map_append, ← List.append_assoc];refine List.Perm.trans List.perm_append_comm ?_;exact (List.Perm.append_right (q.map Prod.fst) hperm).symm
   have hpvn : pv.Nodup := by
    have := (st.vn.nodup_iff).2 hvn;exact (List.nodup_append.1 this).1
   refine ih _ _ w' p (pv.erase i) (q ++ [(i, u)]) (by have := hperm.length_eq; simp at this; omega) ⟨st.closed.set hi, fun j => ?_, st.pn, st.ps, hvn2, ?_, fun x hx => ?_, st.bel.trans (hw'.mono (Nat.le_trans hB0 st.bel.size)), (put_defers _ _ _).trans st.dfr⟩
   ·by_cases hij : i = j
    ·subst hij;have h1 : i < listed.size := by rw [st.closed.1]; exact hlt i (.inr hipv)
     have h2 : i ∉ pv.erase i := fun h => ((List.Nodup.mem_erase_iff hpvn).1 h).1 rfl
     have h3 := sh.nodup;simp only [List.nodup_append, List.mem_append] at h3;have h4 : i ∉ p := fun h => h3.1.2.2 i (st.ps i h) i hiv rfl
     have h5 : i ∉ tl := fun h => h3.2.2 i (.inr hiv) i h rfl
     simp [h1, h2, h4, h5]
    ·rw [getD_set_ne true hij, st.un j];have : j ∈ pv.erase i ↔ j ∈ pv := by rw [List.Nodup.mem_erase_iff hpvn]; simp [Ne.symm hij]
     rw [this]
   ·have h1 := fillF_put (A1 := A1) (ops := ops) (d := oi.dst) (v := u) p a (fun j hj t ht => by
     have h3 := sh.nodup;simp only [List.nodup_append, List.mem_append] at h3;have hne : i ≠ j := fun h => h3.1.2.2 j (st.ps j hj) i hiv h.symm
     exact sh.dst i hh j (by simp [st.ps j hj]) hne t (by rw [hdo]; exact ht))
    rw [h1, st.eqA];exact fillV_put q A1 hdo
   ·rcases List.mem_append.1 hx with hx | hx
    ·exact hst x.1 (hqv x hx) _ _ _ (st.qok x hx) st.bel hw'
    ·have : x = (i, u) := by simpa using hx
     subst this;exact hV
  · -- the tail waits
   exfalso;obtain ⟨j, hj⟩ := hex;have hjh : j ∈ fx ++ vsI := by
    rcases hj with h | h
    ·simp [st.ps j h]
    ·simp [hvi j h]
   have hju : listed.getD j true = false := (st.un j).2 (hj.elim .inl (fun h => .inr (.inl h)))
   rcases htl i hitl with h | ⟨k', hk', ⟨m, hm⟩, hV⟩
   ·obtain ⟨m, hm⟩ := h j hjh;exact not_both hju (waitsT_ready st.closed hi hm)
   ·have h1 := waitsT_ready st.closed hi hm;have h2 : k' ∈ pv ++ q.map Prod.fst := st.vn.mem_iff.2 hk';rcases List.mem_append.1 h2 with h2 | h2
    ·exact not_both ((st.un k').2 (.inr (.inl h2))) h1
    ·obtain ⟨x, hx, rfl⟩ := List.mem_map.1 h2;exact hV _ _ (st.qok x hx)
theorem act_of_walk {C : World → Prop} {A1 : Act} (hsel : ∀ (j : Nat) (o : Oper) cs b, ops[j]? = some o → o.op ≠ .select cs b) : ∀ (c : List Nat) (l : List Oper) (a : Act), fitsN ops c l → wpQuiet P ops C (fun a' => a' = A1) l a →
  c.Pairwise (fun i j => blind ops i j = true ∧ ∀ t, dstOf ops i = some t → dstOf ops j ≠ some t) → (∀ i ∈ c, blind ops i i = true ∧ ∃ d, dstOf ops i = some d ∧ d < a.tmps.size) →
  A1 = fillF ops A1 a c
 | [], [], a, _, h, _, _ => by
  have h' : a = A1 := h;subst h'; rfl
 | [], _ :: _, _, hl, _, _, _ => hl.elim
 | _ :: _, [], _, hl, _, _, _ => hl.elim
 | j :: c, o :: l, a, hl, h, hp, hd => by
  have hq : qOp P ops C j (wpQuiet P ops C (fun a' => a' = A1) l) a := by unfold qOp; simp only [hl.1]; exact h
  obtain ⟨v, hy, hk⟩ := yieldsIn_of_qOp hl.1 hq;have hdo : dstOf ops j = o.dst := by simp [dstOf, hl.1]
  obtain ⟨hp1, hp2⟩ := List.pairwise_cons.1 hp;obtain ⟨hb, d, hdd, hds⟩ := hd j (by simp)
  have h2 := walk_slot d c l (a.put o.dst v) hl.2 hk (fun k hk => (hp1 k hk).2 d hdd)
  have hval : valOf ops A1 j = v := by
   unfold valOf;rw [hdd];have h3 := h2.1;rw [← hdo, hdd] at h3;simp only [Array.getD_eq_getD_getElem?, h3];simp [Act.put, hds]
  have ih := act_of_walk hsel c l (a.put o.dst v) hl.2 hk hp2 (fun k hk => by
   obtain ⟨h1, d, h2, h3⟩ := hd k (by simp [hk])
   exact ⟨h1, d, h2, by cases o.dst <;> simpa [Act.put] using h3⟩)
  show A1 = fillF ops A1 (a.put (dstOf ops j) (valOf ops A1 j)) c
  rw [hval, hdo];exact ih
def pairsB (ops : Array Oper) : List Nat → Bool
 | [] => true
 | i :: c => (c.all fun j => blind ops i j && (match dstOf ops i with
  | some t => dstOf ops j != some t
  | none => true)) && pairsB ops c
def floatB (ops : Array Oper) : List Nat → Array Bool → Bool
 | [], _ => true
 | i :: r, listed => (Region.ready .any ops listed).contains i && Region.free .any ops listed i && (match ops[i]? with
  | some o => pureOp o
  | none => false) && floatB ops r (listed.setIfInBounds i true)
def regB (ops : Array Oper) (ntmps : Nat) (fl fx : List Nat) (vs : List (Nat × Tmp)) (tl : List Nat) (halt : Option Nat) : Bool :=
 Region.noSelect ops &&
 decide ((fl ++ (fx ++ vs.map Prod.fst ++ tl)).Nodup) && (List.range ops.size).all (fun i => (fl ++ (fx ++ vs.map Prod.fst ++ tl)).contains i) && (fl ++ (fx ++ vs.map Prod.fst ++ tl)).all (fun i => decide (i < ops.size)) &&
 (List.range ops.size).all (fun i => match ops[i]? with
  | some o => o.after.all fun e => !Region.binds .any e || decide (e.on < i)
  | none => true) &&
 (fx ++ vs.map Prod.fst).all (fun i => fx.all fun j => blind ops i j || waitsT .any ops ops.size i j) &&
 (fx ++ vs.map Prod.fst).all (fun i => (vs.map Prod.fst).all fun j => blind ops i j) &&
 (fx ++ vs.map Prod.fst).all (fun i => (fx ++ vs.map Prod.fst).all fun j => i == j || match dstOf ops i with
  | some t => dstOf ops j != some t
  | none => true) &&
 vs.all (fun x => (match ops[x.1]? with
  | some o => o.guard.isNone
  | none => false) && dstOf ops x.1 == some x.2) &&
 (match halt with
  | none => (tl.all fun t => (fx ++ vs.map Prod.fst).all fun h => waitsT .any ops ops.size t h) && seqT ops tl ((Array.range ops.size).map fun i => !tl.contains i)
  | some k => (vs.map Prod.fst).contains k && tl.all fun t => waitsT .any ops ops.size t k) &&
 (fl ++ fx).all (fun i => blind ops i i && match dstOf ops i with
  | some d => decide (d < ntmps)
  | none => false) &&
 pairsB ops (fl ++ fx) && floatB ops fl (Array.replicate ops.size false) && fl.all (fun i => (fl ++ fx).all fun j => blind ops i j)
theorem pairsB_spec : ∀ c : List Nat, pairsB ops c = true → c.Pairwise (fun i j => blind ops i j = true ∧ ∀ t, dstOf ops i = some t → dstOf ops j ≠ some t)
 | [], _ => List.Pairwise.nil
 | i :: c, h => by
  simp only [pairsB, Bool.and_eq_true, List.all_eq_true] at h;refine List.pairwise_cons.2 ⟨fun j hj => ⟨(h.1 j hj).1, fun t ht => ?_⟩, pairsB_spec c h.2⟩
  have := (h.1 j hj).2;rw [ht] at this;simpa using this
theorem pure_yields {o : Oper} {v : Value} {A a : Act} (hp : pureOp o = true) (hy : YG P ops B W o v A) (e1 : execOp a.eval o = execOp A.eval o) (e2 : Region.wanted o (yielded ops a.tmps) = Region.wanted o (yielded ops A.tmps)) :
  YieldsC P ops (fun _ => True) o v a := by
 rcases hy with ⟨h1, h2⟩ | h
 ·refine .inl ⟨e2.trans h1, fun w _ => ?_⟩
  have h3 := h2 W (Below.refl _ _);rw [e1];unfold pureOp at hp;unfold execOp at h3 ⊢;split at hp <;> rename_i ho <;> simp only [ho] at h3 ⊢
  ·obtain ⟨_, h4⟩ := h3; exact ⟨rfl, h4⟩
  ·obtain ⟨_, h4⟩ := h3; exact ⟨rfl, h4⟩
  ·cases hp
 ·exact .inr ⟨e2.trans h.1, h.2⟩
theorem float_first {A1 : Act} {S : World → Prop} {tl : List Nat} (hsel : Region.noSelect ops = true) (hQ : ∀ c a a' w, Act.defers a = Act.defers a' → Q (.panic c) a w → Q (.panic c) a' w) :
  ∀ (fl : List Nat) (k : Nat) (listed : Array Bool) (a : Act) (w : World), Closed .any ops listed → floatB ops fl listed = true →
   (∀ i ∈ fl, ∃ o, ops[i]? = some o ∧ YG P ops B W o (valOf ops A1 i) A1 ∧ execOp a.eval o = execOp A1.eval o ∧ Region.wanted o (yielded ops a.tmps) = Region.wanted o (yielded ops A1.tmps)) → (∀ i ∈ fl, ∀ j ∈ fl, blind ops i j = true) →
   (∀ listed', Closed .any ops listed' → listed' = fl.foldl (fun s i => s.setIfInBounds i true) listed → wpAnyF P .any ops Q S tl k listed' (fillF ops A1 a fl) w) → wpAnyF P .any ops Q S tl (fl.length + k) listed a w
 | [], k, listed, a, w, inv, _, _, _, h => by rw [List.length_nil, Nat.zero_add]; exact h listed inv rfl
 | i :: fl, k, listed, a, w, inv, hB, hy, hb, h => by
  obtain ⟨o, ho, hyi, e1, e2⟩ := hy i (by simp)
  simp only [floatB, ho, Bool.and_eq_true] at hB;obtain ⟨⟨⟨h1, h2⟩, h3⟩, h4⟩ := hB;have hri : i ∈ Region.ready .any ops listed := by simpa using h1
  have hdo : dstOf ops i = o.dst := by simp [dstOf, ho]
  rw [show (i :: fl).length + k = (fl.length + k) + 1 by simp; omega]
  refine wpAnyF_first ho (Region.noSelect_spec hsel) (fun c a d v w => hQ c _ _ w (put_defers a d v)) _ _ _ _ inv (Region.free_spec ho h2) hri (pure_yields h3 hyi e1 e2) (.inl fun _ => trivial) ?_
  refine float_first (A1 := A1) hsel hQ fl k _ _ w (inv.set hri) h4 (fun j hj => ?_) (fun x hx y hy => hb x (by simp [hx]) y (by simp [hy])) (fun listed' hc he => ?_)
  ·obtain ⟨o', ho', hy', f1, f2⟩ := hy j (by simp [hj])
   have hbl := blind_spec ho' (hb j (by simp [hj]) i (by simp))
   rw [hdo] at hbl;exact ⟨o', ho', hy', (execOp_put o' (fun cs b => Region.noSelect_spec hsel j o' cs b ho') a _ _ hbl).trans f1, (wanted_put o' a _ _ hbl).trans f2⟩
  ·have h5 := h listed' hc he;have h6 : fillF ops A1 a (i :: fl) = fillF ops A1 (a.put o.dst (valOf ops A1 i)) fl := by
    show fillF ops A1 (a.put (dstOf ops i) (valOf ops A1 i)) fl = _
    rw [hdo]
   rw [h6] at h5;exact h5
def selN (l : List Oper) : List Nat → List Oper
 | [] => []
 | i :: c => match l.drop i with
  | [] => selN l c
  | o :: _ => o :: selN l c
theorem fits_selN {l : List Oper} : ∀ c : List Nat, (∀ i ∈ c, i < l.length) → fitsN l.toArray c (selN l c)
 | [], _ => trivial
 | i :: c, h => by
  have ih := fits_selN c (fun j hj => h j (by simp [hj]))
  have hi := h i (by simp)
  unfold selN;cases hd : l.drop i with
  | nil => simp at hd; omega
  | cons o r =>
   refine ⟨?_, ih⟩;have : (l.drop i)[0]? = some o := by rw [hd]; rfl
   rw [List.getElem?_drop] at this;simpa using this
theorem set_fold : ∀ (fl : List Nat) (listed : Array Bool) (i : Nat), (fl.foldl (fun s i => s.setIfInBounds i true) listed).getD i true = (if i ∈ fl then true else listed.getD i true) ∧ (fl.foldl (fun s i => s.setIfInBounds i true) listed).size = listed.size
 | [], _, _ => by simp
 | j :: fl, listed, i => by
  obtain ⟨h1, h2⟩ := set_fold fl (listed.setIfInBounds j true) i;refine ⟨?_, by rw [List.foldl_cons, h2]; simp⟩
  rw [List.foldl_cons, h1];by_cases hi : i ∈ fl
  ·simp [hi]
  ·by_cases hij : j = i
   ·subst hij;rcases Nat.lt_or_ge j listed.size with h | h
    ·simp [h]
    ·simp [hi]
   ·rw [if_neg hi, getD_set_ne true hij];simp [hi, Ne.symm hij]
theorem region_reg {id : Nat} {a : Act} {w : World} {l : List Oper} (ntmps : Nat) (fl fx : List Nat) (vs : List (Nat × Tmp)) (tl : List Nat) (halt : Option Nat) (A1 : Act) (V : Nat → VP) (Z : List PanicEntry → World → Prop)
  (hm : P.follows .mixedOrders = true) (hB : regB l.toArray ntmps fl fx vs tl halt = true) (hnt : ntmps ≤ a.tmps.size)
  (hQ : ∀ c a a' w, Act.defers a = Act.defers a' → Q (.panic c) a w → Q (.panic c) a' w)
  (h1 : ∀ (I : Type) (F : I → World), Nonempty I → ((∀ i u, Below (F i).heap.size (F i) u → ∃ j, u = F j) ∧ ∀ i, Below w.heap.size w (F i)) → wpQuiet P l.toArray (fun u => ∃ i, u = F i) (fun a' => a' = A1) (selN l (fl ++ fx)) a)
  (hst : ∀ x ∈ vs, ∀ v u u', V x.1 v u → Below w.heap.size w u → Below u.heap.size u u' → V x.1 v u')
  (hvs : ∀ x ∈ vs, ∀ o ∈ selN l [x.1], ∀ u, Below w.heap.size w u → valsAt P (fun v u' => Below u.heap.size u u' ∧ V x.1 v u') Z ((execOp A1.eval o).run P u))
  (hZ : ∀ c (a' : Act) u, a'.defers = a.defers → Z c u → Q (.panic c) a' u)
  (hhalt : ∀ k, halt = some k → ∀ v u, ¬ V k v u)
  (hend : halt = none → ∀ (f : Nat → Value) u, Below w.heap.size w u → (∀ x ∈ vs, V x.1 (f x.1) u) → wpList P l.toArray Q (selN l tl) (vs.foldl (fun a x => a.put (some x.2) (f x.1)) A1) u) : (Code.region id l.toArray true).wp P Q a w := by
 simp only [regB, Bool.and_eq_true, List.all_eq_true, decide_eq_true_eq, List.mem_range, Bool.or_eq_true] at hB;obtain ⟨⟨⟨⟨⟨⟨⟨⟨⟨⟨⟨⟨⟨c1, c2⟩, c3⟩, c4⟩, c5⟩, c6⟩, c7⟩, c8⟩, c9⟩, c10⟩, c11⟩, c12⟩, c13⟩, c14⟩ := hB;have hsel := Region.noSelect_spec c1;have hlen : l.toArray.size = l.length := by simp
 have c4' : ∀ i ∈ fl ++ (fx ++ vs.map Prod.fst ++ tl), i < l.length := fun i hi => by have := c4 i hi; omega
 have hfits : ∀ c : List Nat, (∀ i ∈ c, i ∈ fl ++ (fx ++ vs.map Prod.fst ++ tl)) → fitsN l.toArray c (selN l c) := fun c hc => fits_selN c (fun i hi => c4' i (hc i hi))
 have hff := hfits (fl ++ fx) (fun i hi => by simp at hi ⊢; rcases hi with h | h <;> simp [h])
 have hpair := pairsB_spec _ c12;have hdd : ∀ i ∈ fl ++ fx, blind l.toArray i i = true ∧ ∃ d, dstOf l.toArray i = some d ∧ d < a.tmps.size := fun i hi => by
  have := c11 i hi;refine ⟨this.1, ?_⟩;cases hd : dstOf l.toArray i with
  | none => rw [hd] at this; cases this.2
  | some d =>
   rw [hd] at this;have h2 : d < ntmps := by simpa using this.2
   exact ⟨d, rfl, Nat.lt_of_lt_of_le h2 hnt⟩
 have hfixed := fixed_all (P := P) (B := w.heap.size) (W := w) hsel (fl ++ fx) _ a hff h1 hpair hdd (Nat.le_refl _);have hA0 := act_of_walk hsel (fl ++ fx) _ a hff (h1 { u : World // Below w.heap.size w u } (fun x => x.1) ⟨⟨w, Below.refl _ _⟩⟩ ⟨fun x u hu => ⟨⟨u, x.2.trans (hu.mono x.2.size)⟩, rfl⟩, fun x => x.2⟩) hpair hdd
 have hslot := walk_slot (A1 := A1) ntmps [] [] A1 trivial (C := fun _ => True) (P := P) (ops := l.toArray) rfl (by simp)
 have hdefA : A1.defers = a.defers := by
  have key : ∀ (c : List Nat) (b : Act), (fillF l.toArray A1 b c).defers = b.defers := by
   intro c;induction c with
   | nil => intro b; rfl
   | cons i c ih => intro b; show (fillF l.toArray A1 (b.put _ _) c).defers = b.defers; rw [ih, put_defers]
  rw [hA0]; exact key _ _
 -- the shape of what is left behind the floaters
 have hnd := List.nodup_append.1 c2;have sh : Shape l.toArray fx (vs.map Prod.fst) tl := by
  refine ⟨hnd.2.1, fun i hi => c4 i (by simp at hi ⊢; rcases hi with h | h | h <;> simp [h]), fun i o ho e he hb => ?_, fun i hi j hj => ?_, fun i hi j hj => c7 i hi j hj, fun i hi j hj hne t ht => ?_, fun i hi o ho => ?_⟩
  ·have hi : i < l.toArray.size := (Array.getElem?_eq_some_iff.1 ho).1;have h2 := c5 i hi;rw [ho] at h2;have h3 := Array.all_eq_true'.1 h2 e he;simp [hb] at h3;exact h3
  ·rcases c6 i hi j hj with h | h
   ·exact .inl h
   ·exact .inr ⟨_, h⟩
  ·have h2 := c8 i hi j hj;rw [ht] at h2;simpa [hne] using h2
  ·obtain ⟨x, hx, rfl⟩ := List.mem_map.1 hi;have h2 := (c9 x hx).1;rw [ho] at h2;simpa using h2
 have hvn : (vs.map Prod.fst).Nodup := (List.nodup_append.1 (List.nodup_append.1 hnd.2.1).1).2.1;have hfx : ∀ i ∈ fx, ∃ o, l.toArray[i]? = some o ∧ YG P l.toArray w.heap.size w o (valOf l.toArray A1 i) A1 := fun i hi => hfixed i (by simp [hi])
 have hopAt : ∀ i, i < l.length → ∃ o, l.toArray[i]? = some o ∧ selN l [i] = [o] := fun i hi => by
  have h2 := fits_selN (l := l) [i] (by simpa using hi)
  unfold selN at h2 ⊢;cases hd : l.drop i with
  | nil => simp at hd; omega
  | cons o r => rw [hd] at h2; exact ⟨o, h2.1, rfl⟩
 have hvs' : ∀ i ∈ vs.map Prod.fst, ∃ o, l.toArray[i]? = some o ∧ ∀ u, Below w.heap.size w u → valsAt P (fun v u' => Below u.heap.size u u' ∧ V i v u') Z ((execOp A1.eval o).run P u) := fun i hi => by
  obtain ⟨x, hx, rfl⟩ := List.mem_map.1 hi;obtain ⟨o, ho, hs⟩ := hopAt x.1 (c4' _ (by simp; exact .inr (.inr (.inl ⟨x.2, hx⟩))))
  exact ⟨o, ho, hvs x hx o (by rw [hs]; simp)⟩
 have hst' : ∀ i ∈ vs.map Prod.fst, ∀ v u u', V i v u → Below w.heap.size w u → Below u.heap.size u u' → V i v u' := fun i hi => by
  obtain ⟨x, hx, rfl⟩ := List.mem_map.1 hi;exact hst x hx
 have htl : ∀ t ∈ tl, (∀ h ∈ fx ++ vs.map Prod.fst, ∃ m, waitsT .any l.toArray m t h = true) ∨ ∃ k ∈ vs.map Prod.fst, (∃ m, waitsT .any l.toArray m t k = true) ∧ ∀ v u, ¬ V k v u := fun t ht => by
  cases hh : halt with
  | none =>
   rw [hh] at c10;simp only [Bool.and_eq_true, List.all_eq_true] at c10;exact .inl fun h hm => ⟨_, c10.1 t ht h hm⟩
  | some k =>
   rw [hh] at c10;simp only [Bool.and_eq_true, List.all_eq_true] at c10;exact .inr ⟨k, by simpa using c10.1, ⟨_, c10.2 t ht⟩, hhalt k hh⟩
 have hfin : ∀ (listed : Array Bool) (q : List (Nat × Value)) (u : World), Below w.heap.size w u → (q.map Prod.fst).Perm (vs.map Prod.fst) → (∀ x ∈ q, V x.1 x.2 u) → listed.size = l.toArray.size → (∀ i, listed.getD i true = false ↔ i ∈ tl) →
   wpAnyF P .any l.toArray Q (Below w.heap.size w) tl tl.length listed (fillV l.toArray A1 q) u := by
  intro listed q u hu hq hqv hls hun;cases hh : halt with
  | some k =>
   exfalso;rw [hh] at c10;simp only [Bool.and_eq_true, List.all_eq_true] at c10;have hk : k ∈ q.map Prod.fst := hq.mem_iff.2 (by simpa using c10.1)
   obtain ⟨x, hx, rfl⟩ := List.mem_map.1 hk;exact hhalt _ hh _ _ (hqv x hx)
  | none =>
   rw [hh] at c10;simp only [Bool.and_eq_true, List.all_eq_true] at c10;have hL : listed = (Array.range l.toArray.size).map fun i => !tl.contains i := by
    refine Array.ext (by simpa using hls) (fun i hi1 hi2 => ?_)
    have h2 := hun i;simp [hi1] at h2;simp;by_cases hi : i ∈ tl
    ·simp [hi, h2.2 hi]
    ·have h3 : ¬ listed[i] = false := fun h => hi (h2.1 h)
     simp [hi];simpa using h3
   refine wpAnyF_seq tl (selN l tl) listed _ u (hfits tl (fun i hi => by simp [hi])) (fun t ht => ht) (by rw [hL]; exact c10.2) ?_
   -- the values by number
   have hqn : (q.map Prod.fst).Nodup := (hq.nodup_iff).2 hvn;obtain ⟨f, hf⟩ : ∃ f : Nat → Value, ∀ x ∈ q, f x.1 = x.2 := by
    refine ⟨fun i => ((q.find? fun x => x.1 == i).map Prod.snd).getD undef, fun x hx => ?_⟩
    have : q.find? (fun y => y.1 == x.1) = some x := by
     clear hq hqv;induction q with
     | nil => cases hx
     | cons y q ih =>
      simp only [List.map_cons, List.nodup_cons] at hqn;by_cases hyx : y.1 = x.1
      ·rcases List.mem_cons.1 hx with h | h
       ·subst h; simp
       ·exact absurd (List.mem_map.2 ⟨x, h, hyx.symm⟩) hqn.1
      ·have hx' : x ∈ q := by
        rcases List.mem_cons.1 hx with h | h
        ·subst h; exact absurd rfl hyx
        ·exact h
       rw [List.find?_cons_of_neg (by simpa using hyx)]
       exact ih hqn.2 hx'
    simp [this]
   have hq2 : q = (q.map Prod.fst).map fun i => (i, f i) := by
    rw [List.map_map]
    conv => lhs; rw [← List.map_id q]
    exact List.map_congr_left fun x hx => by simp [hf x hx]
   have hperm : q.Perm ((vs.map Prod.fst).map fun i => (i, f i)) := by
    rw [hq2];exact hq.map _
   have hfill : fillV l.toArray A1 q = vs.foldl (fun a x => a.put (some x.2) (f x.1)) A1 := by
    rw [fillV_perm hperm (fun x hx y hy hxy t ht => ?_) A1]
    ·have key : ∀ (c : List (Nat × Tmp)) (b : Act), (∀ x ∈ c, dstOf l.toArray x.1 = some x.2) → fillV l.toArray b ((c.map Prod.fst).map fun i => (i, f i)) = c.foldl (fun a x => a.put (some x.2) (f x.1)) b := by
      intro c;induction c with
      | nil => intro b _; rfl
      | cons x c ih =>
       intro b hc;show fillV l.toArray (b.put (dstOf l.toArray x.1) (f x.1)) _ = _
       rw [hc x (by simp), ih _ (fun y hy => hc y (by simp [hy]))]
       rfl
     exact key vs A1 (fun x hx => by simpa using (c9 x hx).2)
    ·have hxm := hq.mem_iff.1 (List.mem_map.2 ⟨x, hx, rfl⟩);have hym := hq.mem_iff.1 (List.mem_map.2 ⟨y, hy, rfl⟩);have hne : x.1 ≠ y.1 := fun h => hxy (by
      have h2 := hf x hx;have h3 := hf y hy;rw [h] at h2;exact Prod.ext h (h2.symm.trans h3))
     exact sh.dst x.1 (by simp only [List.mem_append]; exact .inr hxm) y.1 (by simp only [List.mem_append]; exact .inr hym) hne t ht
   rw [hfill];refine hend hh f u hu fun x hx => ?_
   have hxm : x.1 ∈ q.map Prod.fst := hq.mem_iff.2 (List.mem_map.2 ⟨x, hx, rfl⟩);obtain ⟨y, hy, hyx⟩ := List.mem_map.1 hxm;have := hqv y hy;rw [← hf y hy, hyx] at this;exact this
 refine wp_region_any hm ?_;change wpAny P .any l.toArray Q _ _ a w.drew;have hcl0 : Closed .any l.toArray (Array.replicate l.toArray.size false) := ⟨by simp, fun j oj _ hl => (by rw [getD_replicate_false] at hl; cases hl)⟩
 have hlenp : l.toArray.size = fl.length + ((fx.length + (vs.map Prod.fst).length) + tl.length) := by
  have h2 : (fl ++ (fx ++ vs.map Prod.fst ++ tl)).Perm (List.range l.toArray.size) := by
   refine (List.perm_ext_iff_of_nodup c2 List.nodup_range).2 fun i => ⟨fun hi => List.mem_range.2 (c4 i hi), fun hi => ?_⟩
   have := c3 i (List.mem_range.1 hi);simpa using this
  have h3 := h2.length_eq;simp only [List.length_append, List.length_range] at h3;omega
 have hblf : ∀ i ∈ fl, ∀ j ∈ fl ++ fx, blind l.toArray i j = true := fun i hi j hj => c14 i hi j hj
 have hF := float_first (P := P) (B := w.heap.size) (W := w) (S := Below w.heap.size w) (tl := tl) (A1 := A1) c1 hQ fl ((fx.length + (vs.map Prod.fst).length) + tl.length) (Array.replicate l.toArray.size false) a w.drew hcl0 c13
  (fun i hi => by
   obtain ⟨o, ho, hy⟩ := hfixed i (by simp [hi])
   have h2 := eval_fillF (A1 := A1) ho (fun cs b => hsel i o cs b ho) (fl ++ fx) a (fun j hj => hblf i hi j hj)
   rw [← hA0] at h2;exact ⟨o, ho, hy, h2.1.symm, h2.2.symm⟩)
  (fun i hi j hj => hblf i hi j (by simp [hj])) ?_
 ·have h9 := wpAny_of_F _ _ _ _ hF;rw [← hlenp] at h9;exact h9
 ·intro listed hc he;refine core (Z := Z) (V := V) (fx := fx) (vsI := vs.map Prod.fst) hsel (Nat.le_refl _) sh hvn (fun c a' u hd hz => hZ c a' u (hd.trans hdefA) hz) hfx hst' hvs' htl hfin _ listed _ w.drew fx (vs.map Prod.fst) [] rfl
   ⟨hc, fun i => ?_, (List.nodup_append.1 (List.nodup_append.1 hnd.2.1).1).1, fun i hi => hi, by simp, ?_, by simp, (Below.refl _ _).drew, ?_⟩
  ·rw [he, (set_fold fl _ i).1];by_cases hi : i ∈ fl
   ·have h2 : ¬ (i ∈ fx ∨ i ∈ vs.map Prod.fst ∨ i ∈ tl) := fun h => hnd.2.2 i hi i (by simp only [List.mem_append]; rcases h with h | h | h <;> simp [h]) rfl
    simp only [hi, if_true];exact ⟨fun h => (by cases h), fun h => absurd h h2⟩
   ·rw [if_neg hi];rcases Nat.lt_or_ge i l.toArray.size with h | h
    ·have h2 := c3 i h;simp only [List.contains_iff_mem, List.mem_append, hi, false_or] at h2;rw [getD_in (by simpa using h) (getD_replicate_false _ _)]
     simp only [true_iff];rcases h2 with (h2 | h2) | h2 <;> simp [h2]
    ·have h2 : ¬ (i ∈ fx ∨ i ∈ vs.map Prod.fst ∨ i ∈ tl) := fun h2 => by
      have := c4 i (by simp only [List.mem_append]; rcases h2 with h2 | h2 | h2 <;> simp [h2])
      omega
     have h3 : (Array.replicate l.toArray.size false).getD i true = true := by
      rw [Array.getD_eq_getD_getElem?, Array.getElem?_eq_none (by simpa using h)]; rfl
     rw [h3];exact ⟨fun h => (by cases h), fun h => absurd h h2⟩
  ·have h2 : fillF l.toArray A1 (fillF l.toArray A1 a fl) fx = fillF l.toArray A1 a (fl ++ fx) := by unfold fillF; rw [List.foldl_append]
   rw [h2, ← hA0]; rfl
  ·have key : ∀ (c : List Nat) (b : Act), (fillF l.toArray A1 b c).defers = b.defers := by
    intro c;induction c with
    | nil => intro b; rfl
    | cons i c ih => intro b; show (fillF l.toArray A1 (b.put _ _) c).defers = b.defers; rw [ih, put_defers]
   rw [key, hdefA]
def Fam (w : World) {I : Type} (F : I → World) : Prop := (∀ i u, Below (F i).heap.size (F i) u → ∃ j, u = F j) ∧ ∀ i, Below w.heap.size w (F i)
theorem Fam.bel {w : World} {I : Type} {F : I → World} (hF : Fam w F) (i : I) : Below w.heap.size w (F i) := hF.2 i
theorem Fam.on {w0 w : World} {I : Type} {F : I → World} (hF : Fam w F) (h : Below w0.heap.size w0 w) (i : I) : Below w0.heap.size w0 (F i) := h.trans ((hF.2 i).mono h.size)
theorem Fam.call {w : World} {I : Type} {F : I → World} (hF : Fam w F) {f : FuncId} {args : Array Value} {i : I} {v : Value} (h : Calls P f args (F i) fun e w' => e = .returned v ∧ Below (F i).heap.size (F i) w') :
  Calls P f args (F i) fun e w'' => e = .returned v ∧ ∃ j, w'' = F j := h.mono fun _ w' ⟨he, hb⟩ => ⟨he, hF.1 i w' hb⟩
theorem Fam.same {w : World} {I : Type} {F : I → World} (_hF : Fam w F) {f : FuncId} {args : Array Value} {i : I} {v : Value} (h : Calls P f args (F i) fun e w' => e = .returned v ∧ F i = w') :
  Calls P f args (F i) fun e w'' => e = .returned v ∧ ∃ j, w'' = F j := h.mono fun _ _ ⟨he, hb⟩ => ⟨he, i, hb.symm⟩
theorem Fam.cell {w : World} {I : Type} {F : I → World} (hF : Fam w F) {b o : Nat} {v : Value} (hb : b < w.heap.size) (h : w.cell? ⟨b, o, none⟩ = some v) (i : I) : (F i).cell? ⟨b, o, none⟩ = some v :=
 ((hF.2 i).cell (p := ⟨b, o, none⟩) hb).trans h
theorem region_v0 {id : Nat} {a : Act} {w : World} {l : List Oper} (ntmps : Nat) (fl fx tl : List Nat) (A1 : Act)
  (hm : P.follows .mixedOrders = true) (hB : regB l.toArray ntmps fl fx [] tl none = true) (hnt : ntmps ≤ a.tmps.size)
  (hQ : ∀ c a a' w, Act.defers a = Act.defers a' → Q (.panic c) a w → Q (.panic c) a' w)
  (h1 : ∀ (I : Type) (F : I → World), Nonempty I → Fam w F → wpQuiet P l.toArray (fun u => ∃ i, u = F i) (fun a' => a' = A1) (selN l (fl ++ fx)) a)
  (hend : ∀ u, Below w.heap.size w u → wpList P l.toArray Q (selN l tl) A1 u) : (Code.region id l.toArray true).wp P Q a w :=
 region_reg ntmps fl fx [] tl none A1 (fun _ _ _ => True) (fun _ _ => False) hm hB hnt hQ h1 (fun x hx => by cases hx) (fun x hx => by cases hx) (fun _ _ _ _ h => h.elim) (fun k hk => by cases hk) (fun _ _ u hu _ => hend u hu)
theorem region_v1 {id : Nat} {a : Act} {w : World} {l : List Oper} (ntmps : Nat) (fl fx : List Nat) (k : Nat) (d : Tmp) (tl : List Nat) (A1 : Act) (V : VP)
  (hm : P.follows .mixedOrders = true) (hB : regB l.toArray ntmps fl fx [(k, d)] tl none = true) (hnt : ntmps ≤ a.tmps.size)
  (hQ : ∀ c a a' w, Act.defers a = Act.defers a' → Q (.panic c) a w → Q (.panic c) a' w)
  (h1 : ∀ (I : Type) (F : I → World), Nonempty I → Fam w F → wpQuiet P l.toArray (fun u => ∃ i, u = F i) (fun a' => a' = A1) (selN l (fl ++ fx)) a)
  (hst : ∀ v u u', V v u → Below w.heap.size w u → Below u.heap.size u u' → V v u')
  (hv : ∀ o ∈ selN l [k], ∀ u, Below w.heap.size w u → valsAt P (fun v u' => Below u.heap.size u u' ∧ V v u') (fun _ _ => False) ((execOp A1.eval o).run P u))
  (hend : ∀ v u, Below w.heap.size w u → V v u → wpList P l.toArray Q (selN l tl) (A1.put (some d) v) u) : (Code.region id l.toArray true).wp P Q a w :=
 region_reg ntmps fl fx [(k, d)] tl none A1 (fun _ => V) (fun _ _ => False) hm hB hnt hQ h1 (fun _ _ => hst) (fun x hx => by
  have : x = (k, d) := by simpa using hx
  subst this; exact hv) (fun _ _ _ _ h => h.elim) (fun k hk => by cases hk) (fun _ f u hu hV => hend (f k) u hu (hV (k, d) (by simp)))
theorem region_vh {id : Nat} {a : Act} {w : World} {l : List Oper} (ntmps : Nat) (fl fx : List Nat) (vs : List (Nat × Tmp)) (k : Nat) (d : Tmp) (tl : List Nat) (A1 : Act) (Z : List PanicEntry → World → Prop)
  (hm : P.follows .mixedOrders = true) (hk : (vs.all fun x => x.1 != k) = true) (hB : regB l.toArray ntmps fl fx ((k, d) :: vs) tl (some k) = true) (hnt : ntmps ≤ a.tmps.size)
  (hQ : ∀ c a a' w, Act.defers a = Act.defers a' → Q (.panic c) a w → Q (.panic c) a' w)
  (h1 : ∀ (I : Type) (F : I → World), Nonempty I → Fam w F → wpQuiet P l.toArray (fun u => ∃ i, u = F i) (fun a' => a' = A1) (selN l (fl ++ fx)) a)
  (hv : ∀ o ∈ selN l [k], ∀ u, Below w.heap.size w u → valsAt P (fun _ _ => False) Z ((execOp A1.eval o).run P u))
  (hvs : ∀ x ∈ vs, ∀ o ∈ selN l [x.1], ∀ u, Below w.heap.size w u → valsAt P (fun _ u' => Below u.heap.size u u') Z ((execOp A1.eval o).run P u))
  (hZ : ∀ c (a' : Act) u, a'.defers = a.defers → Z c u → Q (.panic c) a' u) : (Code.region id l.toArray true).wp P Q a w := by
 have hvk : ∀ x ∈ vs, x.1 ≠ k := fun x hx => by simpa using List.all_eq_true.1 hk x hx
 refine region_reg ntmps fl fx ((k, d) :: vs) tl (some k) A1 (fun i _ _ => i ≠ k) Z hm hB hnt hQ h1 (fun _ _ _ _ _ h _ _ => h) (fun x hx o ho u hu => ?_) hZ (fun k' hk' v u h => h (by cases hk'; rfl)) (fun h => by cases h)
 have vmono : ∀ (R R' : VP) (r : Result Next), (∀ v u, R v u → R' v u) → valsAt P R Z r → valsAt P R' Z r := fun R R' r hR h => by
  cases r with
  | ok n w' =>
   cases n <;> simp only [valsAt] at h ⊢
   case value v => exact hR _ _ h
   case enter f args => exact h.mono fun e w'' he => he.imp (fun ⟨u, h1, h2⟩ => ⟨u, h1, hR _ _ h2⟩) (fun h => h)
  | halt x w' => cases x <;> simp only [valsAt] at h ⊢ <;> exact h
 rcases List.mem_cons.1 hx with h | h
 ·subst h;exact vmono _ _ _ (fun _ _ h => h.elim) (hv o ho u hu)
 ·exact vmono _ _ _ (fun _ _ hb => ⟨hb, hvk x h⟩) (hvs x h o ho u hu)
end
end Pl
namespace Lk
open Vw Sk Ch
theorem infoI6 : (Tryz.prog.info? 3).map (fun i => (i.zero, i.size, i.bytes)) = some (some (.int .i64 0), 1, 8) := by kernel_rfl
set_option maxHeartbeats 1000000 in
theorem number_any (a : Option Addr) (len cap : Nat) (bs : List Int) (p size : Nat) (w : World) (hl : len ≤ cap) (hc : cap ≤ maxLen) (hv : VB w a bs) (hbl : bs.length = len) (hs : size = 1 ∨ size = 2 ∨ size = 4) (h : p + size ≤ len) :
  Calls Tryz.prog 135 #[.agg #[.slice a len cap], .int .i64 p, .int .i64 size] w fun e w' => e = .returned (.int .i64 (be bs p size)) ∧ Below w.heap.size w w' := by
 have hb0 := (Below.refl w.heap.size w).alloc (Nat.le_refl _) (.cells #[.slice a len cap] 52);have HB := Bas.hid hb0;have hv1 := hv.below hb0;rcases hs with rfl | rfl | rfl
 ·have U := u8_ok a len cap bs (p : Int) _ hl hc hv1 hbl (by omega) (by omega)
  rw [Int.toNat_natCast] at U;have HU := Bas.hid U;clear hb0 hv1 U hv;go_enter Tryz.func135, Tryz.ntmps135
  go_wp2_with (fail);refine HU.out.mono ?_;rintro e w1 ⟨rfl, hb1⟩;have HB1 := Bas.hid (HB.out.trans (hb1.mono HB.out.size));clear hb1 HU;go_wp2_with (fail);go_ret;exact ⟨rfl, HB1.out⟩
 ·have U := u16_ok a len cap bs (p : Int) _ hl hc hv1 hbl (by omega) (by omega)
  rw [Int.toNat_natCast] at U;have HU := Bas.hid U;clear hb0 hv1 U hv;go_enter Tryz.func135, Tryz.ntmps135
  go_wp2_with (fail);refine HU.out.mono ?_;rintro e w1 ⟨rfl, hb1⟩;have HB1 := Bas.hid (HB.out.trans (hb1.mono HB.out.size));clear hb1 HU;go_wp2_with (fail);go_ret;exact ⟨rfl, HB1.out⟩
 ·have U := u32_ok a len cap bs (p : Int) _ hl hc hv1 hbl (by omega) (by omega)
  rw [Int.toNat_natCast] at U;have HU := Bas.hid U;clear hb0 hv1 U hv;go_enter Tryz.func135, Tryz.ntmps135
  go_wp2_with (fail);refine HU.out.mono ?_;rintro e w1 ⟨rfl, hb1⟩;have HB1 := Bas.hid (HB.out.trans (hb1.mono HB.out.size));clear hb1 HU;go_wp2_with (fail);go_ret;exact ⟨rfl, HB1.out⟩
theorem own_put {w : World} {base g n cp : Nat} {e : TypeId} {xs : List Value} (h : w.ownsRow base e 1 (.slice (some ⟨g, 0, none⟩) n cp) n xs) (i : Nat) (v : Value) : (w.setCell ⟨g, i, none⟩ v).ownsRow base e 1 (.slice (some ⟨g, 0, none⟩) n cp) n (xs.set i v) := by
 obtain ⟨h1, ⟨h2, _⟩ | ⟨g', cap, cur, hv, hb, hh, hc, hx, hs, ht⟩⟩ := h
 ·cases h2
 ·cases hv;have q1 := heap_set (i := i) hh v;refine ⟨by simpa using h1, .inr ⟨g, cp, _, rfl, hb, q1, hc, hx, by simpa using hs, ?_⟩⟩
  rw [← ht];simp [List.take_set]
theorem own_at {w : World} {base g n cp : Nat} {e : TypeId} {xs : List Value} (h : w.ownsRow base e 1 (.slice (some ⟨g, 0, none⟩) n cp) n xs) (i : Nat) (hi : i < n) : base ≤ g ∧ g < w.heap.size ∧ xs.length = n ∧ (∃ v, xs[i]? = some v ∧ w.cell? ⟨g, i, none⟩ = some v) ∧ w.frozen? ⟨g, i, none⟩ = false := by
 have hln : xs.length = n := by simpa using h.1
 rcases Row.owned_parts h with ⟨h0, _⟩ | ⟨g', cp', hv, hb, hl, hc, hm, hcl, hfr⟩
 ·cases h0
 ·cases hv;obtain ⟨v, hv⟩ : ∃ v, xs[i]? = some v := ⟨_, List.getElem?_eq_getElem (by omega)⟩
  obtain ⟨_, ⟨h2, _⟩ | ⟨g', cap, cur, hv2, _, hh, _⟩⟩ := h
  ·cases h2
  ·cases hv2;exact ⟨hb, hl, hln, ⟨v, hv, hcl i v hv⟩, free_of_heap hh⟩
def ListP (w : World) (bs : List Int) (p n size : Nat) (e : Ending) (w' : World) : Prop :=
 Below w.heap.size w w' ∧ match listL bs p n size with
  | none => e = .panicked short
  | some vs => ∃ v, e = .returned v ∧ w'.ownsRow w.heap.size 3 1 v n (vs.map (Value.int .i64))
set_option maxRecDepth 100000 in
set_option maxHeartbeats 4000000 in
theorem list_yes (a : Option Addr) (len cap : Nat) (bs : List Int) (p n size : Nat) (w : World) (hl : len ≤ cap) (hc : cap ≤ maxLen) (hv : VB w a bs) (hbl : bs.length = len) (hs : size = 1 ∨ size = 2 ∨ size = 4) (hn : n ≤ 1000000) (hp : p ≤ 4294967296) (hok : p + size * n ≤ len) :
  Calls Tryz.prog 107 #[.agg #[.slice a len cap], .int .i64 p, .int .i64 n, .int .i64 size] w (ListP w bs p n size) := by
 have BX := (Below.refl w.heap.size w).alloc (Nat.le_refl _) (.cells #[.slice a len cap] 52);have hm4 : size * n ≤ 4 * n := Nat.mul_le_mul_right _ (by omega)
 have hmc : (n : Int) * (size : Int) = ((size * n : Nat) : Int) := by rw [Nat.mul_comm]; simp
 obtain ⟨V, hV⟩ : ∃ V : Nat → Int, ∀ j, be bs (p + size * j) size = V j := ⟨_, fun _ => rfl⟩
 have hLL : listL bs p n size = some ((List.range n).map V) := by
  unfold listL;rw [if_pos (by omega)]
  congr 1
  exact List.map_congr_left fun j _ => hV j
 have hrB : rowsB len p n size := by
  refine ⟨by omega, by omega, .inr ((Int.le_ediv_iff_mul_le (by omega)).2 (by rw [hmc]; omega)), by omega, by rw [hmc]; omega⟩
 have R := fun w' => rows_ok a len cap p n size w' hl hc hrB
 simp only [hmc, Int.toNat_natCast] at R;have HR := Bas.hid R;have hvs := fun w' (hb : Below w.heap.size w w') => (hv.below hb).sub p (size * n) (by omega)
 have HVS := Bas.hid hvs;have hsl : ((bs.drop p).take (size * n)).length = size * n := by rw [List.length_take, List.length_drop]; omega
 have HSL := Bas.hid hsl;have HBX := Bas.hid BX;have HLL := Bas.hid hLL;have hN := fun (i : Nat) (q : Int) (hq : q = ((size * i : Nat) : Int)) (w' : World) (hi : i < n) (hb : Below w.heap.size w w') => (by
  have h1 : size * i + size ≤ size * n := by rw [← Nat.mul_succ]; exact Nat.mul_le_mul_left _ hi
  have h := number_any (sub a p (size * n)) (size * n) (size * n) _ (size * i) size w' (Nat.le_refl _) (by unfold maxLen; omega) (hvs w' hb) hsl hs h1
  rw [be_sub bs p (size * n) (size * i) size h1, hV] at h;rw [hq];exact h : Calls Tryz.prog 135 #[.agg #[.slice (sub a p (size * n)) (size * n) (size * n)], .int .i64 q, .int .i64 size] w' fun e w'' => e = .returned (.int .i64 (V i)) ∧ Below w'.heap.size w' w'')
 have HN := Bas.hid hN;have hs4 : size ≤ 4 := by omega
 clear R hvs hsl BX hLL hN hmc hrB hv hV;generalize sub a p (size * n) = S at *;generalize size * n = m at *;rcases hs with rfl | rfl | rfl
 all_goals
  go_enter Tryz.func107, Tryz.ntmps107
  go_wp2_with (fail);refine (HR.out _).mono ?_;rintro e w1 ⟨rfl, hb1⟩;have HB1 := Bas.hid (HBX.out.trans (hb1.mono HBX.out.size));clear hb1 HBX HR;go_wp2_with (at_make; refine Row.fence ?_);refine Row.unfence ?_;have k1 := Bas.heap_new w1 (.cells #[.slice S m m] 52);have HB2 := Bas.hid (HB1.out.alloc HB1.out.size (.cells #[.slice S m m] 52));generalize w1.alloc (.cells #[.slice S m m] 52) = W2 at *;obtain ⟨T, hT⟩ : ∃ T, w1.heap.size = T := ⟨_, rfl⟩;rw [hT] at k1 ⊢;clear hT HB1;obtain ⟨ii, hi1, hi2, hi3, hi4⟩ := info_parts infoI6;refine wpList_make_full _ rfl _ _ 23 rfl w.heap.size 3 ii (.int .i64 0) 1 Tryz.underlying23 hi1 hi2 hi3 _ _ _ _ n rfl rfl rfl rfl (by rw [hi4]; omega) (by unfold maxLen; omega) HB2.out.size ?_
  intro w3 ho3 hg3;have k3 := (hg3.block _ (heap_lt k1) (by simp)).trans k1
  have HB3 := Bas.hid (HB2.out.grown hg3 HB2.out.size (fun _ h => by cases h))
  have HO3 := Bas.hid ho3;have hw2 : w.heap.size ≤ W2.heap.size := HB2.out.size;generalize W2.heap.size = G at *;clear hi1 hi2 hi3 hi4 ho3 hg3 k1 HB2;go_wp2_with (fail);go_loopw [21] (fun vi wr => ∃ (i : Nat) (xs : List Value), i ≤ n ∧ vi = .int .i64 i ∧ wr.ownsRow w.heap.size 3 1 (.slice (some ⟨G, 0, none⟩) n n) n xs ∧ (∀ j, j < i → xs[j]? = some (.int .i64 (V j))) ∧ wr.heap[T]? = some (.cells #[.slice S m m] 52 (0, 0)) ∧ Below w.heap.size w wr) (fun vi _ => n - (intOf vi).toNat)
  case atStart => exact ⟨0, _, Nat.zero_le _, rfl, HO3.out, fun j hj => by omega, k3, HB3.out⟩
  case round =>
   obtain ⟨i, xs, hi, rfl, ho, hx, k4, hb⟩ := hrel;have HX := Bas.hid hx;have HO := Bas.hid ho;have HB := Bas.hid hb;clear ho hx hb k3 HB3 HO3;by_cases hin : i < n
   ·have e1 : decide ((i : Int) < (n : Int)) = true := by simp; omega
    have e2 : decide (i < n) = true := by simp; omega
    have c4 := cell_of_heap (i := 0) (v := .slice S m m) k4 rfl;go_wp2_with (fail);refine (HN.out i _ (by omega) wr hin HB.out).mono ?_
    rintro e w5 ⟨rfl, hb5⟩;have k5 := (hb5.block _ (heap_lt k4)).trans k4;have HB5 := Bas.hid (HB.out.trans (hb5.mono HB.out.size));have HO5 := Bas.hid (Row.owned_below HO.out hb5);obtain ⟨hg0, hg1, hxl, ⟨v, hv1, hv2⟩, hv3⟩ := own_at HO5.out i hin;have HXL := Bas.hid hxl;have HE := Bas.hid hg0;obtain ⟨x, hxe⟩ : ∃ x, V i = x := ⟨_, rfl⟩;have HXE := Bas.hid hxe;rw [hxe];have hTG : T ≠ G := fun e => own_ty HO5.out k5 (by decide) (by rw [e]; rfl)
    have k6 := (Below.heap_setCell w5 ⟨G, i, none⟩ (.int .i64 x) T (by exact hTG)).trans k5
    have HO6 := Bas.hid (own_put HO5.out i (.int .i64 x));have HB6 := Bas.hid (HB5.out.setCell (p := ⟨G, i, none⟩) hg0 (.int .i64 x));clear hb5 k4 c4 hxe hv1 hxl hg0 hTG;go_wp2_with (fail);generalize w5.setCell ⟨G, i, none⟩ (.int .i64 x) = W6 at *;go_roundw
    case rel => exact ⟨i + 1, xs.set i (.int .i64 x), by omega, by go_num, HO6.out, fun j hj => by
     have hxl := HXL.out;by_cases e : i = j
     ·subst e;rw [List.getElem?_set_self (by omega)]
      rw [HXE.out]
     ·rw [List.getElem?_set_ne e];exact HX.out j (by omega), k6, HB6.out⟩
    case measure => simp [intOf]; omega
   ·have hin2 : i = n := by omega
    have e1 : decide ((i : Int) < (n : Int)) = false := by simp; omega
    have hxs : xs = ((List.range n).map V).map (Value.int .i64) := by
     refine List.ext_getElem? fun j => ?_
     have hxl : xs.length = n := by simpa using HO.out.1
     by_cases hj : j < n
     ·rw [HX.out j (by omega)]
      simp [hj]
     ·rw [List.getElem?_eq_none (by omega), List.getElem?_eq_none (by simp; omega)]
    rw [hxs] at HO;clear hxs hin2;go_wp2_with (fail);go_ret;exact ⟨HB.out, by rw [HLL.out]; exact ⟨_, rfl, HO.out⟩⟩
set_option maxRecDepth 100000 in
set_option maxHeartbeats 4000000 in
theorem list_any (a : Option Addr) (len cap : Nat) (bs : List Int) (p n size : Nat) (w : World) (hl : len ≤ cap) (hc : cap ≤ maxLen) (hv : VB w a bs) (hbl : bs.length = len) (hs : size = 1 ∨ size = 2 ∨ size = 4) (hn : n ≤ 1000000) (hp : p ≤ 4294967296) :
  Calls Tryz.prog 107 #[.agg #[.slice a len cap], .int .i64 p, .int .i64 n, .int .i64 size] w (ListP w bs p n size) := by
 have BX := (Below.refl w.heap.size w).alloc (Nat.le_refl _) (.cells #[.slice a len cap] 52);have hm4 : size * n ≤ 4 * n := Nat.mul_le_mul_right _ (by omega)
 have hmc : (n : Int) * (size : Int) = ((size * n : Nat) : Int) := by rw [Nat.mul_comm]; simp
 by_cases hok : p + size * n ≤ len
 ·exact list_yes a len cap bs p n size w hl hc hv hbl hs hn hp hok
 ·have hLL : listL bs p n size = none := by unfold listL; rw [if_neg (by omega)]
  have hrB : ¬ rowsB len p n size := by
   rintro ⟨_, _, _, _, h5⟩;rw [hmc] at h5;omega
  have HR := Bas.hid (fun w' => rows_no a len cap p n size w' hl hc hrB)
  have HBX := Bas.hid BX;have HLL := Bas.hid hLL;clear BX hLL hrB hmc hv;go_enter Tryz.func107, Tryz.ntmps107
  go_wp2_with (fail);refine (HR.out _).mono ?_;rintro e w1 ⟨rfl, hb1⟩;have HB1 := Bas.hid (HBX.out.trans (hb1.mono HBX.out.size));clear hb1 HBX HR;go_wp2_with (fail);exact ⟨rfl, HB1.out, by rw [HLL.out]⟩
end Lk
namespace Pl
section
variable {P : Program} {Q : Exit → Act → World → Prop}
theorem fam_g (w : World) (r : Option Nat) : ∃ (I : Type) (F : I → World) (i0 : I), w.drew = F i0 ∧ (∀ i w', (F i).grownBy w' r → ∃ j, w' = F j) ∧ (∀ w', w.grownBy w' r → ∃ j, w' = F j) ∧ ∀ i, w.grownBy (F i) r :=
 ⟨{ u : World // w.grownBy u r }, fun i => i.1, ⟨w.drew, Bas.gdrew (Bas.grefl _ _)⟩, rfl, fun i w' h => ⟨⟨w', Bas.gtrans i.2 h⟩, rfl⟩, fun w' h => ⟨⟨w', h⟩, rfl⟩, fun i => i.2⟩
theorem region_plan0 {id : Nat} {a : Act} {w : World} {l : List Oper} {I : Type} {F : I → World} (i0 : I) (plan : List (Bool × Nat)) (late : List Nat) (hm : P.follows .mixedOrders = true)
  (hB : (Region.noSelect l.toArray && decide (plan.length = l.length) && planB .any l.toArray late plan (Array.replicate l.toArray.size false)) = true)
  (hQ : ∀ c a a' w, Act.defers a = Act.defers a' → Q (.panic c) a w → Q (.panic c) a' w) (h0 : w.drew = F i0)
  (h : walkM P l.toArray Q (fun w => ∃ i, w = F i) late plan a (F i0)) : (Code.region id l.toArray true).wp P Q a w := by
 simp only [Bool.and_eq_true, decide_eq_true_eq] at hB;obtain ⟨⟨hs, hl⟩, hB⟩ := hB;refine wp_region_any hm ?_;change wpAny P .any l.toArray Q _ _ a w.drew;rw [h0];have H := wpAnyF_of_plan (md := .any) (late := late) (S := fun w => ∃ i, w = F i) hs (fun c a d v w => hQ c _ _ w (put_defers a d v)) ⟨F i0, i0, rfl⟩ plan (Array.replicate l.toArray.size false) a (F i0)
  ⟨by simp, fun j oj _ hl => (by rw [getD_replicate_false] at hl; cases hl)⟩ hB (fun _ => ⟨i0, rfl⟩) h
 have := wpAny_of_F _ _ _ _ H;rw [hl] at this;simpa using this
variable {ops : Array Oper} {late : List Nat}
theorem walk_quiet0 {I : Type} {F : I → World} (w0 : World) {rest : List (Bool × Nat)} (c : List (Bool × Nat)) (l : List Oper) (a : Act) (hl : fits ops c l) (hv : valuesB c l = true) (ht : (c.all fun x => x.1) = true)
  (h : wpQuiet P ops (fun w => ∃ i, w = F i) (fun a' => walkM P ops Q (fun w => ∃ i, w = F i) late rest a' w0) l a) : walkM P ops Q (fun w => ∃ i, w = F i) late (c ++ rest) a w0 := by
 induction c generalizing l a with
 | nil =>
  cases l with
  | nil => exact h
  | cons o l => exact hl.elim
 | cons x c ih =>
  cases l with
  | nil => exact hl.elim
  | cons o l =>
   obtain ⟨ho, hl⟩ := hl;simp only [valuesB, Bool.and_eq_true, Bool.or_eq_true, Bool.not_eq_true'] at hv;simp only [List.all_cons, Bool.and_eq_true] at ht;obtain ⟨hv0, hv⟩ := hv;have ih := fun a' h' => ih l a' hl hv ht.2 h'
   have hq : qOp P ops (fun w => ∃ i, w = F i) x.2 (wpQuiet P ops (fun w => ∃ i, w = F i) (fun a' => walkM P ops Q (fun w => ∃ i, w = F i) late rest a' w0) l) a := by unfold qOp; simp only [ho]; exact h
   obtain ⟨b, n⟩ := x;have hb : b = true := ht.1;subst hb;obtain ⟨v, hy, hk⟩ := yieldsIn_of_qOp ho hq;refine ⟨o, v, ho, ?_, ih _ hk⟩;rcases hy with ⟨hw, hy⟩ | hy
   ·refine .inl ⟨hw, fun w hS => ?_⟩
    have h1 := hy w hS;have hvo : valueOp o = true := by simpa using hv0
    unfold Oper.quietAt at h1;generalize hr : (execOp a.eval o).run P w = r at h1;cases r with
    | ok n w' =>
     obtain ⟨u, rfl⟩ := value_run hvo hr;obtain ⟨rfl, rfl⟩ := h1;exact ⟨rfl, rfl⟩
    | halt x w' => exact h1.elim
   ·exact .inr hy
theorem head_sel0 {I : Type} {F : I → World} {w0 : World} {l : List Oper} {a : Act} {rest : List (Bool × Nat)} (c : List (Bool × Nat)) (hB : okB l c = true) (ht : (c.all fun x => x.1) = true)
  (h : wpQuiet P l.toArray (fun w => ∃ i, w = F i) (fun a' => walkM P l.toArray Q (fun w => ∃ i, w = F i) late rest a' w0) (sel l c) a) : walkM P l.toArray Q (fun w => ∃ i, w = F i) late (c ++ rest) a w0 :=
 walk_quiet0 w0 c _ a (fits_sel hB).1 (fits_sel hB).2 ht h
end
end Pl
namespace St
open Vw Sk Ch Lk
structure MBuild (w : World) (base G n : Nat) (vt vr ve : Value) (us : List Value) (rows : List (List Int)) (ents : List EntD) : Prop where
 head : w.heap[G]? = some (.cells #[.int .i64 n, vt, vr, ve] 202 (0, 0))
 low : base ≤ G
 ulen : us.length = rows.length
 rown : w.ownsRow base 23 1 vr rows.length us
 vals : ∀ (i : Nat) (r : List Int) (u : Value), rows[i]? = some r → us[i]? = some u → w.ownsRow base 3 1 u r.length (r.map (Value.int .i64))
 eown : w.ownsRow base 162 4 ve ents.length (ents.flatMap enC)
theorem MBuild.keep {w w' : World} {base G n : Nat} {vt vr ve : Value} {us : List Value} {rows : List (List Int)} {ents : List EntD} (h : MBuild w base G n vt vr ve us rows ents) (h1 : w'.heap[G]? = w.heap[G]?) (h2 : ∀ g, vr.ownBlock = some g → w'.heap[g]? = w.heap[g]?)
  (h3 : ∀ g, ve.ownBlock = some g → w'.heap[g]? = w.heap[g]?) (h4 : ∀ (i : Nat) (u : Value) (g : Nat), us[i]? = some u → u.ownBlock = some g → w'.heap[g]? = w.heap[g]?) : MBuild w' base G n vt vr ve us rows ents :=
 ⟨h1.trans h.head, h.low, h.ulen, Row.owned_keep h.rown h2, fun i r u hr hu => Row.owned_keep (h.vals i r u hr hu) (fun g hg => h4 i u g hu hg), Row.owned_keep h.eown h3⟩
theorem MBuild.ublk {w : World} {base G n : Nat} {vt vr ve : Value} {us : List Value} {rows : List (List Int)} {ents : List EntD} (h : MBuild w base G n vt vr ve us rows ents) {i : Nat} {u : Value} {g : Nat} (hu : us[i]? = some u) (hg : u.ownBlock = some g) : g < w.heap.size := by
 obtain ⟨r, hr⟩ : ∃ r, rows[i]? = some r := ⟨_, List.getElem?_eq_getElem (by rw [← h.ulen]; exact (List.getElem?_eq_some_iff.1 hu).1)⟩
 exact (Row.own_block (h.vals i r u hr hu) hg).2
theorem MBuild.below {w w' : World} {base G n : Nat} {vt vr ve : Value} {us : List Value} {rows : List (List Int)} {ents : List EntD} (h : MBuild w base G n vt vr ve us rows ents) (hb : Below w.heap.size w w') : MBuild w' base G n vt vr ve us rows ents :=
 h.keep (hb.block _ (heap_lt h.head)) (fun _g hg => hb.block _ (Row.own_block h.rown hg).2) (fun _g hg => hb.block _ (Row.own_block h.eown hg).2) (fun _ _ _g hu hg => hb.block _ (h.ublk hu hg))
theorem MBuild.set {w : World} {base G n : Nat} {vt vr ve : Value} {us : List Value} {rows : List (List Int)} {ents : List EntD} {g5 : Nat} {cs : Array Value} (h : MBuild w base G n vt vr ve us rows ents) (h5 : w.heap[g5]? = some (.cells cs 3 (0, 0))) (hf : ∀ (i : Nat) (u : Value) (g : Nat), us[i]? = some u → u.ownBlock = some g → g < g5) (i : Nat) (v : Value) : MBuild (w.setCell ⟨g5, i, none⟩ v) base G n vt vr ve us rows ents :=
 h.keep (Below.heap_setCell _ _ _ _ (fun e => by have e2 : G = g5 := e; have := h.head; rw [e2, h5] at this; cases this)) (fun g hg => Below.heap_setCell _ _ _ _ (fun e => own_ty h.rown h5 (by decide) (by rw [hg, e])))
  (fun g hg => Below.heap_setCell _ _ _ _ (fun e => own_ty h.eown h5 (by decide) (by rw [hg, e]))) (fun i u g hu hg => Below.heap_setCell _ _ _ _ (fun e => by have := hf i u g hu hg; have e2 : g = g5 := e; omega))
theorem MBuild.snocR {w w7 : World} {base G n : Nat} {vt vr ve v' u : Value} {us : List Value} {rows : List (List Int)} {ents : List EntD} {r : List Int} (h : MBuild w base G n vt vr ve us rows ents) (hg : w.grownBy w7 vr.ownBlock)
  (ho : w7.ownsRow base 23 1 v' (rows.length + 1) (us ++ [u])) (hu : w.ownsRow base 3 1 u r.length (r.map (Value.int .i64))) : MBuild (w7.setCell ⟨G, 2, none⟩ v') base G n vt v' ve (us ++ [u]) (rows ++ [r]) ents := by
 have hk : ∀ g, g < w.heap.size → vr.ownBlock ≠ some g → w7.heap[g]? = w.heap[g]? := fun g h1 h2 => hg.block g h1 (fun e => h2 e.symm)
 have hG : vr.ownBlock ≠ some G := own_ty h.rown h.head (by decide)
 have h7 := (hk G (heap_lt h.head) hG).trans h.head;have hs : ∀ g, g ≠ G → (w7.setCell ⟨G, 2, none⟩ v').heap[g]? = w7.heap[g]? := fun g hg => Below.heap_setCell _ _ _ _ hg
 have hkeep : ∀ (e : TypeId) (size m : Nat) (x : Value) (xs : List Value), e ≠ 23 → e ≠ 202 → w.ownsRow base e size x m xs → (w7.setCell ⟨G, 2, none⟩ v').ownsRow base e size x m xs := by
  intro e size m x xs h1 h2 hx;have hx7 : w7.ownsRow base e size x m xs := Row.owned_keep hx fun g hg' => hk g (Row.own_block hx hg').2 (fun e' => own_rows_ne h.rown hx (fun h => h1 h.symm) e' hg')
  exact Row.owned_keep hx7 fun g hg' => hs g (fun e' => own_ty hx h.head h2 (by rw [hg', e']))
 have k8 := heap_set (i := 2) h7 v';refine ⟨k8, h.low, by simp [h.ulen], ?_, ?_, hkeep _ _ _ _ _ (by decide) (by decide) h.eown⟩
 ·rw [List.length_append];exact Row.owned_keep ho fun g hg' => hs g (fun e' => own_ty ho h7 (by decide) (by rw [hg', e']))
 ·intro i r' u' hr hu';by_cases hi : i < rows.length
  ·rw [List.getElem?_append_left hi] at hr;rw [List.getElem?_append_left (by rw [h.ulen]; exact hi)] at hu'
   exact hkeep _ _ _ _ _ (by decide) (by decide) (h.vals i r' u' hr hu')
  ·rw [List.getElem?_append_right (by omega)] at hr
   rw [List.getElem?_append_right (by rw [h.ulen]; omega), h.ulen] at hu'
   obtain ⟨j, hj⟩ : ∃ j, i - rows.length = j := ⟨_, rfl⟩;rw [hj] at hr hu';cases j with
   | zero => cases hr; cases hu'; exact hkeep _ _ _ _ _ (by decide) (by decide) hu
   | succ j => cases hr
theorem MBuild.snocE {w w7 : World} {base G n : Nat} {vt vr ve v' : Value} {us : List Value} {rows : List (List Int)} {ents : List EntD} {en : EntD} (h : MBuild w base G n vt vr ve us rows ents) (hg : w.grownBy w7 ve.ownBlock)
  (ho : w7.ownsRow base 162 4 v' (ents.length + 1) (ents.flatMap enC ++ enC en)) : MBuild (w7.setCell ⟨G, 3, none⟩ v') base G n vt vr v' us rows (ents ++ [en]) := by
 have hk : ∀ g, g < w.heap.size → ve.ownBlock ≠ some g → w7.heap[g]? = w.heap[g]? := fun g h1 h2 => hg.block g h1 (fun e => h2 e.symm)
 have hG : ve.ownBlock ≠ some G := own_ty h.eown h.head (by decide)
 have h7 := (hk G (heap_lt h.head) hG).trans h.head;have hs : ∀ g, g ≠ G → (w7.setCell ⟨G, 3, none⟩ v').heap[g]? = w7.heap[g]? := fun g hg => Below.heap_setCell _ _ _ _ hg
 have hkeep : ∀ (e : TypeId) (size m : Nat) (x : Value) (xs : List Value), e ≠ 162 → e ≠ 202 → w.ownsRow base e size x m xs → (w7.setCell ⟨G, 3, none⟩ v').ownsRow base e size x m xs := by
  intro e size m x xs h1 h2 hx;have hx7 : w7.ownsRow base e size x m xs := Row.owned_keep hx fun g hg' => hk g (Row.own_block hx hg').2 (fun e' => own_rows_ne h.eown hx (fun h => h1 h.symm) e' hg')
  exact Row.owned_keep hx7 fun g hg' => hs g (fun e' => own_ty hx h.head h2 (by rw [hg', e']))
 have k8 := heap_set (i := 3) h7 v';refine ⟨k8, h.low, h.ulen, hkeep _ _ _ _ _ (by decide) (by decide) h.rown, fun i r u hr hu => hkeep _ _ _ _ _ (by decide) (by decide) (h.vals i r u hr hu), ?_⟩
 rw [List.length_append, List.flatMap_append];exact Row.owned_keep (by simpa using ho) fun g hg' => hs g (fun e' => own_ty ho h7 (by decide) (by rw [hg', e']))
theorem infoS6 : (Tryz.prog.info? 23).map (fun i => (i.zero, i.size, i.bytes)) = some (some (.slice none 0 0), 1, 24) := by kernel_rfl
theorem mostOf_succ (V : Nat → Int) (i : Nat) : mostOf ((List.range (i + 1)).map V) = max (mostOf ((List.range i).map V)) (V i + 1).toNat := by
 unfold mostOf; rw [List.range_succ, List.map_append, List.foldl_append]; rfl
def rowAt (rb : List Int) (n k : Nat) : List Int := (List.range n).map fun i => be rb (2 * n * k + 2 * i) 2
def RowP (w : World) (base G n : Nat) (vt vr ve : Value) (us : List Value) (rows : List (List Int)) (ents : List EntD) (rb : List Int) (e : Ending) (w' : World) : Prop :=
 Below base w w' ∧ (∀ g, g < w.heap.size → g ≠ G → vr.ownBlock ≠ some g → w'.heap[g]? = w.heap[g]?) ∧ if 2 * n * (rows.length + 1) ≤ rb.length then ∃ vr' u, e = .returned (.int .i64 (mostOf (rowAt rb n rows.length))) ∧ MBuild w' base G n vt vr' ve (us ++ [u]) (rows ++ [rowAt rb n rows.length]) ents else e = .panicked short
set_option maxRecDepth 100000 in
set_option maxHeartbeats 8000000 in
theorem row_any (base G n : Nat) (vt vr ve : Value) (us : List Value) (rows : List (List Int)) (ents : List EntD) (ra : Option Addr) (rl : Nat) (rb : List Int) (ea : Option Addr) (el : Nat) (words : Int) (w : World)
  (hM : MBuild w base G n vt vr ve us rows ents) (hv : ∀ w', Below base w w' → VB w' ra rb) (hrl : rb.length = rl) (hrm : rl ≤ maxLen) (hn4 : 4 ≤ n) (hn : n ≤ 65535) (hk : rows.length ≤ 65536) (hbase : base ≤ w.heap.size) :
  Calls Tryz.prog 101 #[.agg #[.pointer (some ⟨G, 0, none⟩), .slice ra rl rl, .slice ea el el, .int .i64 words]] w (RowP w base G n vt vr ve us rows ents rb) := by
 have k1 := Bas.heap_new w (.cells #[.pointer (some ⟨G, 0, none⟩), .slice ra rl rl, .slice ea el el, .int .i64 words] 204);have BX := (Below.refl w.heap.size w).alloc (Nat.le_refl _) (.cells #[.pointer (some ⟨G, 0, none⟩), .slice ra rl rl, .slice ea el el, .int .i64 words] 204);have HB1 := Bas.hid BX;have HM1 := Bas.hid (hM.below BX);have HV := Bas.hid (fun w' (h : Below w.heap.size w w') => hv w' (h.mono hbase))
 obtain ⟨av, cv, rfl⟩ := own_slice hM.rown;obtain ⟨k, hkk⟩ : ∃ k, rows.length = k := ⟨_, rfl⟩;have HKK := Bas.hid hkk;have hhead := hM.head;rw [hkk] at hk hhead;have m0 := cell_of_heap (i := 0) hhead rfl;have lG := heap_lt hhead;have kG := ((BX.block _ lG).trans hhead);obtain ⟨q, hq⟩ : ∃ q : Nat, q = 2 * n * k := ⟨_, rfl⟩;have hqb : q ≤ 8589803520 := by
  rw [hq];exact Nat.le_trans (Nat.mul_le_mul (Nat.mul_le_mul_left 2 hn) hk) (by omega)
 have hq2 : 2 * (n : Int) * (k : Int) = (q : Int) := by rw [hq]; simp
 have hqs : 2 * n * (k + 1) = q + 2 * n := by rw [hq, Nat.mul_succ]
 have hw : wrap64 (2 * (n : Int) * (k : Int)) = (q : Int) := by rw [hq2]; exact IntWalk.wrap64_in _ ⟨by omega, by omega⟩
 have HQ2 := Bas.hid hq2;have HRA : Hid (rowAt rb n k = (List.range n).map fun i => be rb (q + 2 * i) 2) := by unfold Hid rowAt; rw [hq]
 have HQS := Bas.hid hqs;have hmul : (n : Int) * 2 = ((2 * n : Nat) : Int) := by omega
 have hnm : 2 * n ≤ 131070 := by omega
 clear hM hv BX hhead hkk hq hqs hq2;go_enter Tryz.func101, Tryz.ntmps101
 go_wp2_with (fail);clear m0;generalize w.alloc (.cells #[.pointer (some ⟨G, 0, none⟩), .slice ra rl rl, .slice ea el el, .int .i64 words] 204) = W1 at *;have lB := heap_lt k1;have lG1 := heap_lt kG;have x0 := cell_of_heap (i := 0) k1 rfl;have x1 := cell_of_heap (i := 1) k1 rfl;have y2 := cell_of_heap (i := 2) kG rfl;by_cases hok : q + 2 * n ≤ rl
 ·have hrB : rowsB rl q n 2 := ⟨by omega, by omega, .inr (by omega), by omega, by omega⟩
  have R := fun w' => rows_ok ra rl rl q n 2 w' (Nat.le_refl _) hrm hrB
  simp only [hmul, Int.toNat_natCast] at R;have HR := Bas.hid R;have hvs := fun w' (hb : Below w.heap.size w w') => (HV.out w' hb).sub q (2 * n) (by omega)
  have HVS := Bas.hid hvs;have hsl : ((rb.drop q).take (2 * n)).length = 2 * n := by rw [List.length_take, List.length_drop]; omega
  have HSL := Bas.hid hsl;obtain ⟨V, hV⟩ : ∃ V : Nat → Int, ∀ j, be rb (q + 2 * j) 2 = V j := ⟨_, fun _ => rfl⟩
  have hVb : ∀ j, 0 ≤ V j ∧ V j ≤ 65535 := fun j => by rw [← hV]; exact be_rng2 (HV.out w (Below.refl _ _)).byte _
  have HVB := Bas.hid hVb;have HRV : Hid (rowAt rb n k = (List.range n).map V) := by
   unfold Hid;rw [HRA.out];exact List.map_congr_left fun j _ => hV j
  have HU := Bas.hid (fun (i : Nat) (w' : World) (hi : i < n) (hb : Below w.heap.size w w') => (by
   have h := u16_ok (sub ra q (2 * n)) (2 * n) (2 * n) _ (2 * (i : Int)) w' (Nat.le_refl _) (by unfold maxLen; omega) (hvs w' hb) hsl (by omega) (by omega)
   rw [show (2 * (i : Int)).toNat = 2 * i by omega, be_sub rb q (2 * n) (2 * i) 2 (by omega), hV] at h
   exact h : Calls Tryz.prog 49 #[.agg #[.slice (sub ra q (2 * n)) (2 * n) (2 * n)], .int .i64 (2 * (i : Int))] w' fun e w'' => e = .returned (.int .i64 (V i)) ∧ Below w'.heap.size w' w''))
  generalize sub ra q (2 * n) = S at *;generalize hm2 : 2 * n = m2 at *;have HMN := Bas.hid hm2;clear hm2;clear R hvs hsl hV hVb hrB hmul;refine' Pl.region_v1 61 [] [0, 1, 2, 3, 4, 5, 6, 7, 8, 9, 10, 11, 12] 13 4 [14] _ (fun v u => ∃ g, v = .pointer (some ⟨g, 0, none⟩) ∧ W1.heap.size ≤ g ∧ u.heap[g]? = some (.cells #[.slice none 0 0] 52 (0, 0))) (by kernel_rfl) (by kernel_rfl) (by simp) (fun _ _ _ _ e h => ⟨e ▸ h.1, h.2⟩) ?_ ?_ ?_ ?_
  rotate_left
  ·intro I F hI hF;simp only [Pl.selN, List.nil_append, List.drop_succ_cons, List.drop_zero];have z0 := fun i => hF.cell lB x0 i
   have z1 := fun i => hF.cell lB x1 i
   have z2 := fun i => hF.cell lG1 y2 i
   repeat (go_big_quiet_step ((go_at_call 74; with_reducible exact hF.call (HR.out _))))
   refine wpQuiet_nil ?_;rfl
  ·rintro v u u' ⟨g, h1, h2, h3⟩ hu hu';exact ⟨g, h1, h2, (hu'.block g (heap_lt h3)).trans h3⟩
  ·simp only [Pl.selN, List.drop_succ_cons, List.drop_zero, List.mem_singleton, forall_eq];intro u hu
   go_simp
   simp only [Pl.valsAt];exact ⟨(Below.refl _ _).alloc (Nat.le_refl _) _, _, rfl, hu.size, Bas.heap_new _ _⟩
  ·intro v u hu hv;obtain ⟨T, rfl, hT, kT⟩ := hv;simp only [Pl.selN, List.drop_succ_cons, List.drop_zero, Act.put, List.setIfInBounds_toArray, List.set_cons_zero, List.set_cons_succ];have HB2 := Bas.hid (HB1.out.trans (hu.mono HB1.out.size));have HM2 := Bas.hid (HM1.out.below hu);have k2 := (hu.block _ lB).trans k1;have c0 := cell_of_heap (i := 0) kT rfl;have f0 := free_of_heap (i := 0) kT;have hbT : w.heap.size ≤ T := by have := HB1.out.size; omega
   have hwT : w.heap.size ≠ T := by have := heap_lt k1; omega
   have hGT : G ≠ T := by omega
   clear k1 kG lB lG1 x0 x1 y2 HR HM1 HB1;go_wp2_with (at_make; refine Row.fence ?_);refine Row.unfence ?_;have q3 := heap_set (i := 0) kT (.slice S m2 m2);have hkk : ∀ g, g ≠ T → (u.setCell ⟨T, 0, none⟩ (.slice S m2 m2)).heap[g]? = u.heap[g]? := fun g hg => Below.heap_setCell _ _ _ _ hg
   have HB3 := Bas.hid (HB2.out.setCell (p := ⟨T, 0, none⟩) hbT (.slice S m2 m2));have HM3 := Bas.hid (HM2.out.keep (w' := u.setCell ⟨T, 0, none⟩ (.slice S m2 m2)) (hkk _ hGT) (fun g hg => hkk g (fun e => own_ty HM2.out.rown kT (by decide) (by rw [hg, e]))) (fun g hg => hkk g (fun e => own_ty HM2.out.eown kT (by decide) (by rw [hg, e]))) (fun i x g hx hg => hkk g (fun e => by
    obtain ⟨r, hr⟩ : ∃ r, rows[i]? = some r := ⟨_, List.getElem?_eq_getElem (by rw [← HM2.out.ulen]; exact (List.getElem?_eq_some_iff.1 hx).1)⟩
    exact own_ty (HM2.out.vals i r x hr hx) kT (by decide) (by rw [hg, e]))))
   have k3 := (hkk _ hwT).trans k2;generalize u.setCell ⟨T, 0, none⟩ (.slice S m2 m2) = W3 at *;have kT3 : W3.heap[T]? = some (.cells #[.slice S m2 m2] 52 (0, 0)) := q3;clear q3 hkk kT c0 f0 hu k2 HB2 HM2;obtain ⟨ii, hi1, hi2, hi3, hi4⟩ := info_parts infoI6;have hw3 : base ≤ W3.heap.size := by have := HB3.out.size; omega
   refine wpList_make_full _ rfl _ _ 23 rfl base 3 ii (.int .i64 0) 1 Tryz.underlying23 hi1 hi2 hi3 _ _ _ _ n rfl rfl rfl rfl (by rw [hi4]; omega) (by unfold maxLen; omega) hw3 ?_
   intro w4 ho4 hg4;have hb4 : Below W3.heap.size W3 w4 := (Below.refl _ _).grown hg4 (Nat.le_refl _) (fun _ h => by cases h)
   have HM4 := Bas.hid (HM3.out.below hb4);have HB4 := Bas.hid (HB3.out.trans (hb4.mono HB3.out.size));have hwG5 : w.heap.size ≤ W3.heap.size := HB3.out.size;have kT4 := (hb4.block _ (heap_lt kT3)).trans kT3;have k4 := (hb4.block _ (heap_lt k3)).trans k3;have HF5 : Hid (∀ (i : Nat) (u : Value) (g : Nat), us[i]? = some u → u.ownBlock = some g → g < W3.heap.size) := fun i u g hu hg => HM3.out.ublk hu hg
   have HO4 := Bas.hid ho4;generalize W3.heap.size = G5 at *;clear hi1 hi2 hi3 hi4 ho4 hg4 hb4 HM3 HB3 k3 kT3;go_wp2_with (fail);go_loopw [6, 30] (fun v6 vi wr => ∃ (i : Nat) (xs : List Value), i ≤ n ∧ vi = .int .i64 i ∧ v6 = .int .i64 (mostOf ((List.range i).map V)) ∧ wr.ownsRow base 3 1 (.slice (some ⟨G5, 0, none⟩) n n) n xs ∧ (∀ j, j < i → xs[j]? = some (.int .i64 (V j))) ∧
    wr.heap[T]? = some (.cells #[.slice S m2 m2] 52 (0, 0)) ∧ wr.heap[w.heap.size]? = some (.cells #[.pointer (some ⟨G, 0, none⟩), .slice ra rl rl, .slice ea el el, .int .i64 words] 204 (0, 0)) ∧ MBuild wr base G n vt (.slice av rows.length cv) ve us rows ents ∧ Below w.heap.size w wr) (fun _ vi _ => n - (intOf vi).toNat)
   case atStart => exact ⟨0, _, Nat.zero_le _, rfl, rfl, HO4.out, fun j hj => by omega, kT4, k4, HM4.out, HB4.out⟩
   case round =>
    obtain ⟨i, xs, hi, rfl, rfl, ho, hx, kT5, k5, hm5, hb5⟩ := hrel;have HX := Bas.hid hx;have HO := Bas.hid ho;have HB := Bas.hid hb5;have HM5 := Bas.hid hm5;have HXX := Bas.hid hi;have hms : mostOf ((List.range i).map V) ≤ 65536 := by
     refine foldl_max_bd (fun x : Int => (x + 1).toNat) 65536 _ 0 (by omega) fun x hx => ?_
     obtain ⟨j, _, rfl⟩ := List.mem_map.1 hx;have := (HVB.out j).2;omega
    have HMS := Bas.hid (mostOf_succ V i);obtain ⟨ms, hmse⟩ : ∃ ms, mostOf ((List.range i).map V) = ms := ⟨_, rfl⟩;rw [hmse] at hms HMS ⊢;have HMSE := Bas.hid hmse;clear ho hx hm5 hb5 kT4 k4 HM4 HB4 HO4 hmse;by_cases hin : i < n
    ·have e1 : decide ((i : Int) < (n : Int)) = true := by simp; omega
     have e2 : decide (i < n) = true := by simp; omega
     have hbw5 : base ≤ wr.heap.size := by have := HB.out.size; omega
     have c4 := cell_of_heap (i := 0) (v := .slice S m2 m2) kT5 rfl;go_wp2_with (fail);refine (HU.out i wr hin HB.out).mono ?_;rintro e w6 ⟨rfl, hb6⟩;have kT6 := (hb6.block _ (heap_lt kT5)).trans kT5;have k6 := (hb6.block _ (heap_lt k5)).trans k5;have HB6 := Bas.hid (HB.out.trans (hb6.mono HB.out.size));have HM6 := Bas.hid (HM5.out.below hb6);have HO6 := Bas.hid (Row.owned_below HO.out hb6);obtain ⟨hg0, hg1, hxl, ⟨v, hv1, hv2⟩, hv3⟩ := own_at HO6.out i hin;have HXL := Bas.hid hxl;obtain ⟨x, hxe⟩ := Int.eq_ofNat_of_zero_le (HVB.out i).1;have hx65 : x ≤ 65535 := by have := (HVB.out i).2; omega
     have HXE := Bas.hid hxe;rw [hxe] at HMS ⊢;have hTG : T ≠ G5 := fun e => own_ty HO6.out kT6 (by decide) (by rw [e]; rfl)
     have hBG : w.heap.size ≠ G5 := fun e => own_ty HO6.out k6 (by decide) (by rw [e]; rfl)
     obtain ⟨cs5, hc5⟩ : ∃ cs, w6.heap[G5]? = some (.cells cs 3 (0, 0)) := by
      obtain ⟨_, ⟨h2, _⟩ | ⟨g', cap, cur, hv, hb, hh, _⟩⟩ := HO6.out
      ·cases h2
      ·cases hv; exact ⟨_, hh⟩
     have kT7 := (Below.heap_setCell w6 ⟨G5, i, none⟩ (.int .i64 x) T (by exact hTG)).trans kT6
     have k7 := (Below.heap_setCell w6 ⟨G5, i, none⟩ (.int .i64 x) w.heap.size (by exact hBG)).trans k6
     have HM7 := Bas.hid (HM6.out.set hc5 HF5.out i (.int .i64 x));have HO7 := Bas.hid (own_put HO6.out i (.int .i64 x));have HB7 := Bas.hid (HB6.out.setCell (p := ⟨G5, i, none⟩) hwG5 (.int .i64 x));have HXS : Hid (∀ j, j < i + 1 → (xs.set i (.int .i64 x))[j]? = some (.int .i64 (V j))) := fun j hj => by
      have hxl := HXL.out;by_cases e : i = j
      ·subst e;rw [List.getElem?_set_self (by omega), HXE.out]
      ·rw [List.getElem?_set_ne e];exact HX.out j (by omega)
     clear hb6 kT5 k5 c4 hxe hv1 hxl hTG hBG hc5 kT6 k6;by_cases hmx : ms < x + 1
     ·have e3 : decide ((ms : Int) < (x : Int) + 1) = true := by simp; omega
      have e4 : (ms : Int) < (x : Int) + 1 := by omega
      have HNX : Hid (mostOf ((List.range (i + 1)).map V) = x + 1) := by unfold Hid; rw [HMS.out]; omega
      clear hmx;go_wp2_with (fail);generalize w6.setCell ⟨G5, i, none⟩ (.int .i64 x) = W7 at *;go_roundw
      case rel => exact ⟨i + 1, _, by omega, by go_num, by rw [HNX.out]; go_num, HO7.out, HXS.out, kT7, k7, HM7.out, HB7.out⟩
      case measure => simp [intOf]; omega
     ·have e3 : decide ((ms : Int) < (x : Int) + 1) = false := by simp; omega
      have e4 : ¬ (ms : Int) < (x : Int) + 1 := by omega
      have HNX : Hid (mostOf ((List.range (i + 1)).map V) = ms) := by unfold Hid; rw [HMS.out]; omega
      clear hmx;go_wp2_with (fail);generalize w6.setCell ⟨G5, i, none⟩ (.int .i64 x) = W7 at *;go_roundw
      case rel => exact ⟨i + 1, _, by omega, by go_num, by rw [HNX.out], HO7.out, HXS.out, kT7, k7, HM7.out, HB7.out⟩
      case measure => simp [intOf]; omega
    ·have hin2 : i = n := by omega
     have e1 : decide ((i : Int) < (n : Int)) = false := by simp; omega
     have e2 : decide (i < n) = false := by simp; omega
     have hxs : xs = ((List.range n).map V).map (Value.int .i64) := by
      refine List.ext_getElem? fun j => ?_
      have hxl : xs.length = n := by simpa using HO.out.1
      by_cases hj : j < n
      ·rw [HX.out j (by omega)]
       simp [hj]
      ·rw [List.getElem?_eq_none (by omega), List.getElem?_eq_none (by simp; omega)]
     rw [hxs] at HO;have HME : Hid (mostOf (rowAt rb n k) = ms) := by unfold Hid; rw [HRV.out, ← hin2]; exact HMSE.out
     clear hxs hin2;go_wp2_with (fail);have kG5 := HM5.out.head;have hbw5 : base ≤ wr.heap.size := HB.out.size |> Nat.le_trans hbase;have neB : (Value.slice av rows.length cv).ownBlock ≠ some w.heap.size := own_ty HM5.out.rown k5 (by decide)
     have neG : (Value.slice av rows.length cv).ownBlock ≠ some G := own_ty HM5.out.rown kG5 (by decide)
     have RD := Bas.hid (Row.owned_keep HM5.out.rown (w' := wr.drew) (fun _ _ => rfl))
     obtain ⟨RI, RF, Ri, RF0, RFg, RFw, RFb⟩ := Pl.fam_g wr (Value.slice av rows.length cv).ownBlock;have Rc0 := fun i => (Bas.gcell (RFb i) (b := w.heap.size) (o := 0) (heap_lt k5) neB).trans (cell_of_heap (i := 0) (v := .pointer (some ⟨G, 0, none⟩)) k5 rfl)
     have Rc1 := fun i => (Bas.gcell (RFb i) (b := G) (o := 2) (heap_lt kG5) neG).trans (cell_of_heap (i := 2) (v := .slice av rows.length cv) kG5 rfl)
     have RFH := Bas.hid RF0;have RhI : Nonempty RI := ⟨Ri⟩;have RFW := Bas.hid RFw;have NEB := Bas.hid neB;have NEG := Bas.hid neG;have KG := Bas.hid kG5;have K5 := Bas.hid k5;clear RF0 RFw RFg RFb neB neG kG5 k5 kT5;refine Pl.region_plan0 Ri [(true, 0), (true, 1), (true, 2), (true, 3), (true, 4), (true, 5), (true, 6), (true, 7), (false, 8), (false, 9), (false, 10), (false, 11), (false, 12)] [10, 11, 12] (by kernel_rfl) (by kernel_rfl) (fun _ _ _ _ e h => ⟨e ▸ h.1, h.2⟩) RFH.out ?_
     refine Pl.head_sel0 [(true, 0), (true, 1), (true, 2), (true, 3), (true, 4), (true, 5), (true, 6), (true, 7)] (by kernel_rfl) (by kernel_rfl) ?_
     simp only [Pl.sel, List.drop_succ_cons, List.drop_zero];repeat (go_big_quiet_step (fail))
     refine wpQuiet_nil ?_;rw [← RFH.out];clear Rc0 Rc1 RFH;refine Pl.one_sel (by kernel_rfl) ?_
     intro Q' hQ' hP';simp only [Pl.sel, List.drop_succ_cons, List.drop_zero];go_wp2_with (fail);have q2 := Bas.heap_new wr (.cells #[.slice (some ⟨G5, 0, none⟩) n n] 23);have hb2 := ((Below.refl wr.heap.size wr).alloc (Nat.le_refl _) (.cells #[.slice (some ⟨G5, 0, none⟩) n n] 23)).drew;have gg2 := Bas.gdrew (Bas.galloc (Bas.grefl wr (Value.slice av rows.length cv).ownBlock) (.cells #[.slice (some ⟨G5, 0, none⟩) n n] 23));refine hQ' _ _ (fun _ _ => RFW.out _ (by rw [HKK.out]; rw [HKK.out] at gg2; exact gg2)) ?_
     clear hQ' hP' Q';have GG2 := Bas.hid gg2;clear gg2;have HM2 := Bas.hid (HM5.out.below hb2);have HB2' := Bas.hid (HB.out.trans (hb2.mono HB.out.size));have HO2 := Bas.hid (Row.owned_below HO.out hb2);have q2 : (wr.alloc (.cells #[.slice (some ⟨G5, 0, none⟩) n n] 23)).drew.heap[wr.heap.size]? = some (.cells #[.slice (some ⟨G5, 0, none⟩) n n] 23 (0, 0)) := q2;have hw2 := hb2.size;clear hb2;generalize (wr.alloc (.cells #[.slice (some ⟨G5, 0, none⟩) n n] 23)).drew = W2 at *;refine Pl.one_sel (by kernel_rfl) ?_
     intro Q' hQ' hP';simp only [Pl.sel, List.drop_succ_cons, List.drop_zero];refine Row.append_any rfl _ _ 200 23 rfl (.slice none 0 0) 1 24 Tryz.underlying200 infoS6 rfl (by decide) base (.slice av rows.length cv) rows.length us (by rw [HKK.out]; rfl) HM2.out.rown (.slice (some ⟨wr.heap.size, 0, none⟩) 1 1) 1 [.slice (some ⟨G5, 0, none⟩) n n] rfl (leads_heap q2) rfl (by simp; exact rfl) (by rw [HKK.out]; unfold maxLen; omega) (by rw [HKK.out]; omega) (by omega) ?_
     intro v7 w7 ho7 hg7 _;obtain ⟨a7, c7, rfl⟩ := own_slice ho7;have HM8 := Bas.hid (HM2.out.snocR (r := rowAt rb n k) hg7 ho7 (by rw [HRV.out]; simpa using HO2.out))
     have k7 := (hg7.block G (heap_lt HM2.out.head) (fun e => own_ty HM2.out.rown HM2.out.head (by decide) e.symm)).trans HM2.out.head
     have c2 := cell_of_heap (i := 2) k7 rfl;have f2 := free_of_heap (i := 2) k7;have HFR := Bas.hid (fun (g : Nat) (h1 : g < w.heap.size) (h2 : (Value.slice av rows.length cv).ownBlock ≠ some g) => (hg7.block g (Nat.lt_of_lt_of_le h1 HB2'.out.size) (fun e => h2 e.symm)).trans (HB2'.out.block g h1))
     have HB7 := Bas.hid (((HB2'.out.mono hbase).grown hg7 (Nat.le_trans hbase HB2'.out.size) (fun g' hg' => (Row.own_block HM2.out.rown hg').1)))
     have G7 := Bas.hid (Bas.gtrans GG2.out hg7);clear hg7 ho7;go_wp2_with (fail);refine hQ' _ _ (fun _ _ => RFW.out _ G7.out) ?_
     clear hQ' hP' Q' RFW G7 GG2;refine Pl.tail_sel [(false, 10), (false, 11), (false, 12)] (by kernel_rfl) (by kernel_rfl) ?_
     simp only [Pl.sel, List.drop_succ_cons, List.drop_zero];have HKL : Hid (k + 1 = rows.length + 1) := by unfold Hid; rw [HKK.out]
     go_wp2_with (fail);have HB8 := Bas.hid (HB7.out.setCell (p := ⟨G, 2, none⟩) HM2.out.low (.slice a7 (rows.length + 1) c7));go_ret;refine ⟨HB8.out, fun g h1 h2 h3 => (Below.heap_setCell w7 ⟨G, 2, none⟩ (.slice a7 (rows.length + 1) c7) g (by exact h2)).trans (HFR.out g h1 (by first | exact h3 | (rw [HKK.out]; exact h3))), ?_⟩
     rw [HKK.out, HMN.out, HQS.out, hrl, if_pos hok];have hz := HM8.out;rw [HKK.out] at hz;exact ⟨_, _, by rw [HME.out]; rfl, hz⟩
 ·have hrB : ¬ rowsB rl q n 2 := by
   rintro ⟨h1, h2, h3, h4, h5⟩;omega
  have HR := Bas.hid (fun w' => rows_no ra rl rl q n 2 w' (Nat.le_refl _) hrm hrB)
  refine' Pl.region_vh 61 [] [0, 1, 2, 3, 4, 5, 6, 7, 8, 9, 10, 11] [(13, 4)] 12 25 [14] _ (fun ch w' => ch = short ∧ Below w.heap.size w w') (by kernel_rfl) (by kernel_rfl) (by kernel_rfl) (by simp) (fun _ _ _ _ e h => ⟨e ▸ h.1, h.2⟩) ?_ ?_ ?_ ?_
  rotate_left
  ·intro I F hI hF;simp only [Pl.selN, List.nil_append, List.drop_succ_cons, List.drop_zero];have z0 := fun i => hF.cell lB x0 i
   have z1 := fun i => hF.cell lB x1 i
   have z2 := fun i => hF.cell lG1 y2 i
   repeat (go_big_quiet_step (fail))
   refine wpQuiet_nil ?_;rfl
  ·simp only [Pl.selN, List.drop_succ_cons, List.drop_zero, List.mem_singleton, forall_eq];intro u hu
   go_simp
   simp only [Pl.valsAt];have hW1 : w.heap.size ≤ W1.heap.size := HB1.out.size;have hbu := HB1.out.trans (hu.mono hW1);refine (HR.out u).mono ?_;rintro e w'' ⟨he, hb⟩;exact .inr ⟨short, he, rfl, hbu.trans (hb.mono (Nat.le_trans hW1 hu.size))⟩
  ·intro z hz;simp only [List.mem_singleton] at hz;subst hz;simp only [Pl.selN, List.drop_succ_cons, List.drop_zero, List.mem_singleton, forall_eq];intro u hu
   go_simp
   simp only [Pl.valsAt];exact (Below.refl _ _).alloc (Nat.le_refl _) _
  ·rintro c' a' u hd ⟨rfl, hb⟩;exact ⟨hd, hb.mono hbase, fun g hg _ _ => hb.block g hg, by rw [HKK.out, HQS.out, hrl, if_neg hok]⟩
theorem MBuild.setT {w : World} {base G n : Nat} {vt vr ve : Value} {us : List Value} {rows : List (List Int)} {ents : List EntD} {g5 : Nat} {cs : Array Value} {t : TypeId} (h : MBuild w base G n vt vr ve us rows ents) (h5 : w.heap[g5]? = some (.cells cs t (0, 0)))
  (h1 : 23 ≠ t) (h2 : 3 ≠ t) (h3 : G ≠ g5) (h4 : ve.ownBlock ≠ some g5) (i : Nat) (v : Value) : MBuild (w.setCell ⟨g5, i, none⟩ v) base G n vt vr ve us rows ents :=
 h.keep (Below.heap_setCell _ _ _ _ h3) (fun g hg => Below.heap_setCell _ _ _ _ (fun e => own_ty h.rown h5 h1 (by rw [hg, e])))
  (fun g hg => Below.heap_setCell _ _ _ _ (fun e => h4 (by rw [hg, e]))) (fun i u g hu hg => Below.heap_setCell _ _ _ _ (fun e => by
   obtain ⟨r, hr⟩ : ∃ r, rows[i]? = some r := ⟨_, List.getElem?_eq_getElem (by rw [← h.ulen]; exact (List.getElem?_eq_some_iff.1 hu).1)⟩
   exact own_ty (h.vals i r u hr hu) h5 h2 (by rw [hg, e])))
theorem MBuild.off {w w' : World} {base G n : Nat} {vt vr ve : Value} {us : List Value} {rows : List (List Int)} {ents : List EntD} {g5 : Nat} {cs : Array Value} {t : TypeId} (h : MBuild w base G n vt vr ve us rows ents) (h5 : w.heap[g5]? = some (.cells cs t (0, 0)))
  (h1 : 23 ≠ t) (h2 : 3 ≠ t) (h3 : G ≠ g5) (h4 : ve.ownBlock ≠ some g5) (hk : ∀ g, g ≠ g5 → w'.heap[g]? = w.heap[g]?) : MBuild w' base G n vt vr ve us rows ents :=
 h.keep (hk _ h3) (fun g hg => hk g (fun e => own_ty h.rown h5 h1 (by rw [hg, e])))
  (fun g hg => hk g (fun e => h4 (by rw [hg, e]))) (fun i u g hu hg => hk g (fun e => by
   obtain ⟨r, hr⟩ : ∃ r, rows[i]? = some r := ⟨_, List.getElem?_eq_getElem (by rw [← h.ulen]; exact (List.getElem?_eq_some_iff.1 hu).1)⟩
   exact own_ty (h.vals i r u hr hu) h5 h2 (by rw [hg, e])))
theorem set4 {u : World} {E : Nat} {a b c d : Value} {t : TypeId} (k : u.heap[E]? = some (.cells #[a, b, c, d] t (0, 0))) (x0 x1 x2 x3 : Value) :
  ((((u.setCell ⟨E, 0, none⟩ x0).setCell ⟨E, 1, none⟩ x1).setCell ⟨E, 2, none⟩ x2).setCell ⟨E, 3, none⟩ x3).heap[E]? = some (.cells #[x0, x1, x2, x3] t (0, 0)) ∧
  ∀ g, g ≠ E → ((((u.setCell ⟨E, 0, none⟩ x0).setCell ⟨E, 1, none⟩ x1).setCell ⟨E, 2, none⟩ x2).setCell ⟨E, 3, none⟩ x3).heap[g]? = u.heap[g]? := by
 refine ⟨heap_set (heap_set (heap_set (heap_set k x0) x1) x2) x3, fun g hg => ?_⟩
 rw [Below.heap_setCell _ _ _ _ (by exact hg), Below.heap_setCell _ _ _ _ (by exact hg), Below.heap_setCell _ _ _ _ (by exact hg), Below.heap_setCell _ _ _ _ (by exact hg)]
theorem infoE6 : (Tryz.prog.info? 162).map (fun i => (i.zero, i.size, i.bytes)) = some (some (.agg #[.int .i64 0, .int .i64 0, .int .i64 0, .int .i64 0]), 4, 32) := by kernel_rfl
def entAt (eb : List Int) (words k : Nat) : EntD :=
 ⟨be eb ((4 + 2 * words) * k) 2, be eb ((4 + 2 * words) * k + 2) 2, if 0 < words then be eb ((4 + 2 * words) * k + 4) 2 else 0, if 1 < words then be eb ((4 + 2 * words) * k + 6) 2 else 0⟩
def EntP (w : World) (base G n : Nat) (vt vr ve : Value) (us : List Value) (rows : List (List Int)) (ents : List EntD) (eb : List Int) (words : Nat) (e : Ending) (w' : World) : Prop :=
 Below base w w' ∧ (∀ g, g < w.heap.size → g ≠ G → ve.ownBlock ≠ some g → w'.heap[g]? = w.heap[g]?) ∧ if (4 + 2 * words) * (ents.length + 1) ≤ eb.length then ∃ ve', e = .returned (.int .i64 ((entAt eb words ents.length).next + 1)) ∧ MBuild w' base G n vt vr ve' us rows (ents ++ [entAt eb words ents.length]) else e = .panicked short
set_option maxRecDepth 100000 in
set_option maxHeartbeats 8000000 in
theorem entry_any0 (base G n : Nat) (vt vr ve : Value) (us : List Value) (rows : List (List Int)) (ents : List EntD) (ra : Option Addr) (rl : Nat) (ea : Option Addr) (el : Nat) (eb : List Int) (w : World)
  (hM : MBuild w base G n vt vr ve us rows ents) (hv : ∀ w', Below base w w' → VB w' ea eb) (hel : eb.length = el) (hem : el ≤ maxLen) (hk : ents.length ≤ 65536) (hbase : base ≤ w.heap.size) :
  Calls Tryz.prog 102 #[.agg #[.pointer (some ⟨G, 0, none⟩), .slice ra rl rl, .slice ea el el, .int .i64 0]] w (EntP w base G n vt vr ve us rows ents eb 0) := by
 have k1 := Bas.heap_new w (.cells #[.pointer (some ⟨G, 0, none⟩), .slice ra rl rl, .slice ea el el, .int .i64 0] 204);have BX := (Below.refl w.heap.size w).alloc (Nat.le_refl _) (.cells #[.pointer (some ⟨G, 0, none⟩), .slice ra rl rl, .slice ea el el, .int .i64 0] 204);have HB1 := Bas.hid BX;have HM1 := Bas.hid (hM.below BX);have HV := Bas.hid (fun w' (h : Below w.heap.size w w') => hv w' (h.mono hbase))
 obtain ⟨av, cv, rfl⟩ := own_slice hM.eown;obtain ⟨k, hkk⟩ : ∃ k, ents.length = k := ⟨_, rfl⟩;have HKK := Bas.hid hkk;have hhead := hM.head;rw [hkk] at hk hhead;have lG := heap_lt hhead;have kG := ((BX.block _ lG).trans hhead);obtain ⟨q, hq⟩ : ∃ q : Nat, q = 4 * k := ⟨_, rfl⟩;have hqb : q ≤ 524288 := by omega
 have hqs : 4 * (k + 1) = q + 4 := by omega
 have HQS := Bas.hid hqs;have HQ := Bas.hid hq;clear hM hv BX hhead hkk hq hqs;go_enter Tryz.func102, Tryz.ntmps102
 go_wp2_with (fail);generalize w.alloc (.cells #[.pointer (some ⟨G, 0, none⟩), .slice ra rl rl, .slice ea el el, .int .i64 0] 204) = W1 at *;have lB := heap_lt k1;have lG1 := heap_lt kG;have x2 := cell_of_heap (i := 2) k1 rfl;have x0 := cell_of_heap (i := 0) k1 rfl;have y3 := cell_of_heap (i := 3) kG rfl;by_cases hok : q + 4 ≤ el
 ·have hq3 := HQ.out;have R := fun w' => cut_ok ea el el (4 * (k : Int)) 4 w' (Nat.le_refl _) hem (by omega) (by omega) (by omega)
  simp only [show (4 * (k : Int)).toNat = q by rw [HQ.out]; omega, show ((4 : Int)).toNat = 4 from rfl] at R
  have HR := Bas.hid R;clear hq3;have hvs := fun w' (hb : Below w.heap.size w w') => (HV.out w' hb).sub q 4 (by omega)
  have HVS := Bas.hid hvs;have hsl : ((eb.drop q).take 4).length = 4 := by rw [List.length_take, List.length_drop]; omega
  obtain ⟨d0, hx0⟩ : ∃ d0 : Int, be eb (q + 0) 2 = d0 := ⟨_, rfl⟩;have HX0 := Bas.hid hx0;have hb0 := be_rng2 (HV.out w (Below.refl _ _)).byte (q + 0);rw [hx0] at hb0;obtain ⟨hl0, hh0⟩ := hb0;have HU0 := Bas.hid (fun (w' : World) (hb : Below w.heap.size w w') => (by
   have h := u16_ok (sub ea q 4) 4 4 _ 0 w' (Nat.le_refl _) (by unfold maxLen; omega) (hvs w' hb) hsl (by omega) (by omega)
   rw [show ((0 : Int)).toNat = 0 by rfl, be_sub eb q 4 0 2 (by omega), hx0] at h
   exact h : Calls Tryz.prog 49 #[.agg #[.slice (sub ea q 4) 4 4], .int .i64 0] w' fun e w'' => e = .returned (.int .i64 d0) ∧ Below w'.heap.size w' w''))
  obtain ⟨d1, hx1⟩ : ∃ d1 : Int, be eb (q + 2) 2 = d1 := ⟨_, rfl⟩;have HX1 := Bas.hid hx1;have hb1 := be_rng2 (HV.out w (Below.refl _ _)).byte (q + 2);rw [hx1] at hb1;obtain ⟨hl1, hh1⟩ := hb1;have HU1 := Bas.hid (fun (w' : World) (hb : Below w.heap.size w w') => (by
   have h := u16_ok (sub ea q 4) 4 4 _ 2 w' (Nat.le_refl _) (by unfold maxLen; omega) (hvs w' hb) hsl (by omega) (by omega)
   rw [show ((2 : Int)).toNat = 2 by rfl, be_sub eb q 4 2 2 (by omega), hx1] at h
   exact h : Calls Tryz.prog 49 #[.agg #[.slice (sub ea q 4) 4 4], .int .i64 2] w' fun e w'' => e = .returned (.int .i64 d1) ∧ Below w'.heap.size w' w''))
  have HEN : Hid (entAt eb 0 k = ⟨d0, d1, 0, 0⟩) := by
   unfold Hid entAt;rw [show (4 + 2 * 0) * k = q by rw [HQ.out]]
   simp [← HX0.out, ← HX1.out]
  generalize sub ea q 4 = S at *;clear R hvs hsl hx0 hx1;refine' Pl.region_v1 54 [] [0, 1, 2, 3, 4, 5, 6, 7, 8, 9, 10, 11] 12 4 [13] _ (fun v u => ∃ g, v = .pointer (some ⟨g, 0, none⟩) ∧ W1.heap.size ≤ g ∧ u.heap[g]? = some (.cells #[.slice none 0 0] 52 (0, 0))) (by kernel_rfl) (by kernel_rfl) (by simp) (fun _ _ _ _ e h => ⟨e ▸ h.1, h.2⟩) ?_ ?_ ?_ ?_
  rotate_left
  ·intro I F hI hF;simp only [Pl.selN, List.nil_append, List.drop_succ_cons, List.drop_zero];have z2 := fun i => hF.cell lB x2 i
   have z0 := fun i => hF.cell lB x0 i
   have z3 := fun i => hF.cell lG1 y3 i
   repeat (go_big_quiet_step ((go_at_call 53; with_reducible exact hF.call (HR.out _))))
   refine wpQuiet_nil ?_;rfl
  ·rintro v u u' ⟨g, h1, h2, h3⟩ hu hu';exact ⟨g, h1, h2, (hu'.block g (heap_lt h3)).trans h3⟩
  ·simp only [Pl.selN, List.drop_succ_cons, List.drop_zero, List.mem_singleton, forall_eq];intro u hu
   go_simp
   simp only [Pl.valsAt];exact ⟨(Below.refl _ _).alloc (Nat.le_refl _) _, _, rfl, hu.size, Bas.heap_new _ _⟩
  ·intro v u hu hv;obtain ⟨T, rfl, hT, kT⟩ := hv;simp only [Pl.selN, List.drop_succ_cons, List.drop_zero, Act.put, List.setIfInBounds_toArray, List.set_cons_zero, List.set_cons_succ];have HB2 := Bas.hid (HB1.out.trans (hu.mono HB1.out.size));have HM2 := Bas.hid (HM1.out.below hu);have k2 := (hu.block _ lB).trans k1;have c0 := cell_of_heap (i := 0) kT rfl;have f0 := free_of_heap (i := 0) kT;have hbT : w.heap.size ≤ T := by have := HB1.out.size; omega
   have hwT : w.heap.size ≠ T := by have := heap_lt k1; omega
   have hGT : G ≠ T := by omega
   clear k1 kG lB lG1 x0 x2 y3 HR HM1 HB1;go_wp2_with (fail);have kT3 := heap_set (i := 0) kT (.slice S 4 4);have k3 := (Below.heap_setCell u ⟨T, 0, none⟩ (.slice S 4 4) w.heap.size (by exact hwT)).trans k2
   have HB3 := Bas.hid (HB2.out.setCell (p := ⟨T, 0, none⟩) hbT (.slice S 4 4));have HM3 := Bas.hid (HM2.out.setT kT (by decide) (by decide) hGT (own_ty HM2.out.eown kT (by decide)) 0 (.slice S 4 4))
   generalize u.setCell ⟨T, 0, none⟩ (.slice S 4 4) = W3 at *;have kT3 : W3.heap[T]? = some (.cells #[.slice S 4 4] 52 (0, 0)) := kT3;clear kT c0 f0 hu k2 HB2 HM2;have hw3 : w.heap.size ≤ W3.heap.size := HB3.out.size;have t0 := cell_of_heap (i := 0) (v := .slice S 4 4) kT3 rfl;refine' Pl.region_v1 54 [] [0, 1, 2, 3, 4] 5 5 [6] _ (fun v u => ∃ g, v = .pointer (some ⟨g, 0, none⟩) ∧ W3.heap.size ≤ g ∧ u.heap[g]? = some (.cells #[.int .i64 0, .int .i64 0, .int .i64 0, .int .i64 0] 162 (0, 0))) (by kernel_rfl) (by kernel_rfl) (by simp) (fun _ _ _ _ e h => ⟨e ▸ h.1, h.2⟩) ?_ ?_ ?_ ?_
   rotate_left
   ·intro I F hI hF;simp only [Pl.selN, List.nil_append, List.drop_succ_cons, List.drop_zero];have z2 := fun i => hF.cell (heap_lt kT3) t0 i
    repeat (go_big_quiet_step ((go_at_call 49; first | with_reducible exact hF.call (HU0.out _ (HB3.out.trans ((hF.bel _).mono hw3))) | with_reducible exact hF.call (HU1.out _ (HB3.out.trans ((hF.bel _).mono hw3))))))
    refine wpQuiet_nil ?_;rfl
   ·rintro v u u' ⟨g, h1, h2, h3⟩ hu hu';exact ⟨g, h1, h2, (hu'.block g (heap_lt h3)).trans h3⟩
   ·simp only [Pl.selN, List.drop_succ_cons, List.drop_zero, List.mem_singleton, forall_eq];intro u hu
    go_simp
    simp only [Pl.valsAt];exact ⟨(Below.refl _ _).alloc (Nat.le_refl _) _, _, rfl, hu.size, Bas.heap_new _ _⟩
   ·intro v u hu hv;obtain ⟨E, rfl, hE, kE⟩ := hv;simp only [Pl.selN, List.drop_succ_cons, List.drop_zero, Act.put, List.setIfInBounds_toArray, List.set_cons_zero, List.set_cons_succ];have HB4 := Bas.hid (HB3.out.trans (hu.mono hw3));have HM4 := Bas.hid (HM3.out.below hu);have kB4 := (hu.block _ (heap_lt k3)).trans k3;have kT4 := (hu.block _ (heap_lt kT3)).trans kT3;have hbE : w.heap.size ≤ E := Nat.le_trans hw3 hE;have hBE : w.heap.size ≠ E := by have := heap_lt k3; omega
    have hTE : T ≠ E := by have := heap_lt kT3; omega
    have hGE : G ≠ E := by have := heap_lt HM3.out.head; omega
    have HVE : Hid ((Value.slice av ents.length cv).ownBlock ≠ some E) := fun e => by have := (Row.own_block HM3.out.eown e).2; omega
    have hk4 : k = ents.length := HKK.out.symm;have HK4 := Bas.hid hk4;clear hk4 k3 kT3 t0 hu HM3 hE HB3 hw3;have c0 := cell_of_heap (i := 0) kE rfl;have c1 := cell_of_heap (i := 1) kE rfl;have c2 := cell_of_heap (i := 2) kE rfl;have c3 := cell_of_heap (i := 3) kE rfl;have f0 := free_of_heap (i := 0) kE;have f1 := free_of_heap (i := 1) kE;have f2 := free_of_heap (i := 2) kE;have f3 := free_of_heap (i := 3) kE;have cB := cell_of_heap (i := 3) (v := .int .i64 0) kB4 rfl;have cT := cell_of_heap (i := 0) (v := .slice S 4 4) kT4 rfl;go_wp2_with (fail)
    skip
    obtain ⟨k5, hk5⟩ := set4 kE (.int .i64 d0) (.int .i64 d1) (.int .i64 0) (.int .i64 0);have HM5 := Bas.hid (HM4.out.off kE (by decide) (by decide) hGE HVE.out hk5)
    have HB5 := Bas.hid ((((HB4.out.setCell (p := ⟨E, 0, none⟩) hbE (.int .i64 d0)).setCell (p := ⟨E, 1, none⟩) hbE (.int .i64 d1)).setCell (p := ⟨E, 2, none⟩) hbE (.int .i64 0)).setCell (p := ⟨E, 3, none⟩) hbE (.int .i64 0));have kB5 := (hk5 _ hBE).trans kB4;have kT5 := (hk5 _ hTE).trans kT4;clear hk5 c0 c1 c2 c3 f0 f1 f2 f3 kE cB cT kB4 kT4 HM4 HB4;generalize ((((u.setCell ⟨E, 0, none⟩ (.int .i64 d0)).setCell ⟨E, 1, none⟩ (.int .i64 d1)).setCell ⟨E, 2, none⟩ (.int .i64 0)).setCell ⟨E, 3, none⟩ (.int .i64 0)) = W5 at *
    have kG5 := HM5.out.head;have hbw5 : w.heap.size ≤ W5.heap.size := HB5.out.size;have neB : (Value.slice av ents.length cv).ownBlock ≠ some w.heap.size := own_ty HM5.out.eown kB5 (by decide)
    have neG : (Value.slice av ents.length cv).ownBlock ≠ some G := own_ty HM5.out.eown kG5 (by decide)
    have RD := Bas.hid (Row.owned_keep HM5.out.eown (w' := W5.drew) (fun _ _ => rfl))
    obtain ⟨RI, RF, Ri, RF0, RFg, RFw, RFb⟩ := Pl.fam_g W5 (Value.slice av ents.length cv).ownBlock;have Rc0 := fun i => (Bas.gcell (RFb i) (b := w.heap.size) (o := 0) (heap_lt kB5) neB).trans (cell_of_heap (i := 0) (v := .pointer (some ⟨G, 0, none⟩)) kB5 rfl)
    have Rc1 := fun i => (Bas.gcell (RFb i) (b := G) (o := 3) (heap_lt kG5) neG).trans (cell_of_heap (i := 3) (v := .slice av ents.length cv) kG5 rfl)
    have Rc2 := fun i => (Bas.gcell (RFb i) (b := E) (o := 0) (heap_lt k5) HVE.out).trans (cell_of_heap (i := 0) (v := .int .i64 d0) k5 rfl)
    have Rc3 := fun i => (Bas.gcell (RFb i) (b := E) (o := 1) (heap_lt k5) HVE.out).trans (cell_of_heap (i := 1) (v := .int .i64 d1) k5 rfl)
    have Rc4 := fun i => (Bas.gcell (RFb i) (b := E) (o := 2) (heap_lt k5) HVE.out).trans (cell_of_heap (i := 2) (v := .int .i64 0) k5 rfl)
    have Rc5 := fun i => (Bas.gcell (RFb i) (b := E) (o := 3) (heap_lt k5) HVE.out).trans (cell_of_heap (i := 3) (v := .int .i64 0) k5 rfl)
    have RFH := Bas.hid RF0;have RhI : Nonempty RI := ⟨Ri⟩;have RFW := Bas.hid RFw;have KE := Bas.hid k5;have KB := Bas.hid kB5;clear RF0 RFw RFg RFb neB neG kG5 k5 kT5 kB5;refine Pl.region_plan0 Ri [(true, 0), (true, 1), (true, 2), (true, 3), (true, 4), (true, 5), (true, 6), (true, 7), (false, 8), (false, 9), (false, 10), (false, 11), (false, 12)] [10, 11, 12] (by kernel_rfl) (by kernel_rfl) (fun _ _ _ _ e h => ⟨e ▸ h.1, h.2⟩) RFH.out ?_
    refine Pl.head_sel0 [(true, 0), (true, 1), (true, 2), (true, 3), (true, 4), (true, 5), (true, 6), (true, 7)] (by kernel_rfl) (by kernel_rfl) ?_
    simp only [Pl.sel, List.drop_succ_cons, List.drop_zero];repeat (go_big_quiet_step (fail))
    refine wpQuiet_nil ?_;rw [← RFH.out];clear Rc0 Rc1 Rc2 Rc3 Rc4 Rc5 RFH;refine Pl.one_sel (by kernel_rfl) ?_
    intro Q' hQ' hP';simp only [Pl.sel, List.drop_succ_cons, List.drop_zero];go_wp2_with (fail);have q2 := Bas.heap_new W5 (.cells #[.int .i64 d0, .int .i64 d1, .int .i64 0, .int .i64 0] 162);have hb2 := ((Below.refl W5.heap.size W5).alloc (Nat.le_refl _) (.cells #[.int .i64 d0, .int .i64 d1, .int .i64 0, .int .i64 0] 162)).drew;have gg2 := Bas.gdrew (Bas.galloc (Bas.grefl W5 (Value.slice av ents.length cv).ownBlock) (.cells #[.int .i64 d0, .int .i64 d1, .int .i64 0, .int .i64 0] 162));refine hQ' _ _ (fun _ _ => RFW.out _ gg2) ?_
    clear hQ' hP' Q';have GG2 := Bas.hid gg2;clear gg2;have HM2 := Bas.hid (HM5.out.below hb2);have HB2' := Bas.hid (HB5.out.trans (hb2.mono hbw5));have q2 : (W5.alloc (.cells #[.int .i64 d0, .int .i64 d1, .int .i64 0, .int .i64 0] 162)).drew.heap[W5.heap.size]? = some (.cells #[.int .i64 d0, .int .i64 d1, .int .i64 0, .int .i64 0] 162 (0, 0)) := q2;have KE2 := Bas.hid ((hb2.block _ (heap_lt KE.out)).trans KE.out);have hw2 := hb2.size;have lE := heap_lt KE.out;clear hb2;generalize (W5.alloc (.cells #[.int .i64 d0, .int .i64 d1, .int .i64 0, .int .i64 0] 162)).drew = W2 at *;refine Pl.one_sel (by kernel_rfl) ?_
    intro Q' hQ' hP';simp only [Pl.sel, List.drop_succ_cons, List.drop_zero];refine Row.append_any rfl _ _ 170 162 rfl (.agg #[.int .i64 0, .int .i64 0, .int .i64 0, .int .i64 0]) 4 32 Tryz.underlying170 infoE6 rfl (by decide) base (.slice av ents.length cv) ents.length _ (by first | rfl | (rw [HKK.out]; rfl)) HM2.out.eown (.slice (some ⟨W5.heap.size, 0, none⟩) 1 1) 1 [.int .i64 d0, .int .i64 d1, .int .i64 0, .int .i64 0] rfl (leads_heap q2) rfl (by simp; first | exact ⟨rfl, rfl, rfl, rfl⟩ | exact ⟨rfl, rfl, rfl⟩ | exact ⟨rfl, rfl⟩) (by rw [HKK.out]; unfold maxLen; omega) (by rw [HKK.out]; omega) (by omega) ?_
    intro v7 w7 ho7 hg7 _;obtain ⟨a7, c7, rfl⟩ := own_slice ho7;have HM8 := Bas.hid (HM2.out.snocE (en := ⟨d0, d1, 0, 0⟩) hg7 ho7);have k7 := (hg7.block G (heap_lt HM2.out.head) (fun e => own_ty HM2.out.eown HM2.out.head (by decide) e.symm)).trans HM2.out.head
    have kE7 := (hg7.block E (heap_lt KE2.out) (fun e => HVE.out e.symm)).trans KE2.out
    have c2 := cell_of_heap (i := 3) k7 rfl;have f2 := free_of_heap (i := 3) k7;have cE0 := cell_of_heap (i := 0) (v := .int .i64 d0) kE7 rfl;have HFR := Bas.hid (fun (g : Nat) (h1 : g < w.heap.size) (h2 : (Value.slice av ents.length cv).ownBlock ≠ some g) => (hg7.block g (Nat.lt_of_lt_of_le h1 HB2'.out.size) (fun e => h2 e.symm)).trans (HB2'.out.block g h1))
    have HB7 := Bas.hid ((HB2'.out.mono hbase).grown hg7 (Nat.le_trans hbase HB2'.out.size) (fun g' hg' => (Row.own_block HM2.out.eown hg').1))
    have G7 := Bas.hid (Bas.gtrans GG2.out hg7);clear hg7 ho7;go_wp2_with (fail);refine hQ' _ _ (fun _ _ => RFW.out _ G7.out) ?_
    clear hQ' hP' Q' RFW G7 GG2;refine Pl.tail_sel [(false, 10), (false, 11), (false, 12)] (by kernel_rfl) (by kernel_rfl) ?_
    simp only [Pl.sel, List.drop_succ_cons, List.drop_zero];go_wp2_with (fail);have HB8 := Bas.hid (HB7.out.setCell (p := ⟨G, 3, none⟩) HM2.out.low (.slice a7 (ents.length + 1) c7));go_ret;refine ⟨HB8.out, fun g h1 h2 h3 => (Below.heap_setCell w7 ⟨G, 3, none⟩ (.slice a7 (ents.length + 1) c7) g (by exact h2)).trans (HFR.out g h1 (by first | exact h3 | (rw [HKK.out]; exact h3))), ?_⟩
    have hz := HM8.out;rw [HKK.out] at hz;rw [HKK.out, show (4 + 2 * 0) * (k + 1) = q + 4 by have := HQS.out; omega, hel, if_pos hok]
    rw [HEN.out];exact ⟨_, rfl, hz⟩
 ·have hq3 := HQ.out;have R := fun w' => cut_no ea el el (4 * (k : Int)) 4 w' (Nat.le_refl _) hem (by omega)
  have HR := Bas.hid R;clear hq3 R;refine' Pl.region_vh 54 [] [0, 1, 2, 3, 4, 5, 6, 7, 8, 9, 10] [(12, 4)] 11 21 [13] _ (fun ch w' => ch = short ∧ Below w.heap.size w w') (by kernel_rfl) (by kernel_rfl) (by kernel_rfl) (by simp) (fun _ _ _ _ e h => ⟨e ▸ h.1, h.2⟩) ?_ ?_ ?_ ?_
  rotate_left
  ·intro I F hI hF;simp only [Pl.selN, List.nil_append, List.drop_succ_cons, List.drop_zero];have z2 := fun i => hF.cell lB x2 i
   have z0 := fun i => hF.cell lB x0 i
   have z3 := fun i => hF.cell lG1 y3 i
   repeat (go_big_quiet_step (fail))
   refine wpQuiet_nil ?_;rfl
  ·simp only [Pl.selN, List.drop_succ_cons, List.drop_zero, List.mem_singleton, forall_eq];intro u hu
   go_simp
   simp only [Pl.valsAt];have hW1 : w.heap.size ≤ W1.heap.size := HB1.out.size;have hbu := HB1.out.trans (hu.mono hW1);refine (HR.out u).mono ?_;rintro e w'' ⟨he, hb⟩;exact .inr ⟨short, he, rfl, hbu.trans (hb.mono (Nat.le_trans hW1 hu.size))⟩
  ·intro z hz;simp only [List.mem_singleton] at hz;subst hz;simp only [Pl.selN, List.drop_succ_cons, List.drop_zero, List.mem_singleton, forall_eq];intro u hu
   go_simp
   simp only [Pl.valsAt];exact (Below.refl _ _).alloc (Nat.le_refl _) _
  ·rintro c' a' u hd ⟨rfl, hb⟩;exact ⟨hd, hb.mono hbase, fun g hg _ _ => hb.block g hg, by rw [HKK.out, show (4 + 2 * 0) * (k + 1) = q + 4 by have := HQS.out; omega, hel, if_neg hok]⟩
set_option maxRecDepth 100000 in
set_option maxHeartbeats 8000000 in
theorem entry_any1 (base G n : Nat) (vt vr ve : Value) (us : List Value) (rows : List (List Int)) (ents : List EntD) (ra : Option Addr) (rl : Nat) (ea : Option Addr) (el : Nat) (eb : List Int) (w : World)
  (hM : MBuild w base G n vt vr ve us rows ents) (hv : ∀ w', Below base w w' → VB w' ea eb) (hel : eb.length = el) (hem : el ≤ maxLen) (hk : ents.length ≤ 65536) (hbase : base ≤ w.heap.size) :
  Calls Tryz.prog 102 #[.agg #[.pointer (some ⟨G, 0, none⟩), .slice ra rl rl, .slice ea el el, .int .i64 1]] w (EntP w base G n vt vr ve us rows ents eb 1) := by
 have k1 := Bas.heap_new w (.cells #[.pointer (some ⟨G, 0, none⟩), .slice ra rl rl, .slice ea el el, .int .i64 1] 204);have BX := (Below.refl w.heap.size w).alloc (Nat.le_refl _) (.cells #[.pointer (some ⟨G, 0, none⟩), .slice ra rl rl, .slice ea el el, .int .i64 1] 204);have HB1 := Bas.hid BX;have HM1 := Bas.hid (hM.below BX);have HV := Bas.hid (fun w' (h : Below w.heap.size w w') => hv w' (h.mono hbase))
 obtain ⟨av, cv, rfl⟩ := own_slice hM.eown;obtain ⟨k, hkk⟩ : ∃ k, ents.length = k := ⟨_, rfl⟩;have HKK := Bas.hid hkk;have hhead := hM.head;rw [hkk] at hk hhead;have lG := heap_lt hhead;have kG := ((BX.block _ lG).trans hhead);obtain ⟨q, hq⟩ : ∃ q : Nat, q = 6 * k := ⟨_, rfl⟩;have hqb : q ≤ 524288 := by omega
 have hqs : 6 * (k + 1) = q + 6 := by omega
 have HQS := Bas.hid hqs;have HQ := Bas.hid hq;clear hM hv BX hhead hkk hq hqs;go_enter Tryz.func102, Tryz.ntmps102
 go_wp2_with (fail);generalize w.alloc (.cells #[.pointer (some ⟨G, 0, none⟩), .slice ra rl rl, .slice ea el el, .int .i64 1] 204) = W1 at *;have lB := heap_lt k1;have lG1 := heap_lt kG;have x2 := cell_of_heap (i := 2) k1 rfl;have x0 := cell_of_heap (i := 0) k1 rfl;have y3 := cell_of_heap (i := 3) kG rfl;by_cases hok : q + 6 ≤ el
 ·have hq3 := HQ.out;have R := fun w' => cut_ok ea el el (6 * (k : Int)) 6 w' (Nat.le_refl _) hem (by omega) (by omega) (by omega)
  simp only [show (6 * (k : Int)).toNat = q by rw [HQ.out]; omega, show ((6 : Int)).toNat = 6 from rfl] at R
  have HR := Bas.hid R;clear hq3;have hvs := fun w' (hb : Below w.heap.size w w') => (HV.out w' hb).sub q 6 (by omega)
  have HVS := Bas.hid hvs;have hsl : ((eb.drop q).take 6).length = 6 := by rw [List.length_take, List.length_drop]; omega
  obtain ⟨d0, hx0⟩ : ∃ d0 : Int, be eb (q + 0) 2 = d0 := ⟨_, rfl⟩;have HX0 := Bas.hid hx0;have hb0 := be_rng2 (HV.out w (Below.refl _ _)).byte (q + 0);rw [hx0] at hb0;obtain ⟨hl0, hh0⟩ := hb0;have HU0 := Bas.hid (fun (w' : World) (hb : Below w.heap.size w w') => (by
   have h := u16_ok (sub ea q 6) 6 6 _ 0 w' (Nat.le_refl _) (by unfold maxLen; omega) (hvs w' hb) hsl (by omega) (by omega)
   rw [show ((0 : Int)).toNat = 0 by rfl, be_sub eb q 6 0 2 (by omega), hx0] at h
   exact h : Calls Tryz.prog 49 #[.agg #[.slice (sub ea q 6) 6 6], .int .i64 0] w' fun e w'' => e = .returned (.int .i64 d0) ∧ Below w'.heap.size w' w''))
  obtain ⟨d1, hx1⟩ : ∃ d1 : Int, be eb (q + 2) 2 = d1 := ⟨_, rfl⟩;have HX1 := Bas.hid hx1;have hb1 := be_rng2 (HV.out w (Below.refl _ _)).byte (q + 2);rw [hx1] at hb1;obtain ⟨hl1, hh1⟩ := hb1;have HU1 := Bas.hid (fun (w' : World) (hb : Below w.heap.size w w') => (by
   have h := u16_ok (sub ea q 6) 6 6 _ 2 w' (Nat.le_refl _) (by unfold maxLen; omega) (hvs w' hb) hsl (by omega) (by omega)
   rw [show ((2 : Int)).toNat = 2 by rfl, be_sub eb q 6 2 2 (by omega), hx1] at h
   exact h : Calls Tryz.prog 49 #[.agg #[.slice (sub ea q 6) 6 6], .int .i64 2] w' fun e w'' => e = .returned (.int .i64 d1) ∧ Below w'.heap.size w' w''))
  obtain ⟨d2, hx2⟩ : ∃ d2 : Int, be eb (q + 4) 2 = d2 := ⟨_, rfl⟩;have HX2 := Bas.hid hx2;have hb2 := be_rng2 (HV.out w (Below.refl _ _)).byte (q + 4);rw [hx2] at hb2;obtain ⟨hl2, hh2⟩ := hb2;have HU2 := Bas.hid (fun (w' : World) (hb : Below w.heap.size w w') => (by
   have h := u16_ok (sub ea q 6) 6 6 _ 4 w' (Nat.le_refl _) (by unfold maxLen; omega) (hvs w' hb) hsl (by omega) (by omega)
   rw [show ((4 : Int)).toNat = 4 by rfl, be_sub eb q 6 4 2 (by omega), hx2] at h
   exact h : Calls Tryz.prog 49 #[.agg #[.slice (sub ea q 6) 6 6], .int .i64 4] w' fun e w'' => e = .returned (.int .i64 d2) ∧ Below w'.heap.size w' w''))
  have HEN : Hid (entAt eb 1 k = ⟨d0, d1, d2, 0⟩) := by
   unfold Hid entAt;rw [show (4 + 2 * 1) * k = q by rw [HQ.out]]
   simp [← HX0.out, ← HX1.out, ← HX2.out]
  generalize sub ea q 6 = S at *;clear R hvs hsl hx0 hx1 hx2;refine' Pl.region_v1 54 [] [0, 1, 2, 3, 4, 5, 6, 7, 8, 9, 10, 11] 12 4 [13] _ (fun v u => ∃ g, v = .pointer (some ⟨g, 0, none⟩) ∧ W1.heap.size ≤ g ∧ u.heap[g]? = some (.cells #[.slice none 0 0] 52 (0, 0))) (by kernel_rfl) (by kernel_rfl) (by simp) (fun _ _ _ _ e h => ⟨e ▸ h.1, h.2⟩) ?_ ?_ ?_ ?_
  rotate_left
  ·intro I F hI hF;simp only [Pl.selN, List.nil_append, List.drop_succ_cons, List.drop_zero];have z2 := fun i => hF.cell lB x2 i
   have z0 := fun i => hF.cell lB x0 i
   have z3 := fun i => hF.cell lG1 y3 i
   repeat (go_big_quiet_step ((go_at_call 53; with_reducible exact hF.call (HR.out _))))
   refine wpQuiet_nil ?_;rfl
  ·rintro v u u' ⟨g, h1, h2, h3⟩ hu hu';exact ⟨g, h1, h2, (hu'.block g (heap_lt h3)).trans h3⟩
  ·simp only [Pl.selN, List.drop_succ_cons, List.drop_zero, List.mem_singleton, forall_eq];intro u hu
   go_simp
   simp only [Pl.valsAt];exact ⟨(Below.refl _ _).alloc (Nat.le_refl _) _, _, rfl, hu.size, Bas.heap_new _ _⟩
  ·intro v u hu hv;obtain ⟨T, rfl, hT, kT⟩ := hv;simp only [Pl.selN, List.drop_succ_cons, List.drop_zero, Act.put, List.setIfInBounds_toArray, List.set_cons_zero, List.set_cons_succ];have HB2 := Bas.hid (HB1.out.trans (hu.mono HB1.out.size));have HM2 := Bas.hid (HM1.out.below hu);have k2 := (hu.block _ lB).trans k1;have c0 := cell_of_heap (i := 0) kT rfl;have f0 := free_of_heap (i := 0) kT;have hbT : w.heap.size ≤ T := by have := HB1.out.size; omega
   have hwT : w.heap.size ≠ T := by have := heap_lt k1; omega
   have hGT : G ≠ T := by omega
   clear k1 kG lB lG1 x0 x2 y3 HR HM1 HB1;go_wp2_with (fail);have kT3 := heap_set (i := 0) kT (.slice S 6 6);have k3 := (Below.heap_setCell u ⟨T, 0, none⟩ (.slice S 6 6) w.heap.size (by exact hwT)).trans k2
   have HB3 := Bas.hid (HB2.out.setCell (p := ⟨T, 0, none⟩) hbT (.slice S 6 6));have HM3 := Bas.hid (HM2.out.setT kT (by decide) (by decide) hGT (own_ty HM2.out.eown kT (by decide)) 0 (.slice S 6 6))
   generalize u.setCell ⟨T, 0, none⟩ (.slice S 6 6) = W3 at *;have kT3 : W3.heap[T]? = some (.cells #[.slice S 6 6] 52 (0, 0)) := kT3;clear kT c0 f0 hu k2 HB2 HM2;have hw3 : w.heap.size ≤ W3.heap.size := HB3.out.size;have t0 := cell_of_heap (i := 0) (v := .slice S 6 6) kT3 rfl;refine' Pl.region_v1 54 [] [0, 1, 2, 3, 4] 5 5 [6] _ (fun v u => ∃ g, v = .pointer (some ⟨g, 0, none⟩) ∧ W3.heap.size ≤ g ∧ u.heap[g]? = some (.cells #[.int .i64 0, .int .i64 0, .int .i64 0, .int .i64 0] 162 (0, 0))) (by kernel_rfl) (by kernel_rfl) (by simp) (fun _ _ _ _ e h => ⟨e ▸ h.1, h.2⟩) ?_ ?_ ?_ ?_
   rotate_left
   ·intro I F hI hF;simp only [Pl.selN, List.nil_append, List.drop_succ_cons, List.drop_zero];have z2 := fun i => hF.cell (heap_lt kT3) t0 i
    repeat (go_big_quiet_step ((go_at_call 49; first | with_reducible exact hF.call (HU0.out _ (HB3.out.trans ((hF.bel _).mono hw3))) | with_reducible exact hF.call (HU1.out _ (HB3.out.trans ((hF.bel _).mono hw3))))))
    refine wpQuiet_nil ?_;rfl
   ·rintro v u u' ⟨g, h1, h2, h3⟩ hu hu';exact ⟨g, h1, h2, (hu'.block g (heap_lt h3)).trans h3⟩
   ·simp only [Pl.selN, List.drop_succ_cons, List.drop_zero, List.mem_singleton, forall_eq];intro u hu
    go_simp
    simp only [Pl.valsAt];exact ⟨(Below.refl _ _).alloc (Nat.le_refl _) _, _, rfl, hu.size, Bas.heap_new _ _⟩
   ·intro v u hu hv;obtain ⟨E, rfl, hE, kE⟩ := hv;simp only [Pl.selN, List.drop_succ_cons, List.drop_zero, Act.put, List.setIfInBounds_toArray, List.set_cons_zero, List.set_cons_succ];have HB4 := Bas.hid (HB3.out.trans (hu.mono hw3));have HM4 := Bas.hid (HM3.out.below hu);have kB4 := (hu.block _ (heap_lt k3)).trans k3;have kT4 := (hu.block _ (heap_lt kT3)).trans kT3;have hbE : w.heap.size ≤ E := Nat.le_trans hw3 hE;have hBE : w.heap.size ≠ E := by have := heap_lt k3; omega
    have hTE : T ≠ E := by have := heap_lt kT3; omega
    have hGE : G ≠ E := by have := heap_lt HM3.out.head; omega
    have HVE : Hid ((Value.slice av ents.length cv).ownBlock ≠ some E) := fun e => by have := (Row.own_block HM3.out.eown e).2; omega
    have hk4 : k = ents.length := HKK.out.symm;have HK4 := Bas.hid hk4;clear hk4 k3 kT3 t0 hu HM3 hE HB3 hw3;have c0 := cell_of_heap (i := 0) kE rfl;have c1 := cell_of_heap (i := 1) kE rfl;have c2 := cell_of_heap (i := 2) kE rfl;have c3 := cell_of_heap (i := 3) kE rfl;have f0 := free_of_heap (i := 0) kE;have f1 := free_of_heap (i := 1) kE;have f2 := free_of_heap (i := 2) kE;have f3 := free_of_heap (i := 3) kE;have cB := cell_of_heap (i := 3) (v := .int .i64 1) kB4 rfl;have cT := cell_of_heap (i := 0) (v := .slice S 6 6) kT4 rfl;go_wp2_with ((go_at_call 49; refine Row.fence ?_));refine Row.unfence ?_;obtain ⟨k5, hk5⟩ := set4 kE (.int .i64 d0) (.int .i64 d1) (.int .i64 0) (.int .i64 0);have HM5 := Bas.hid (HM4.out.off kE (by decide) (by decide) hGE HVE.out hk5)
    have HB5 := Bas.hid ((((HB4.out.setCell (p := ⟨E, 0, none⟩) hbE (.int .i64 d0)).setCell (p := ⟨E, 1, none⟩) hbE (.int .i64 d1)).setCell (p := ⟨E, 2, none⟩) hbE (.int .i64 0)).setCell (p := ⟨E, 3, none⟩) hbE (.int .i64 0));have kB5 := (hk5 _ hBE).trans kB4;have kT5 := (hk5 _ hTE).trans kT4;clear hk5 c0 c1 c2 c3 f0 f1 f2 f3 kE cB cT kB4 kT4 HM4 HB4;generalize ((((u.setCell ⟨E, 0, none⟩ (.int .i64 d0)).setCell ⟨E, 1, none⟩ (.int .i64 d1)).setCell ⟨E, 2, none⟩ (.int .i64 0)).setCell ⟨E, 3, none⟩ (.int .i64 0)) = W5 at *
    refine (HU2.out _ HB5.out).mono ?_;rintro e w6 ⟨rfl, hb6⟩;have hwb5 : w.heap.size ≤ W5.heap.size := HB5.out.size;have k6 := (hb6.block _ (heap_lt k5)).trans k5;have kT6 := (hb6.block _ (heap_lt kT5)).trans kT5;have kB6 := (hb6.block _ (heap_lt kB5)).trans kB5;have HB6 := Bas.hid (HB5.out.trans (hb6.mono hwb5));have HM6 := Bas.hid (HM5.out.below hb6);clear hb6 k5 kT5 kB5 HB5 HM5 hwb5;have cE := cell_of_heap (i := 2) (v := .int .i64 0) k6 rfl;have fE := free_of_heap (i := 2) k6;have cB := cell_of_heap (i := 3) (v := .int .i64 1) kB6 rfl;have cT := cell_of_heap (i := 0) (v := .slice S 6 6) kT6 rfl;go_wp2_with (fail)
    skip
    have k5' := heap_set (i := 2) k6 (.int .i64 d2);have hk5 : ∀ g, g ≠ E → (w6.setCell ⟨E, 2, none⟩ (.int .i64 d2)).heap[g]? = w6.heap[g]? := fun g hg => Below.heap_setCell _ _ _ _ hg
    have HM5 := Bas.hid (HM6.out.off k6 (by decide) (by decide) hGE HVE.out hk5)
    have HB5 := Bas.hid (HB6.out.setCell (p := ⟨E, 2, none⟩) hbE (.int .i64 d2));have kB5 := (hk5 _ hBE).trans kB6;have kT5 := (hk5 _ hTE).trans kT6;clear hk5 k6 kB6 kT6 HM6 HB6 cE fE cB cT;generalize w6.setCell ⟨E, 2, none⟩ (.int .i64 d2) = W5 at *;have k5 : W5.heap[E]? = some (.cells #[.int .i64 d0, .int .i64 d1, .int .i64 d2, .int .i64 0] 162 (0, 0)) := k5';clear k5';have kG5 := HM5.out.head;have hbw5 : w.heap.size ≤ W5.heap.size := HB5.out.size;have neB : (Value.slice av ents.length cv).ownBlock ≠ some w.heap.size := own_ty HM5.out.eown kB5 (by decide)
    have neG : (Value.slice av ents.length cv).ownBlock ≠ some G := own_ty HM5.out.eown kG5 (by decide)
    have RD := Bas.hid (Row.owned_keep HM5.out.eown (w' := W5.drew) (fun _ _ => rfl))
    obtain ⟨RI, RF, Ri, RF0, RFg, RFw, RFb⟩ := Pl.fam_g W5 (Value.slice av ents.length cv).ownBlock;have Rc0 := fun i => (Bas.gcell (RFb i) (b := w.heap.size) (o := 0) (heap_lt kB5) neB).trans (cell_of_heap (i := 0) (v := .pointer (some ⟨G, 0, none⟩)) kB5 rfl)
    have Rc1 := fun i => (Bas.gcell (RFb i) (b := G) (o := 3) (heap_lt kG5) neG).trans (cell_of_heap (i := 3) (v := .slice av ents.length cv) kG5 rfl)
    have Rc2 := fun i => (Bas.gcell (RFb i) (b := E) (o := 0) (heap_lt k5) HVE.out).trans (cell_of_heap (i := 0) (v := .int .i64 d0) k5 rfl)
    have Rc3 := fun i => (Bas.gcell (RFb i) (b := E) (o := 1) (heap_lt k5) HVE.out).trans (cell_of_heap (i := 1) (v := .int .i64 d1) k5 rfl)
    have Rc4 := fun i => (Bas.gcell (RFb i) (b := E) (o := 2) (heap_lt k5) HVE.out).trans (cell_of_heap (i := 2) (v := .int .i64 d2) k5 rfl)
    have Rc5 := fun i => (Bas.gcell (RFb i) (b := E) (o := 3) (heap_lt k5) HVE.out).trans (cell_of_heap (i := 3) (v := .int .i64 0) k5 rfl)
    have RFH := Bas.hid RF0;have RhI : Nonempty RI := ⟨Ri⟩;have RFW := Bas.hid RFw;have KE := Bas.hid k5;have KB := Bas.hid kB5;clear RF0 RFw RFg RFb neB neG kG5 k5 kT5 kB5;refine Pl.region_plan0 Ri [(true, 0), (true, 1), (true, 2), (true, 3), (true, 4), (true, 5), (true, 6), (true, 7), (false, 8), (false, 9), (false, 10), (false, 11), (false, 12)] [10, 11, 12] (by kernel_rfl) (by kernel_rfl) (fun _ _ _ _ e h => ⟨e ▸ h.1, h.2⟩) RFH.out ?_
    refine Pl.head_sel0 [(true, 0), (true, 1), (true, 2), (true, 3), (true, 4), (true, 5), (true, 6), (true, 7)] (by kernel_rfl) (by kernel_rfl) ?_
    simp only [Pl.sel, List.drop_succ_cons, List.drop_zero];repeat (go_big_quiet_step (fail))
    refine wpQuiet_nil ?_;rw [← RFH.out];clear Rc0 Rc1 Rc2 Rc3 Rc4 Rc5 RFH;refine Pl.one_sel (by kernel_rfl) ?_
    intro Q' hQ' hP';simp only [Pl.sel, List.drop_succ_cons, List.drop_zero];go_wp2_with (fail);have q2 := Bas.heap_new W5 (.cells #[.int .i64 d0, .int .i64 d1, .int .i64 d2, .int .i64 0] 162);have hb2 := ((Below.refl W5.heap.size W5).alloc (Nat.le_refl _) (.cells #[.int .i64 d0, .int .i64 d1, .int .i64 d2, .int .i64 0] 162)).drew;have gg2 := Bas.gdrew (Bas.galloc (Bas.grefl W5 (Value.slice av ents.length cv).ownBlock) (.cells #[.int .i64 d0, .int .i64 d1, .int .i64 d2, .int .i64 0] 162));refine hQ' _ _ (fun _ _ => RFW.out _ gg2) ?_
    clear hQ' hP' Q';have GG2 := Bas.hid gg2;clear gg2;have HM2 := Bas.hid (HM5.out.below hb2);have HB2' := Bas.hid (HB5.out.trans (hb2.mono hbw5));have q2 : (W5.alloc (.cells #[.int .i64 d0, .int .i64 d1, .int .i64 d2, .int .i64 0] 162)).drew.heap[W5.heap.size]? = some (.cells #[.int .i64 d0, .int .i64 d1, .int .i64 d2, .int .i64 0] 162 (0, 0)) := q2;have KE2 := Bas.hid ((hb2.block _ (heap_lt KE.out)).trans KE.out);have hw2 := hb2.size;have lE := heap_lt KE.out;clear hb2;generalize (W5.alloc (.cells #[.int .i64 d0, .int .i64 d1, .int .i64 d2, .int .i64 0] 162)).drew = W2 at *;refine Pl.one_sel (by kernel_rfl) ?_
    intro Q' hQ' hP';simp only [Pl.sel, List.drop_succ_cons, List.drop_zero];refine Row.append_any rfl _ _ 170 162 rfl (.agg #[.int .i64 0, .int .i64 0, .int .i64 0, .int .i64 0]) 4 32 Tryz.underlying170 infoE6 rfl (by decide) base (.slice av ents.length cv) ents.length _ (by first | rfl | (rw [HKK.out]; rfl)) HM2.out.eown (.slice (some ⟨W5.heap.size, 0, none⟩) 1 1) 1 [.int .i64 d0, .int .i64 d1, .int .i64 d2, .int .i64 0] rfl (leads_heap q2) rfl (by simp; first | exact ⟨rfl, rfl, rfl, rfl⟩ | exact ⟨rfl, rfl, rfl⟩ | exact ⟨rfl, rfl⟩) (by rw [HKK.out]; unfold maxLen; omega) (by rw [HKK.out]; omega) (by omega) ?_
    intro v7 w7 ho7 hg7 _;obtain ⟨a7, c7, rfl⟩ := own_slice ho7;have HM8 := Bas.hid (HM2.out.snocE (en := ⟨d0, d1, d2, 0⟩) hg7 ho7);have k7 := (hg7.block G (heap_lt HM2.out.head) (fun e => own_ty HM2.out.eown HM2.out.head (by decide) e.symm)).trans HM2.out.head
    have kE7 := (hg7.block E (heap_lt KE2.out) (fun e => HVE.out e.symm)).trans KE2.out
    have c2 := cell_of_heap (i := 3) k7 rfl;have f2 := free_of_heap (i := 3) k7;have cE0 := cell_of_heap (i := 0) (v := .int .i64 d0) kE7 rfl;have HFR := Bas.hid (fun (g : Nat) (h1 : g < w.heap.size) (h2 : (Value.slice av ents.length cv).ownBlock ≠ some g) => (hg7.block g (Nat.lt_of_lt_of_le h1 HB2'.out.size) (fun e => h2 e.symm)).trans (HB2'.out.block g h1))
    have HB7 := Bas.hid ((HB2'.out.mono hbase).grown hg7 (Nat.le_trans hbase HB2'.out.size) (fun g' hg' => (Row.own_block HM2.out.eown hg').1))
    have G7 := Bas.hid (Bas.gtrans GG2.out hg7);clear hg7 ho7;go_wp2_with (fail);refine hQ' _ _ (fun _ _ => RFW.out _ G7.out) ?_
    clear hQ' hP' Q' RFW G7 GG2;refine Pl.tail_sel [(false, 10), (false, 11), (false, 12)] (by kernel_rfl) (by kernel_rfl) ?_
    simp only [Pl.sel, List.drop_succ_cons, List.drop_zero];go_wp2_with (fail);have HB8 := Bas.hid (HB7.out.setCell (p := ⟨G, 3, none⟩) HM2.out.low (.slice a7 (ents.length + 1) c7));go_ret;refine ⟨HB8.out, fun g h1 h2 h3 => (Below.heap_setCell w7 ⟨G, 3, none⟩ (.slice a7 (ents.length + 1) c7) g (by exact h2)).trans (HFR.out g h1 (by first | exact h3 | (rw [HKK.out]; exact h3))), ?_⟩
    have hz := HM8.out;rw [HKK.out] at hz;rw [HKK.out, show (4 + 2 * 1) * (k + 1) = q + 6 by have := HQS.out; omega, hel, if_pos hok]
    rw [HEN.out];exact ⟨_, rfl, hz⟩
 ·have hq3 := HQ.out;have R := fun w' => cut_no ea el el (6 * (k : Int)) 6 w' (Nat.le_refl _) hem (by omega)
  have HR := Bas.hid R;clear hq3 R;refine' Pl.region_vh 54 [] [0, 1, 2, 3, 4, 5, 6, 7, 8, 9, 10] [(12, 4)] 11 21 [13] _ (fun ch w' => ch = short ∧ Below w.heap.size w w') (by kernel_rfl) (by kernel_rfl) (by kernel_rfl) (by simp) (fun _ _ _ _ e h => ⟨e ▸ h.1, h.2⟩) ?_ ?_ ?_ ?_
  rotate_left
  ·intro I F hI hF;simp only [Pl.selN, List.nil_append, List.drop_succ_cons, List.drop_zero];have z2 := fun i => hF.cell lB x2 i
   have z0 := fun i => hF.cell lB x0 i
   have z3 := fun i => hF.cell lG1 y3 i
   repeat (go_big_quiet_step (fail))
   refine wpQuiet_nil ?_;rfl
  ·simp only [Pl.selN, List.drop_succ_cons, List.drop_zero, List.mem_singleton, forall_eq];intro u hu
   go_simp
   simp only [Pl.valsAt];have hW1 : w.heap.size ≤ W1.heap.size := HB1.out.size;have hbu := HB1.out.trans (hu.mono hW1);refine (HR.out u).mono ?_;rintro e w'' ⟨he, hb⟩;exact .inr ⟨short, he, rfl, hbu.trans (hb.mono (Nat.le_trans hW1 hu.size))⟩
  ·intro z hz;simp only [List.mem_singleton] at hz;subst hz;simp only [Pl.selN, List.drop_succ_cons, List.drop_zero, List.mem_singleton, forall_eq];intro u hu
   go_simp
   simp only [Pl.valsAt];exact (Below.refl _ _).alloc (Nat.le_refl _) _
  ·rintro c' a' u hd ⟨rfl, hb⟩;exact ⟨hd, hb.mono hbase, fun g hg _ _ => hb.block g hg, by rw [HKK.out, show (4 + 2 * 1) * (k + 1) = q + 6 by have := HQS.out; omega, hel, if_neg hok]⟩
set_option maxRecDepth 100000 in
set_option maxHeartbeats 8000000 in
theorem entry_any2 (base G n : Nat) (vt vr ve : Value) (us : List Value) (rows : List (List Int)) (ents : List EntD) (ra : Option Addr) (rl : Nat) (ea : Option Addr) (el : Nat) (eb : List Int) (w : World)
  (hM : MBuild w base G n vt vr ve us rows ents) (hv : ∀ w', Below base w w' → VB w' ea eb) (hel : eb.length = el) (hem : el ≤ maxLen) (hk : ents.length ≤ 65536) (hbase : base ≤ w.heap.size) :
  Calls Tryz.prog 102 #[.agg #[.pointer (some ⟨G, 0, none⟩), .slice ra rl rl, .slice ea el el, .int .i64 2]] w (EntP w base G n vt vr ve us rows ents eb 2) := by
 have k1 := Bas.heap_new w (.cells #[.pointer (some ⟨G, 0, none⟩), .slice ra rl rl, .slice ea el el, .int .i64 2] 204);have BX := (Below.refl w.heap.size w).alloc (Nat.le_refl _) (.cells #[.pointer (some ⟨G, 0, none⟩), .slice ra rl rl, .slice ea el el, .int .i64 2] 204);have HB1 := Bas.hid BX;have HM1 := Bas.hid (hM.below BX);have HV := Bas.hid (fun w' (h : Below w.heap.size w w') => hv w' (h.mono hbase))
 obtain ⟨av, cv, rfl⟩ := own_slice hM.eown;obtain ⟨k, hkk⟩ : ∃ k, ents.length = k := ⟨_, rfl⟩;have HKK := Bas.hid hkk;have hhead := hM.head;rw [hkk] at hk hhead;have lG := heap_lt hhead;have kG := ((BX.block _ lG).trans hhead);obtain ⟨q, hq⟩ : ∃ q : Nat, q = 8 * k := ⟨_, rfl⟩;have hqb : q ≤ 524288 := by omega
 have hqs : 8 * (k + 1) = q + 8 := by omega
 have HQS := Bas.hid hqs;have HQ := Bas.hid hq;clear hM hv BX hhead hkk hq hqs;go_enter Tryz.func102, Tryz.ntmps102
 go_wp2_with (fail);generalize w.alloc (.cells #[.pointer (some ⟨G, 0, none⟩), .slice ra rl rl, .slice ea el el, .int .i64 2] 204) = W1 at *;have lB := heap_lt k1;have lG1 := heap_lt kG;have x2 := cell_of_heap (i := 2) k1 rfl;have x0 := cell_of_heap (i := 0) k1 rfl;have y3 := cell_of_heap (i := 3) kG rfl;by_cases hok : q + 8 ≤ el
 ·have hq3 := HQ.out;have R := fun w' => cut_ok ea el el (8 * (k : Int)) 8 w' (Nat.le_refl _) hem (by omega) (by omega) (by omega)
  simp only [show (8 * (k : Int)).toNat = q by rw [HQ.out]; omega, show ((8 : Int)).toNat = 8 from rfl] at R
  have HR := Bas.hid R;clear hq3;have hvs := fun w' (hb : Below w.heap.size w w') => (HV.out w' hb).sub q 8 (by omega)
  have HVS := Bas.hid hvs;have hsl : ((eb.drop q).take 8).length = 8 := by rw [List.length_take, List.length_drop]; omega
  obtain ⟨d0, hx0⟩ : ∃ d0 : Int, be eb (q + 0) 2 = d0 := ⟨_, rfl⟩;have HX0 := Bas.hid hx0;have hb0 := be_rng2 (HV.out w (Below.refl _ _)).byte (q + 0);rw [hx0] at hb0;obtain ⟨hl0, hh0⟩ := hb0;have HU0 := Bas.hid (fun (w' : World) (hb : Below w.heap.size w w') => (by
   have h := u16_ok (sub ea q 8) 8 8 _ 0 w' (Nat.le_refl _) (by unfold maxLen; omega) (hvs w' hb) hsl (by omega) (by omega)
   rw [show ((0 : Int)).toNat = 0 by rfl, be_sub eb q 8 0 2 (by omega), hx0] at h
   exact h : Calls Tryz.prog 49 #[.agg #[.slice (sub ea q 8) 8 8], .int .i64 0] w' fun e w'' => e = .returned (.int .i64 d0) ∧ Below w'.heap.size w' w''))
  obtain ⟨d1, hx1⟩ : ∃ d1 : Int, be eb (q + 2) 2 = d1 := ⟨_, rfl⟩;have HX1 := Bas.hid hx1;have hb1 := be_rng2 (HV.out w (Below.refl _ _)).byte (q + 2);rw [hx1] at hb1;obtain ⟨hl1, hh1⟩ := hb1;have HU1 := Bas.hid (fun (w' : World) (hb : Below w.heap.size w w') => (by
   have h := u16_ok (sub ea q 8) 8 8 _ 2 w' (Nat.le_refl _) (by unfold maxLen; omega) (hvs w' hb) hsl (by omega) (by omega)
   rw [show ((2 : Int)).toNat = 2 by rfl, be_sub eb q 8 2 2 (by omega), hx1] at h
   exact h : Calls Tryz.prog 49 #[.agg #[.slice (sub ea q 8) 8 8], .int .i64 2] w' fun e w'' => e = .returned (.int .i64 d1) ∧ Below w'.heap.size w' w''))
  obtain ⟨d2, hx2⟩ : ∃ d2 : Int, be eb (q + 4) 2 = d2 := ⟨_, rfl⟩;have HX2 := Bas.hid hx2;have hb2 := be_rng2 (HV.out w (Below.refl _ _)).byte (q + 4);rw [hx2] at hb2;obtain ⟨hl2, hh2⟩ := hb2;have HU2 := Bas.hid (fun (w' : World) (hb : Below w.heap.size w w') => (by
   have h := u16_ok (sub ea q 8) 8 8 _ 4 w' (Nat.le_refl _) (by unfold maxLen; omega) (hvs w' hb) hsl (by omega) (by omega)
   rw [show ((4 : Int)).toNat = 4 by rfl, be_sub eb q 8 4 2 (by omega), hx2] at h
   exact h : Calls Tryz.prog 49 #[.agg #[.slice (sub ea q 8) 8 8], .int .i64 4] w' fun e w'' => e = .returned (.int .i64 d2) ∧ Below w'.heap.size w' w''))
  obtain ⟨d3, hx3⟩ : ∃ d3 : Int, be eb (q + 6) 2 = d3 := ⟨_, rfl⟩;have HX3 := Bas.hid hx3;have hb3 := be_rng2 (HV.out w (Below.refl _ _)).byte (q + 6);rw [hx3] at hb3;obtain ⟨hl3, hh3⟩ := hb3;have HU3 := Bas.hid (fun (w' : World) (hb : Below w.heap.size w w') => (by
   have h := u16_ok (sub ea q 8) 8 8 _ 6 w' (Nat.le_refl _) (by unfold maxLen; omega) (hvs w' hb) hsl (by omega) (by omega)
   rw [show ((6 : Int)).toNat = 6 by rfl, be_sub eb q 8 6 2 (by omega), hx3] at h
   exact h : Calls Tryz.prog 49 #[.agg #[.slice (sub ea q 8) 8 8], .int .i64 6] w' fun e w'' => e = .returned (.int .i64 d3) ∧ Below w'.heap.size w' w''))
  have HEN : Hid (entAt eb 2 k = ⟨d0, d1, d2, d3⟩) := by
   unfold Hid entAt;rw [show (4 + 2 * 2) * k = q by rw [HQ.out]]
   simp [← HX0.out, ← HX1.out, ← HX2.out, ← HX3.out]
  generalize sub ea q 8 = S at *;clear R hvs hsl hx0 hx1 hx2 hx3;refine' Pl.region_v1 54 [] [0, 1, 2, 3, 4, 5, 6, 7, 8, 9, 10, 11] 12 4 [13] _ (fun v u => ∃ g, v = .pointer (some ⟨g, 0, none⟩) ∧ W1.heap.size ≤ g ∧ u.heap[g]? = some (.cells #[.slice none 0 0] 52 (0, 0))) (by kernel_rfl) (by kernel_rfl) (by simp) (fun _ _ _ _ e h => ⟨e ▸ h.1, h.2⟩) ?_ ?_ ?_ ?_
  rotate_left
  ·intro I F hI hF;simp only [Pl.selN, List.nil_append, List.drop_succ_cons, List.drop_zero];have z2 := fun i => hF.cell lB x2 i
   have z0 := fun i => hF.cell lB x0 i
   have z3 := fun i => hF.cell lG1 y3 i
   repeat (go_big_quiet_step ((go_at_call 53; with_reducible exact hF.call (HR.out _))))
   refine wpQuiet_nil ?_;rfl
  ·rintro v u u' ⟨g, h1, h2, h3⟩ hu hu';exact ⟨g, h1, h2, (hu'.block g (heap_lt h3)).trans h3⟩
  ·simp only [Pl.selN, List.drop_succ_cons, List.drop_zero, List.mem_singleton, forall_eq];intro u hu
   go_simp
   simp only [Pl.valsAt];exact ⟨(Below.refl _ _).alloc (Nat.le_refl _) _, _, rfl, hu.size, Bas.heap_new _ _⟩
  ·intro v u hu hv;obtain ⟨T, rfl, hT, kT⟩ := hv;simp only [Pl.selN, List.drop_succ_cons, List.drop_zero, Act.put, List.setIfInBounds_toArray, List.set_cons_zero, List.set_cons_succ];have HB2 := Bas.hid (HB1.out.trans (hu.mono HB1.out.size));have HM2 := Bas.hid (HM1.out.below hu);have k2 := (hu.block _ lB).trans k1;have c0 := cell_of_heap (i := 0) kT rfl;have f0 := free_of_heap (i := 0) kT;have hbT : w.heap.size ≤ T := by have := HB1.out.size; omega
   have hwT : w.heap.size ≠ T := by have := heap_lt k1; omega
   have hGT : G ≠ T := by omega
   clear k1 kG lB lG1 x0 x2 y3 HR HM1 HB1;go_wp2_with (fail);have kT3 := heap_set (i := 0) kT (.slice S 8 8);have k3 := (Below.heap_setCell u ⟨T, 0, none⟩ (.slice S 8 8) w.heap.size (by exact hwT)).trans k2
   have HB3 := Bas.hid (HB2.out.setCell (p := ⟨T, 0, none⟩) hbT (.slice S 8 8));have HM3 := Bas.hid (HM2.out.setT kT (by decide) (by decide) hGT (own_ty HM2.out.eown kT (by decide)) 0 (.slice S 8 8))
   generalize u.setCell ⟨T, 0, none⟩ (.slice S 8 8) = W3 at *;have kT3 : W3.heap[T]? = some (.cells #[.slice S 8 8] 52 (0, 0)) := kT3;clear kT c0 f0 hu k2 HB2 HM2;have hw3 : w.heap.size ≤ W3.heap.size := HB3.out.size;have t0 := cell_of_heap (i := 0) (v := .slice S 8 8) kT3 rfl;refine' Pl.region_v1 54 [] [0, 1, 2, 3, 4] 5 5 [6] _ (fun v u => ∃ g, v = .pointer (some ⟨g, 0, none⟩) ∧ W3.heap.size ≤ g ∧ u.heap[g]? = some (.cells #[.int .i64 0, .int .i64 0, .int .i64 0, .int .i64 0] 162 (0, 0))) (by kernel_rfl) (by kernel_rfl) (by simp) (fun _ _ _ _ e h => ⟨e ▸ h.1, h.2⟩) ?_ ?_ ?_ ?_
   rotate_left
   ·intro I F hI hF;simp only [Pl.selN, List.nil_append, List.drop_succ_cons, List.drop_zero];have z2 := fun i => hF.cell (heap_lt kT3) t0 i
    repeat (go_big_quiet_step ((go_at_call 49; first | with_reducible exact hF.call (HU0.out _ (HB3.out.trans ((hF.bel _).mono hw3))) | with_reducible exact hF.call (HU1.out _ (HB3.out.trans ((hF.bel _).mono hw3))))))
    refine wpQuiet_nil ?_;rfl
   ·rintro v u u' ⟨g, h1, h2, h3⟩ hu hu';exact ⟨g, h1, h2, (hu'.block g (heap_lt h3)).trans h3⟩
   ·simp only [Pl.selN, List.drop_succ_cons, List.drop_zero, List.mem_singleton, forall_eq];intro u hu
    go_simp
    simp only [Pl.valsAt];exact ⟨(Below.refl _ _).alloc (Nat.le_refl _) _, _, rfl, hu.size, Bas.heap_new _ _⟩
   ·intro v u hu hv;obtain ⟨E, rfl, hE, kE⟩ := hv;simp only [Pl.selN, List.drop_succ_cons, List.drop_zero, Act.put, List.setIfInBounds_toArray, List.set_cons_zero, List.set_cons_succ];have HB4 := Bas.hid (HB3.out.trans (hu.mono hw3));have HM4 := Bas.hid (HM3.out.below hu);have kB4 := (hu.block _ (heap_lt k3)).trans k3;have kT4 := (hu.block _ (heap_lt kT3)).trans kT3;have hbE : w.heap.size ≤ E := Nat.le_trans hw3 hE;have hBE : w.heap.size ≠ E := by have := heap_lt k3; omega
    have hTE : T ≠ E := by have := heap_lt kT3; omega
    have hGE : G ≠ E := by have := heap_lt HM3.out.head; omega
    have HVE : Hid ((Value.slice av ents.length cv).ownBlock ≠ some E) := fun e => by have := (Row.own_block HM3.out.eown e).2; omega
    have hk4 : k = ents.length := HKK.out.symm;have HK4 := Bas.hid hk4;clear hk4 k3 kT3 t0 hu HM3 hE HB3 hw3;have c0 := cell_of_heap (i := 0) kE rfl;have c1 := cell_of_heap (i := 1) kE rfl;have c2 := cell_of_heap (i := 2) kE rfl;have c3 := cell_of_heap (i := 3) kE rfl;have f0 := free_of_heap (i := 0) kE;have f1 := free_of_heap (i := 1) kE;have f2 := free_of_heap (i := 2) kE;have f3 := free_of_heap (i := 3) kE;have cB := cell_of_heap (i := 3) (v := .int .i64 2) kB4 rfl;have cT := cell_of_heap (i := 0) (v := .slice S 8 8) kT4 rfl;go_wp2_with ((go_at_call 49; refine Row.fence ?_));refine Row.unfence ?_;obtain ⟨k5, hk5⟩ := set4 kE (.int .i64 d0) (.int .i64 d1) (.int .i64 0) (.int .i64 0);have HM5 := Bas.hid (HM4.out.off kE (by decide) (by decide) hGE HVE.out hk5)
    have HB5 := Bas.hid ((((HB4.out.setCell (p := ⟨E, 0, none⟩) hbE (.int .i64 d0)).setCell (p := ⟨E, 1, none⟩) hbE (.int .i64 d1)).setCell (p := ⟨E, 2, none⟩) hbE (.int .i64 0)).setCell (p := ⟨E, 3, none⟩) hbE (.int .i64 0));have kB5 := (hk5 _ hBE).trans kB4;have kT5 := (hk5 _ hTE).trans kT4;clear hk5 c0 c1 c2 c3 f0 f1 f2 f3 kE cB cT kB4 kT4 HM4 HB4;generalize ((((u.setCell ⟨E, 0, none⟩ (.int .i64 d0)).setCell ⟨E, 1, none⟩ (.int .i64 d1)).setCell ⟨E, 2, none⟩ (.int .i64 0)).setCell ⟨E, 3, none⟩ (.int .i64 0)) = W5 at *
    refine (HU2.out _ HB5.out).mono ?_;rintro e w6 ⟨rfl, hb6⟩;have hwb5 : w.heap.size ≤ W5.heap.size := HB5.out.size;have k6 := (hb6.block _ (heap_lt k5)).trans k5;have kT6 := (hb6.block _ (heap_lt kT5)).trans kT5;have kB6 := (hb6.block _ (heap_lt kB5)).trans kB5;have HB6 := Bas.hid (HB5.out.trans (hb6.mono hwb5));have HM6 := Bas.hid (HM5.out.below hb6);clear hb6 k5 kT5 kB5 HB5 HM5 hwb5;have cE := cell_of_heap (i := 2) (v := .int .i64 0) k6 rfl;have fE := free_of_heap (i := 2) k6;have cB := cell_of_heap (i := 3) (v := .int .i64 2) kB6 rfl;have cT := cell_of_heap (i := 0) (v := .slice S 8 8) kT6 rfl;go_wp2_with ((go_at_call 49; refine Row.fence ?_));refine Row.unfence ?_;have k5' := heap_set (i := 2) k6 (.int .i64 d2);have hk5 : ∀ g, g ≠ E → (w6.setCell ⟨E, 2, none⟩ (.int .i64 d2)).heap[g]? = w6.heap[g]? := fun g hg => Below.heap_setCell _ _ _ _ hg
    have HM5 := Bas.hid (HM6.out.off k6 (by decide) (by decide) hGE HVE.out hk5)
    have HB5 := Bas.hid (HB6.out.setCell (p := ⟨E, 2, none⟩) hbE (.int .i64 d2));have kB5 := (hk5 _ hBE).trans kB6;have kT5 := (hk5 _ hTE).trans kT6;clear hk5 k6 kB6 kT6 HM6 HB6 cE fE cB cT;generalize w6.setCell ⟨E, 2, none⟩ (.int .i64 d2) = W5 at *;have k5 : W5.heap[E]? = some (.cells #[.int .i64 d0, .int .i64 d1, .int .i64 d2, .int .i64 0] 162 (0, 0)) := k5';clear k5';refine (HU3.out _ HB5.out).mono ?_;rintro e w6 ⟨rfl, hb6⟩;have hwb5 : w.heap.size ≤ W5.heap.size := HB5.out.size;have k6 := (hb6.block _ (heap_lt k5)).trans k5;have kT6 := (hb6.block _ (heap_lt kT5)).trans kT5;have kB6 := (hb6.block _ (heap_lt kB5)).trans kB5;have HB6 := Bas.hid (HB5.out.trans (hb6.mono hwb5));have HM6 := Bas.hid (HM5.out.below hb6);clear hb6 k5 kT5 kB5 HB5 HM5 hwb5;have cE := cell_of_heap (i := 3) (v := .int .i64 0) k6 rfl;have fE := free_of_heap (i := 3) k6;have cB := cell_of_heap (i := 3) (v := .int .i64 2) kB6 rfl;have cT := cell_of_heap (i := 0) (v := .slice S 8 8) kT6 rfl;go_wp2_with (fail)
    skip
    have k5' := heap_set (i := 3) k6 (.int .i64 d3);have hk5 : ∀ g, g ≠ E → (w6.setCell ⟨E, 3, none⟩ (.int .i64 d3)).heap[g]? = w6.heap[g]? := fun g hg => Below.heap_setCell _ _ _ _ hg
    have HM5 := Bas.hid (HM6.out.off k6 (by decide) (by decide) hGE HVE.out hk5)
    have HB5 := Bas.hid (HB6.out.setCell (p := ⟨E, 3, none⟩) hbE (.int .i64 d3));have kB5 := (hk5 _ hBE).trans kB6;have kT5 := (hk5 _ hTE).trans kT6;clear hk5 k6 kB6 kT6 HM6 HB6 cE fE cB cT;generalize w6.setCell ⟨E, 3, none⟩ (.int .i64 d3) = W5 at *;have k5 : W5.heap[E]? = some (.cells #[.int .i64 d0, .int .i64 d1, .int .i64 d2, .int .i64 d3] 162 (0, 0)) := k5';clear k5';have kG5 := HM5.out.head;have hbw5 : w.heap.size ≤ W5.heap.size := HB5.out.size;have neB : (Value.slice av ents.length cv).ownBlock ≠ some w.heap.size := own_ty HM5.out.eown kB5 (by decide)
    have neG : (Value.slice av ents.length cv).ownBlock ≠ some G := own_ty HM5.out.eown kG5 (by decide)
    have RD := Bas.hid (Row.owned_keep HM5.out.eown (w' := W5.drew) (fun _ _ => rfl))
    obtain ⟨RI, RF, Ri, RF0, RFg, RFw, RFb⟩ := Pl.fam_g W5 (Value.slice av ents.length cv).ownBlock;have Rc0 := fun i => (Bas.gcell (RFb i) (b := w.heap.size) (o := 0) (heap_lt kB5) neB).trans (cell_of_heap (i := 0) (v := .pointer (some ⟨G, 0, none⟩)) kB5 rfl)
    have Rc1 := fun i => (Bas.gcell (RFb i) (b := G) (o := 3) (heap_lt kG5) neG).trans (cell_of_heap (i := 3) (v := .slice av ents.length cv) kG5 rfl)
    have Rc2 := fun i => (Bas.gcell (RFb i) (b := E) (o := 0) (heap_lt k5) HVE.out).trans (cell_of_heap (i := 0) (v := .int .i64 d0) k5 rfl)
    have Rc3 := fun i => (Bas.gcell (RFb i) (b := E) (o := 1) (heap_lt k5) HVE.out).trans (cell_of_heap (i := 1) (v := .int .i64 d1) k5 rfl)
    have Rc4 := fun i => (Bas.gcell (RFb i) (b := E) (o := 2) (heap_lt k5) HVE.out).trans (cell_of_heap (i := 2) (v := .int .i64 d2) k5 rfl)
    have Rc5 := fun i => (Bas.gcell (RFb i) (b := E) (o := 3) (heap_lt k5) HVE.out).trans (cell_of_heap (i := 3) (v := .int .i64 d3) k5 rfl)
    have RFH := Bas.hid RF0;have RhI : Nonempty RI := ⟨Ri⟩;have RFW := Bas.hid RFw;have KE := Bas.hid k5;have KB := Bas.hid kB5;clear RF0 RFw RFg RFb neB neG kG5 k5 kT5 kB5;refine Pl.region_plan0 Ri [(true, 0), (true, 1), (true, 2), (true, 3), (true, 4), (true, 5), (true, 6), (true, 7), (false, 8), (false, 9), (false, 10), (false, 11), (false, 12)] [10, 11, 12] (by kernel_rfl) (by kernel_rfl) (fun _ _ _ _ e h => ⟨e ▸ h.1, h.2⟩) RFH.out ?_
    refine Pl.head_sel0 [(true, 0), (true, 1), (true, 2), (true, 3), (true, 4), (true, 5), (true, 6), (true, 7)] (by kernel_rfl) (by kernel_rfl) ?_
    simp only [Pl.sel, List.drop_succ_cons, List.drop_zero];repeat (go_big_quiet_step (fail))
    refine wpQuiet_nil ?_;rw [← RFH.out];clear Rc0 Rc1 Rc2 Rc3 Rc4 Rc5 RFH;refine Pl.one_sel (by kernel_rfl) ?_
    intro Q' hQ' hP';simp only [Pl.sel, List.drop_succ_cons, List.drop_zero];go_wp2_with (fail);have q2 := Bas.heap_new W5 (.cells #[.int .i64 d0, .int .i64 d1, .int .i64 d2, .int .i64 d3] 162);have hb2 := ((Below.refl W5.heap.size W5).alloc (Nat.le_refl _) (.cells #[.int .i64 d0, .int .i64 d1, .int .i64 d2, .int .i64 d3] 162)).drew;have gg2 := Bas.gdrew (Bas.galloc (Bas.grefl W5 (Value.slice av ents.length cv).ownBlock) (.cells #[.int .i64 d0, .int .i64 d1, .int .i64 d2, .int .i64 d3] 162));refine hQ' _ _ (fun _ _ => RFW.out _ gg2) ?_
    clear hQ' hP' Q';have GG2 := Bas.hid gg2;clear gg2;have HM2 := Bas.hid (HM5.out.below hb2);have HB2' := Bas.hid (HB5.out.trans (hb2.mono hbw5));have q2 : (W5.alloc (.cells #[.int .i64 d0, .int .i64 d1, .int .i64 d2, .int .i64 d3] 162)).drew.heap[W5.heap.size]? = some (.cells #[.int .i64 d0, .int .i64 d1, .int .i64 d2, .int .i64 d3] 162 (0, 0)) := q2;have KE2 := Bas.hid ((hb2.block _ (heap_lt KE.out)).trans KE.out);have hw2 := hb2.size;have lE := heap_lt KE.out;clear hb2;generalize (W5.alloc (.cells #[.int .i64 d0, .int .i64 d1, .int .i64 d2, .int .i64 d3] 162)).drew = W2 at *;refine Pl.one_sel (by kernel_rfl) ?_
    intro Q' hQ' hP';simp only [Pl.sel, List.drop_succ_cons, List.drop_zero];refine Row.append_any rfl _ _ 170 162 rfl (.agg #[.int .i64 0, .int .i64 0, .int .i64 0, .int .i64 0]) 4 32 Tryz.underlying170 infoE6 rfl (by decide) base (.slice av ents.length cv) ents.length _ (by first | rfl | (rw [HKK.out]; rfl)) HM2.out.eown (.slice (some ⟨W5.heap.size, 0, none⟩) 1 1) 1 [.int .i64 d0, .int .i64 d1, .int .i64 d2, .int .i64 d3] rfl (leads_heap q2) rfl (by simp; first | exact ⟨rfl, rfl, rfl, rfl⟩ | exact ⟨rfl, rfl, rfl⟩ | exact ⟨rfl, rfl⟩) (by rw [HKK.out]; unfold maxLen; omega) (by rw [HKK.out]; omega) (by omega) ?_
    intro v7 w7 ho7 hg7 _;obtain ⟨a7, c7, rfl⟩ := own_slice ho7;have HM8 := Bas.hid (HM2.out.snocE (en := ⟨d0, d1, d2, d3⟩) hg7 ho7);have k7 := (hg7.block G (heap_lt HM2.out.head) (fun e => own_ty HM2.out.eown HM2.out.head (by decide) e.symm)).trans HM2.out.head
    have kE7 := (hg7.block E (heap_lt KE2.out) (fun e => HVE.out e.symm)).trans KE2.out
    have c2 := cell_of_heap (i := 3) k7 rfl;have f2 := free_of_heap (i := 3) k7;have cE0 := cell_of_heap (i := 0) (v := .int .i64 d0) kE7 rfl;have HFR := Bas.hid (fun (g : Nat) (h1 : g < w.heap.size) (h2 : (Value.slice av ents.length cv).ownBlock ≠ some g) => (hg7.block g (Nat.lt_of_lt_of_le h1 HB2'.out.size) (fun e => h2 e.symm)).trans (HB2'.out.block g h1))
    have HB7 := Bas.hid ((HB2'.out.mono hbase).grown hg7 (Nat.le_trans hbase HB2'.out.size) (fun g' hg' => (Row.own_block HM2.out.eown hg').1))
    have G7 := Bas.hid (Bas.gtrans GG2.out hg7);clear hg7 ho7;go_wp2_with (fail);refine hQ' _ _ (fun _ _ => RFW.out _ G7.out) ?_
    clear hQ' hP' Q' RFW G7 GG2;refine Pl.tail_sel [(false, 10), (false, 11), (false, 12)] (by kernel_rfl) (by kernel_rfl) ?_
    simp only [Pl.sel, List.drop_succ_cons, List.drop_zero];go_wp2_with (fail);have HB8 := Bas.hid (HB7.out.setCell (p := ⟨G, 3, none⟩) HM2.out.low (.slice a7 (ents.length + 1) c7));go_ret;refine ⟨HB8.out, fun g h1 h2 h3 => (Below.heap_setCell w7 ⟨G, 3, none⟩ (.slice a7 (ents.length + 1) c7) g (by exact h2)).trans (HFR.out g h1 (by first | exact h3 | (rw [HKK.out]; exact h3))), ?_⟩
    have hz := HM8.out;rw [HKK.out] at hz;rw [HKK.out, show (4 + 2 * 2) * (k + 1) = q + 8 by have := HQS.out; omega, hel, if_pos hok]
    rw [HEN.out];exact ⟨_, rfl, hz⟩
 ·have hq3 := HQ.out;have R := fun w' => cut_no ea el el (8 * (k : Int)) 8 w' (Nat.le_refl _) hem (by omega)
  have HR := Bas.hid R;clear hq3 R;refine' Pl.region_vh 54 [] [0, 1, 2, 3, 4, 5, 6, 7, 8, 9, 10] [(12, 4)] 11 21 [13] _ (fun ch w' => ch = short ∧ Below w.heap.size w w') (by kernel_rfl) (by kernel_rfl) (by kernel_rfl) (by simp) (fun _ _ _ _ e h => ⟨e ▸ h.1, h.2⟩) ?_ ?_ ?_ ?_
  rotate_left
  ·intro I F hI hF;simp only [Pl.selN, List.nil_append, List.drop_succ_cons, List.drop_zero];have z2 := fun i => hF.cell lB x2 i
   have z0 := fun i => hF.cell lB x0 i
   have z3 := fun i => hF.cell lG1 y3 i
   repeat (go_big_quiet_step (fail))
   refine wpQuiet_nil ?_;rfl
  ·simp only [Pl.selN, List.drop_succ_cons, List.drop_zero, List.mem_singleton, forall_eq];intro u hu
   go_simp
   simp only [Pl.valsAt];have hW1 : w.heap.size ≤ W1.heap.size := HB1.out.size;have hbu := HB1.out.trans (hu.mono hW1);refine (HR.out u).mono ?_;rintro e w'' ⟨he, hb⟩;exact .inr ⟨short, he, rfl, hbu.trans (hb.mono (Nat.le_trans hW1 hu.size))⟩
  ·intro z hz;simp only [List.mem_singleton] at hz;subst hz;simp only [Pl.selN, List.drop_succ_cons, List.drop_zero, List.mem_singleton, forall_eq];intro u hu
   go_simp
   simp only [Pl.valsAt];exact (Below.refl _ _).alloc (Nat.le_refl _) _
  ·rintro c' a' u hd ⟨rfl, hb⟩;exact ⟨hd, hb.mono hbase, fun g hg _ _ => hb.block g hg, by rw [HKK.out, show (4 + 2 * 2) * (k + 1) = q + 8 by have := HQS.out; omega, hel, if_neg hok]⟩
end St
namespace Ln
open Ch
theorem len_any (base g : Nat) (sv : Value) (xs : List Gl) (w : World) (h : LineAt w base g sv xs) :
  Calls Tryz.prog 14 #[.pointer (some ⟨g, 0, none⟩)] w fun e w' => e = .returned (.int .i64 xs.length) ∧ w = w' := by
 obtain ⟨ad, cp, rfl⟩ := own_slice h.own;have g0 := cell_of_heap (i := 0) (v := .slice ad xs.length cp) h.head rfl;have lg := h.lt;clear h;go_enter Tryz.func14, Tryz.ntmps14
 go_wp2_with (fail);go_ret;exact ⟨rfl, rfl⟩
def inL (n : Nat) (i : Int) : Bool := decide (0 ≤ i ∧ i < n)
set_option maxRecDepth 100000 in
theorem in_any (base g : Nat) (sv : Value) (xs : List Gl) (i : Int) (w : World) (h : LineAt w base g sv xs) :
  Calls Tryz.prog 119 #[.pointer (some ⟨g, 0, none⟩), .int .i64 i] w fun e w' => e = .returned (.bool (inL xs.length i)) ∧ w = w' := by
 obtain ⟨ad, cp, rfl⟩ := own_slice h.own;have g0 := cell_of_heap (i := 0) (v := .slice ad xs.length cp) h.head rfl;have lg := h.lt;clear h;generalize xs.length = n at *;by_cases h0 : 0 ≤ i
 ·obtain ⟨k, rfl⟩ := Int.eq_ofNat_of_zero_le h0;have e1 : decide ((0 : Int) ≤ (k : Int)) = true := by simp
  by_cases h1 : k < n
  ·have e2 : decide ((k : Int) < (n : Int)) = true := by simp; omega
   have HI : Hid (inL n (k : Int) = true) := by unfold Hid inL; simp; omega
   go_enter Tryz.func119, Tryz.ntmps119
   go_wp2_with (fail);go_ret;exact ⟨by rw [HI.out]; rfl, rfl⟩
  ·have e2 : decide ((k : Int) < (n : Int)) = false := by simp; omega
   have HI : Hid (inL n (k : Int) = false) := by unfold Hid inL; simp; omega
   go_enter Tryz.func119, Tryz.ntmps119
   go_wp2_with (fail);go_ret;exact ⟨by rw [HI.out]; rfl, rfl⟩
 ·have e1 : decide ((0 : Int) ≤ i) = false := by simp; omega
  have HI : Hid (inL n i = false) := by unfold Hid inL; simp; omega
  go_enter Tryz.func119, Tryz.ntmps119
  go_wp2_with (fail);go_ret;exact ⟨by rw [HI.out]; rfl, rfl⟩
def atV : Option Gl → Value
 | some x => .tuple #[.agg #[.int .i64 x.1, .int .i64 x.2], .bool true]
 | none => .tuple #[.agg #[.int .i64 0, .int .i64 0], .bool false]
theorem glAt_in {xs : List Gl} {i : Int} : (inL xs.length i = true → ∃ k x, i = (k : Nat) ∧ k < xs.length ∧ xs[k]? = some x ∧ glAt xs i = some x) ∧ (inL xs.length i = false → glAt xs i = none) := by
 unfold inL glAt;constructor
 ·intro h;simp only [decide_eq_true_eq] at h;obtain ⟨k, rfl⟩ := Int.eq_ofNat_of_zero_le h.1;have hk : k < xs.length := by omega
  exact ⟨k, xs[k], rfl, hk, List.getElem?_eq_getElem hk, by rw [if_pos h.1, Int.toNat_natCast, List.getElem?_eq_getElem hk]⟩
 ·intro h;simp only [decide_eq_false_iff_not] at h;split
  ·exact List.getElem?_eq_none (by omega)
  ·rfl
theorem set2 {u : World} {E : Nat} {a b : Value} {t : TypeId} (k : u.heap[E]? = some (.cells #[a, b] t (0, 0))) (x0 x1 : Value) : ((u.setCell ⟨E, 0, none⟩ x0).setCell ⟨E, 1, none⟩ x1).heap[E]? = some (.cells #[x0, x1] t (0, 0)) ∧
  ∀ g, g ≠ E → ((u.setCell ⟨E, 0, none⟩ x0).setCell ⟨E, 1, none⟩ x1).heap[g]? = u.heap[g]? := by
 refine ⟨heap_set (heap_set k x0) x1, fun g hg => ?_⟩
 rw [Below.heap_setCell _ _ _ _ (by exact hg), Below.heap_setCell _ _ _ _ (by exact hg)]
set_option maxRecDepth 100000 in
set_option maxHeartbeats 4000000 in
theorem at_any (base g : Nat) (sv : Value) (xs : List Gl) (i : Int) (w : World) (h : LineAt w base g sv xs) :
  Calls Tryz.prog 111 #[.pointer (some ⟨g, 0, none⟩), .int .i64 i] w fun e w' => e = .returned (atV (glAt xs i)) ∧ Below w.heap.size w w' := by
 have hb1 := (Below.refl w.heap.size w).alloc (Nat.le_refl _) (.cells #[.int .i64 0, .int .i64 0] 47);have kN := Bas.heap_new w (.cells #[.int .i64 0, .int .i64 0] 47);have h1 := h.below hb1;have HIN := Bas.hid (in_any base g sv xs i _ h1);have HB1 := Bas.hid hb1;obtain ⟨hy, hn⟩ := glAt_in (xs := xs) (i := i);obtain ⟨b, hb⟩ : ∃ b, inL xs.length i = b := ⟨_, rfl⟩;rw [hb] at HIN hy hn;clear hb1 hb h;cases b with
 | false =>
  have HG := Bas.hid (hn rfl);clear hy hn h1;go_enter Tryz.func111, Tryz.ntmps111
  go_wp2_with (fail);generalize w.alloc (.cells #[.int .i64 0, .int .i64 0] 47) = W1 at *;refine HIN.out.mono ?_;rintro e w2 ⟨rfl, rfl⟩;have c0 := cell_of_heap (i := 0) kN rfl;have c1 := cell_of_heap (i := 1) kN rfl;have f0 := free_of_heap (i := 0) kN;have f1 := free_of_heap (i := 1) kN;have lk := heap_lt kN;go_wp2_with (fail);obtain ⟨k8, _⟩ := set2 kN (.int .i64 0) (.int .i64 0);have HB8 := Bas.hid ((HB1.out.setCell (p := ⟨w.heap.size, 0, none⟩) (Nat.le_refl _) (.int .i64 0)).setCell (p := ⟨w.heap.size, 1, none⟩) (Nat.le_refl _) (.int .i64 0));clear c0 c1 f0 f1 lk kN;generalize (W1.setCell ⟨w.heap.size, 0, none⟩ (.int .i64 0)).setCell ⟨w.heap.size, 1, none⟩ (.int .i64 0) = W8 at *;have c0 := cell_of_heap (i := 0) k8 rfl;have c1 := cell_of_heap (i := 1) k8 rfl;refine bodyPost_ret (v := .tuple #[.agg #[.int .i64 0, .int .i64 0], .bool false]) ?_ rfl ⟨by rw [HG.out]; rfl, HB8.out⟩
  rw [results_cell_tmp rfl]
  go_simp
 | true =>
  obtain ⟨k, x, rfl, hk, hx, hg⟩ := hy rfl;have HG := Bas.hid hg;obtain ⟨bo, oo, cp, rfl, hc⟩ := Row.leads_elem glC_len (Row.leads_owned h1.own) hx (by omega)
  have d0 := hc 0 _ rfl;have d1 := hc 1 _ rfl;simp only [Nat.add_zero] at d0;have g0 := cell_of_heap (i := 0) (v := .slice (some ⟨bo, oo, none⟩) xs.length cp) h1.head rfl;have lg := h1.lt;have lb := World.block_lt_of_cell? _ _ d0;have e1 : decide ((k : Int) < (xs.length : Int)) = true := by simp; omega
  clear hy hn h1 hc hg hx;obtain ⟨x0, x1⟩ := x;simp only at d0 d1;generalize xs.length = n at *;go_enter Tryz.func111, Tryz.ntmps111
  go_wp2_with (fail);generalize w.alloc (.cells #[.int .i64 0, .int .i64 0] 47) = W1 at *;refine HIN.out.mono ?_;rintro e w2 ⟨rfl, rfl⟩;have c0 := cell_of_heap (i := 0) kN rfl;have c1 := cell_of_heap (i := 1) kN rfl;have f0 := free_of_heap (i := 0) kN;have f1 := free_of_heap (i := 1) kN;have lk := heap_lt kN;go_wp2_with (fail);obtain ⟨k8, _⟩ := set2 kN (.int .i64 x0) (.int .i64 x1);have HB8 := Bas.hid ((HB1.out.setCell (p := ⟨w.heap.size, 0, none⟩) (Nat.le_refl _) (.int .i64 x0)).setCell (p := ⟨w.heap.size, 1, none⟩) (Nat.le_refl _) (.int .i64 x1));clear c0 c1 f0 f1 lk kN d0 d1 g0 lg lb;generalize (W1.setCell ⟨w.heap.size, 0, none⟩ (.int .i64 x0)).setCell ⟨w.heap.size, 1, none⟩ (.int .i64 x1) = W8 at *;have c0 := cell_of_heap (i := 0) k8 rfl;have c1 := cell_of_heap (i := 1) k8 rfl;refine bodyPost_ret (v := .tuple #[.agg #[.int .i64 x0, .int .i64 x1], .bool true]) ?_ rfl ⟨by rw [HG.out]; rfl, HB8.out⟩
  rw [results_cell_tmp rfl]
  go_simp
theorem own_putN {w : World} {base size g n cp : Nat} {e : TypeId} {xs : List Value} (h : w.ownsRow base e size (.slice (some ⟨g, 0, none⟩) n cp) n xs) (i : Nat) (v : Value) : (w.setCell ⟨g, i, none⟩ v).ownsRow base e size (.slice (some ⟨g, 0, none⟩) n cp) n (xs.set i v) := by
 obtain ⟨h1, ⟨h2, _⟩ | ⟨g', cap, cur, hv, hb, hh, hc, hx, hs, ht⟩⟩ := h
 ·cases h2
 ·cases hv;have q1 := heap_set (i := i) hh v;refine ⟨by simpa using h1, .inr ⟨g, cp, _, rfl, hb, q1, hc, hx, by simpa using hs, ?_⟩⟩
  rw [← ht];simp [List.take_set]
theorem glC_set1 : ∀ (l : List Gl) (k : Nat) (a : Int) (x : Gl), l[k]? = some x → (l.flatMap glC).set (k * 2) (.int .i64 a) = (l.set k (a, x.2)).flatMap glC
 | [], _, _, _, h => by simp at h
 | y :: l, 0, a, x, h => by
  have : y = x := by simpa using h
  subst this;simp [glC]
 | y :: l, k + 1, a, x, h => by
  have ih := glC_set1 l k a x (by simpa using h)
  rw [List.set_cons_succ, List.flatMap_cons, List.flatMap_cons, ← ih, show (k + 1) * 2 = k * 2 + 2 by omega]
  simp [glC]
theorem glC_set2 : ∀ (l : List Gl) (k : Nat) (a : Int) (x : Gl), l[k]? = some x → (l.flatMap glC).set (k * 2 + 1) (.int .i64 a) = (l.set k (x.1, a)).flatMap glC
 | [], _, _, _, h => by simp at h
 | y :: l, 0, a, x, h => by
  have : y = x := by simpa using h
  subst this;simp [glC]
 | y :: l, k + 1, a, x, h => by
  have ih := glC_set2 l k a x (by simpa using h)
  rw [List.set_cons_succ, List.flatMap_cons, List.flatMap_cons, ← ih, show (k + 1) * 2 + 1 = k * 2 + 1 + 2 by omega]
  simp [glC]
theorem line_row {w : World} {base g : Nat} {sv : Value} {xs : List Gl} (h : LineAt w base g sv xs) {k : Nat} {x : Gl} (hx : xs[k]? = some x) :
  ∃ bo cp, sv = .slice (some ⟨bo, 0, none⟩) xs.length cp ∧ bo < w.heap.size ∧ base ≤ bo ∧ bo ≠ g ∧ w.cell? ⟨bo, k * 2, none⟩ = some (.int .i64 x.1) ∧ w.cell? ⟨bo, k * 2 + 1, none⟩ = some (.int .i64 x.2) ∧ ∀ i, w.frozen? ⟨bo, i, none⟩ = false := by
 have hne := h.ne;have hL := Row.leads_elem glC_len (Row.leads_owned h.own) hx (by omega)
 obtain ⟨hlen, ⟨h2, h3⟩ | ⟨bo, cap, cur, hv, hb, hh, hc, hm, hs, ht⟩⟩ := h.own
 ·have h4 := glC_flat xs;rw [h3] at hlen;have := (List.getElem?_eq_some_iff.1 hx).1;omega
 ·obtain ⟨b2, o2, c2, hv2, hcell⟩ := hL;rw [hv] at hv2;cases hv2;refine ⟨bo, cap, hv, heap_lt hh, hb, fun e => hne (by rw [hv, e]; rfl), by simpa using hcell 0 _ rfl, by simpa using hcell 1 _ rfl, fun i => free_of_heap hh⟩
theorem line_put {w : World} {base g bo cp : Nat} {xs : List Gl} (h : LineAt w base g (.slice (some ⟨bo, 0, none⟩) xs.length cp) xs) (hgb : bo ≠ g) (j : Nat) (v : Value) (ys : List Gl) (hy : (xs.flatMap glC).set j v = ys.flatMap glC) (hyl : ys.length = xs.length) :
  LineAt (w.setCell ⟨bo, j, none⟩ v) base g (.slice (some ⟨bo, 0, none⟩) xs.length cp) ys ∧ Mod (blk g (.slice (some ⟨bo, 0, none⟩) xs.length cp)) w (w.setCell ⟨bo, j, none⟩ v) := by
 refine ⟨⟨(Below.heap_setCell _ _ _ _ (by exact fun e => hgb e.symm)).trans h.head, ?_, h.low⟩, (Mod.refl _ w).set v (.inl (.inr rfl))⟩
 have h2 := own_putN h.own j v;rw [hy] at h2;rw [hyl];exact h2
theorem lnTo_put {w : World} {base g bo cp : Nat} {xs ys : List Gl} {w' : World} (h : LineAt w' base g (.slice (some ⟨bo, 0, none⟩) xs.length cp) ys ∧ Mod (blk g (.slice (some ⟨bo, 0, none⟩) xs.length cp)) w w') : LnTo w base g (.slice (some ⟨bo, 0, none⟩) xs.length cp) ys w' :=
 ⟨_, h.1, h.2, fun _ h => .inl h⟩
set_option maxRecDepth 100000 in
set_option maxHeartbeats 4000000 in
theorem set_any (base g : Nat) (sv : Value) (xs : List Gl) (i id : Int) (w : World) (h : LineAt w base g sv xs) :
  Calls Tryz.prog 91 #[.pointer (some ⟨g, 0, none⟩), .int .i64 i, .int .i64 id] w fun e w' => e = .returned (.bool (inL xs.length i)) ∧ LnTo w base g sv (setId xs i id) w' := by
 have HIN := Bas.hid (in_any base g sv xs i w h);obtain ⟨hy, hn⟩ := glAt_in (xs := xs) (i := i);obtain ⟨b, hb⟩ : ∃ b, inL xs.length i = b := ⟨_, rfl⟩;rw [hb] at HIN hy hn;cases b with
 | false =>
  have HG := Bas.hid (hn rfl);have HR : Hid (LnTo w base g sv (setId xs i id) w) := by
   unfold Hid setId;rw [HG.out];exact LnTo.refl h
  have HBB := Bas.hid hb;clear hy hn h hb;go_enter Tryz.func91, Tryz.ntmps91
  go_wp2_with (fail);refine HIN.out.mono ?_;rintro e w2 ⟨rfl, rfl⟩;go_wp2_with (fail);go_ret;exact ⟨by rw [HBB.out]; rfl, HR.out⟩
 | true =>
  obtain ⟨k, x, rfl, hk, hx, hg⟩ := hy rfl;obtain ⟨bo, cp, rfl, hlt, hbo, hne, c0, c1, hfr⟩ := line_row h hx;have HR : Hid (LnTo w base g (.slice (some ⟨bo, 0, none⟩) xs.length cp) (setId xs (k : Int) id) (w.setCell ⟨bo, k * 2, none⟩ (.int .i64 id))) := by
   unfold Hid setId;rw [hg];exact lnTo_put (line_put h hne _ _ _ (glC_set1 xs k id x hx) (by simp))
  have HBB := Bas.hid hb;have g0 := cell_of_heap (i := 0) (v := .slice (some ⟨bo, 0, none⟩) xs.length cp) h.head rfl;have lg := h.lt;have f0 := hfr (k * 2);have e1 : decide ((k : Int) < (xs.length : Int)) = true := by simp; omega
  clear hy hn h hb hg hx hfr;obtain ⟨x0, x1⟩ := x;generalize xs.length = n at *;go_enter Tryz.func91, Tryz.ntmps91
  go_wp2_with (fail);refine HIN.out.mono ?_;rintro e w2 ⟨rfl, rfl⟩;go_wp2_with (fail);go_ret;exact ⟨by rw [HBB.out]; rfl, HR.out⟩
end Ln
namespace Lk
open Vw Sk Ch
theorem infoP6 : (Tryz.prog.info? 220).map (fun i => (i.zero, i.size, i.bytes)) = some (some (.agg #[.int .i64 0, .int .i64 0, .slice none 0 0]), 3, 40) := by kernel_rfl
def PartsP (w : World) (r : Option (List PartD)) (e : Ending) (w' : World) : Prop :=
 Below w.heap.size w w' ∧ match r with
  | none => e = .panicked short
  | some ps => ∃ v vs, e = .returned v ∧ PRow w' w.heap.size v ps vs
theorem own_one {w : World} {base g : Nat} {e : TypeId} {size : Nat} {cs : List Value} (hg : w.heap[g]? = some (.cells cs.toArray e (0, 0))) (hb : base ≤ g) (hs : cs.length = size) : w.ownsRow base e size (.slice (some ⟨g, 0, none⟩) 1 1) 1 cs :=
 ⟨by simp [hs], .inr ⟨g, 1, _, rfl, hb, hg, Nat.le_refl _, by unfold maxLen; omega, by simp [hs], by simp [← hs]⟩⟩
set_option maxRecDepth 100000 in
set_option maxHeartbeats 4000000 in
theorem trimmed_any (a : Option Addr) (len cap : Nat) (bs : List Int) (gl s0 : Int) (p size : Nat) (w : World) (hl : len ≤ cap) (hc : cap ≤ maxLen) (hv : VB w a bs) (hbl : bs.length = len) (hs : size = 1 ∨ size = 2 ∨ size = 4) (hp : p ≤ 1000) :
  Calls Tryz.prog 110 #[.agg #[.slice a len cap, .int .i64 gl, .int .i64 s0], .int .i64 p, .int .i64 size] w (PartsP w (trimL bs p size)) := by
 have k1 := Bas.heap_new w (.cells #[.slice a len cap, .int .i64 gl, .int .i64 s0] 214);have BX := (Below.refl w.heap.size w).alloc (Nat.le_refl _) (.cells #[.slice a len cap, .int .i64 gl, .int .i64 s0] 214);have HV := Bas.hid hv;have HB1 := Bas.hid BX;have HS := Bas.hid hs;have e2 : ((p : Int) + 2).toNat = p + 2 := by omega
 clear BX hv hs;by_cases f1 : p + 2 ≤ len
 ·have U1 := fun (w' : World) (hb : Below w.heap.size w w') => u16_ok a len cap bs (p : Int) w' hl hc (HV.out.below hb) hbl (by omega) (by omega)
  simp only [Int.toNat_natCast] at U1;by_cases f2 : p + 4 ≤ len
  ·have U2 := fun (w' : World) (hb : Below w.heap.size w w') => u16_ok a len cap bs ((p : Int) + 2) w' hl hc (HV.out.below hb) hbl (by omega) (by omega)
   simp only [e2] at U2;have b1 := be_rng2 HV.out.byte p;have b2 := be_rng2 HV.out.byte (p + 2);obtain ⟨x, hx⟩ : ∃ x, be bs p 2 = x := ⟨_, rfl⟩;obtain ⟨m, hm⟩ := Int.eq_ofNat_of_zero_le b2.1;rw [hx] at U1 b1;rw [hm] at U2 b2;obtain ⟨b10, b11⟩ := b1;have hm65 : m ≤ 65535 := by omega
   have HTR : Hid (trimL bs p size = if x + m ≤ 65536 then (listL bs (p + 4) m size).map fun vs => if (m : Int) = 0 then [] else [⟨x, x + m - 1, vs⟩] else none) := by
    unfold Hid trimL;rw [hx, hm, Int.toNat_natCast, hbl];by_cases h : x + (m : Int) ≤ 65536
    ·rw [if_pos ⟨f2, h⟩, if_pos h]
    ·rw [if_neg (fun h' => h h'.2), if_neg h]
   have HU1 := Bas.hid U1;have HU2 := Bas.hid U2;clear U1 U2 hx hm b2;go_enter Tryz.func110, Tryz.ntmps110
   go_wp2_with (fail);generalize w.alloc (.cells #[.slice a len cap, .int .i64 gl, .int .i64 s0] 214) = W1 at *;refine' Pl.region_v0 41 [] [0, 1, 2, 3, 4, 5, 6, 7, 8, 9, 10] [] _ (by kernel_rfl) (by kernel_rfl) (by simp) (fun _ _ _ _ e h => ⟨e ▸ h.1, h.2⟩) ?_ ?_
   rotate_left
   ·intro I F hI hF;simp only [Pl.selN, List.nil_append, List.drop_succ_cons, List.drop_zero];have x1 := fun i => hF.cell (heap_lt k1) (cell_of_heap (i := 0) k1 rfl) i
    repeat (go_big_quiet_step ((go_at_call 49; first | with_reducible exact hF.call (HU1.out _ (hF.on HB1.out _)) | with_reducible exact hF.call (HU2.out _ (hF.on HB1.out _)))))
    refine wpQuiet_nil ?_;rfl
   intro u hu;simp only [Pl.selN];have k2 := (hu.block _ (heap_lt k1)).trans k1;have HB2 := Bas.hid (HB1.out.trans (hu.mono HB1.out.size));have c2 := cell_of_heap (i := 0) k2 rfl;clear hu k1 HB1 HU1 HU2;by_cases f3 : x + (m : Int) ≤ 65536
   ·have d3 : decide (x + (m : Int) ≤ 65536) = true := decide_eq_true f3;rw [if_pos f3] at HTR;have L := list_any a len cap bs (p + 4) m size u hl hc (HV.out.below HB2.out) hbl HS.out (by omega) (by omega)
    have e4 : ((p + 4 : Nat) : Int) = (p : Int) + 4 := by omega
    rw [e4] at L;have HL := Bas.hid L;clear L e4 e2;go_wp2_with (go_at_call 51; refine (need_yesb _ _ (by first | rfl | (simp; done) | (simp; omega))).mono ?_; rintro e w' ⟨rfl, rfl⟩)
    refine HL.out.mono ?_;rintro e w3 ⟨hb3, h3⟩;have HB3 := Bas.hid (HB2.out.trans (hb3.mono HB2.out.size));have hu3 : w.heap.size ≤ u.heap.size := HB2.out.size;clear hb3 HL c2 k2;cases hls : listL bs (p + 4) m size with
    | none =>
     rw [hls] at h3 HTR;simp only at h3;subst h3;go_wp2_with (fail);exact ⟨rfl, HB3.out, by rw [HTR.out]; rfl⟩
    | some vs =>
     rw [hls] at h3 HTR;simp only at h3;obtain ⟨v, rfl, ho⟩ := h3;obtain ⟨av, cv, rfl⟩ := own_slice ho;have HO := Bas.hid (Row.owned_base ho hu3);have hvl : vs.length = m := by simpa using ho.1
     have HVL := Bas.hid hvl;clear ho hls hvl;by_cases f4 : m = 0
     ·subst f4;have d4 : (((0 : Nat) : Int) == 0) = true := by decide
      go_wp2_with (fail);go_ret;exact ⟨HB3.out, by rw [HTR.out]; exact ⟨_, [], rfl, pRow_nil _ _⟩⟩
     ·have d4 : ((m : Int) == 0) = false := by simp; omega
      have HM0 : Hid ((m : Int) ≠ 0) := by unfold Hid; omega
      clear f4;go_wp2_with (fail);have k9 := Bas.heap_new w3 (.cells #[.int .i64 x, .int .i64 (x + (m : Int) - 1), .slice av m cv] 220);have hb9 := (Below.refl w3.heap.size w3).alloc (Nat.le_refl _) (.cells #[.int .i64 x, .int .i64 (x + (m : Int) - 1), .slice av m cv] 220);go_ret;refine ⟨HB3.out.trans (hb9.mono HB3.out.size), ?_⟩;rw [HTR.out];simp only [Option.map_some, if_neg HM0.out];refine ⟨_, [.slice av m cv], rfl, rfl, own_one (cs := [.int .i64 x, .int .i64 (x + (m : Int) - 1), .slice av m cv]) k9 HB3.out.size rfl, fun i q u' hq hu' => ?_⟩
      have hi0 : i = 0 := by
       have := (List.getElem?_eq_some_iff.1 hq).1;simpa using this
      subst hi0;simp at hq hu';subst hq hu';have := Row.owned_below HO.out hb9;simp only [HVL.out];exact this
   ·have d3 : decide (x + (m : Int) ≤ 65536) = false := decide_eq_false f3;rw [if_neg f3] at HTR;clear e2;go_wp2_with (go_at_call 51; refine (need_nob _ _ (by first | rfl | (simp; done) | (simp; omega))).mono ?_; rintro e w' ⟨rfl, rfl⟩)
    exact ⟨rfl, HB2.out, by rw [HTR.out]⟩
  ·have HTR : Hid (trimL bs p size = none) := by unfold Hid trimL; rw [if_neg (fun h => by omega)]
   have HU1 := Bas.hid U1;have HU2 := Bas.hid (fun (w' : World) => u16_no a len cap ((p : Int) + 2) w' hl hc (by omega))
   clear U1;go_enter Tryz.func110, Tryz.ntmps110
   go_wp2_with (fail);generalize w.alloc (.cells #[.slice a len cap, .int .i64 gl, .int .i64 s0] 214) = W1 at *;refine' Pl.region_vh 41 [] [0, 1, 2, 3, 4, 5, 6, 7] [] 8 18 [9, 10] _ (fun ch w' => ch = short ∧ Below w.heap.size w w') (by kernel_rfl) (by kernel_rfl) (by kernel_rfl) (by simp) (fun _ _ _ _ e h => ⟨e ▸ h.1, h.2⟩) ?_ ?_ ?_ ?_
   rotate_left
   ·intro I F hI hF;simp only [Pl.selN, List.nil_append, List.drop_succ_cons, List.drop_zero];have x1 := fun i => hF.cell (heap_lt k1) (cell_of_heap (i := 0) k1 rfl) i
    repeat (go_big_quiet_step ((go_at_call 49; with_reducible exact hF.call (HU1.out _ (hF.on HB1.out _)))))
    refine wpQuiet_nil ?_;rfl
   ·simp only [Pl.selN, List.drop_succ_cons, List.drop_zero, List.mem_singleton, forall_eq];intro u hu
    go_simp
    simp only [Pl.valsAt];have hbu := HB1.out.trans (hu.mono HB1.out.size);refine (HU2.out _).mono ?_;rintro e w'' ⟨he, hb⟩;exact .inr ⟨short, he, rfl, hbu.trans (hb.mono hbu.size)⟩
   ·intro x hx;cases hx
   ·rintro c a' u hd ⟨rfl, hb⟩;exact ⟨hd, hb, by rw [HTR.out]⟩
 ·have HTR : Hid (trimL bs p size = none) := by unfold Hid trimL; rw [if_neg (fun h => by omega)]
  have HU1 := Bas.hid (fun (w' : World) => u16_no a len cap (p : Int) w' hl hc (by omega))
  go_enter Tryz.func110, Tryz.ntmps110
  go_wp2_with (fail);generalize w.alloc (.cells #[.slice a len cap, .int .i64 gl, .int .i64 s0] 214) = W1 at *;refine' Pl.region_vh 41 [] [0, 1, 2, 4, 5, 6, 7] [] 3 13 [8, 9, 10] _ (fun ch w' => ch = short ∧ Below w.heap.size w w') (by kernel_rfl) (by kernel_rfl) (by kernel_rfl) (by simp) (fun _ _ _ _ e h => ⟨e ▸ h.1, h.2⟩) ?_ ?_ ?_ ?_
  rotate_left
  ·intro I F hI hF;simp only [Pl.selN, List.nil_append, List.drop_succ_cons, List.drop_zero];have x1 := fun i => hF.cell (heap_lt k1) (cell_of_heap (i := 0) k1 rfl) i
   repeat (go_big_quiet_step (fail))
   refine wpQuiet_nil ?_;rfl
  ·simp only [Pl.selN, List.drop_succ_cons, List.drop_zero, List.mem_singleton, forall_eq];intro u hu
   go_simp
   simp only [Pl.valsAt];have hbu := HB1.out.trans (hu.mono HB1.out.size);refine (HU1.out _).mono ?_;rintro e w'' ⟨he, hb⟩;exact .inr ⟨short, he, rfl, hbu.trans (hb.mono hbu.size)⟩
  ·intro x hx;cases hx
  ·rintro c a' u hd ⟨rfl, hb⟩;exact ⟨hd, hb, by rw [HTR.out]⟩
def nS (bs : List Int) : Nat := (be bs 2 2).toNat
def nN (bs : List Int) : Nat := (be bs 4 2).toNat
def nM (bs : List Int) (keys : Nat) : Nat := rowCount bs 2 (nS bs) (nN bs) keys
theorem nM_le (bs : List Int) (keys : Nat) : nM bs keys ≤ nN bs := by unfold nM rowCount; split <;> omega
def SeekP (w : World) (a : Option Addr) (bs : List Int) (need : Int) (keys : Nat) (e : Ending) (w' : World) : Prop :=
 Below w.heap.size w w' ∧ if seekOk bs need then ∃ v, e = .returned v ∧ w'.ownsRow w.heap.size 52 1 v (nM bs keys) (rowsV (sub a 12 (nN bs * nS bs)) (nS bs) (nM bs keys)) else e = .panicked short
theorem seek_any (a : Option Addr) (len cap : Nat) (bs : List Int) (need : Int) (keys : Nat) (w : World) (hl : len ≤ cap) (hc : cap ≤ maxLen) (hv : VB w a bs) (hbl : bs.length = len) (hk : (2 * keys : Int) ≤ need) :
    Calls Tryz.prog 136 #[.agg #[.slice a len cap], .int .i64 2, .int .i64 need, .int .i64 keys] w (SeekP w a bs need keys) := by
  have b2 := be_rng2 hv.byte 2
  have b4 := be_rng2 hv.byte 4
  have hs : be bs 2 2 = (nS bs : Int) := by unfold nS; omega
  have hn : be bs 4 2 = (nN bs : Int) := by unfold nN; omega
  have hmul : (nN bs : Int) * (nS bs : Int) = be bs 2 2 * be bs 4 2 := by rw [hs, hn, Int.mul_comm]
  by_cases hok : seekOk bs need
  · obtain ⟨h1, h2, h3⟩ := hok
    rw [hs] at h2
    have h4 : 12 + nN bs * nS bs ≤ len := by have : ((nN bs * nS bs : Nat) : Int) = be bs 2 2 * be bs 4 2 := by rw [← hmul]; simp
                                             omega
    have hrB : rowsB len ((2 : Nat) + 10 : Int) (nN bs) (nS bs) := by
      refine ⟨by omega, by omega, ?_, by omega, by rw [hmul]; omega⟩
      by_cases hz : (nS bs : Int) = 0
      · exact .inl hz
      · exact .inr ((Int.le_ediv_iff_mul_le (by omega)).2 (by rw [hmul]; omega))
    refine (take_yes a len cap bs 2 (nS bs) (nN bs) keys need w hl hc hv hbl (by omega) hs hn h2 (by omega) hrB).mono ?_
    rintro e w' ⟨v, he, ho, hb⟩
    exact ⟨hb, by rw [if_pos ⟨h1, by rw [hs]; exact h2, h3⟩]; exact ⟨v, he, ho⟩⟩
  · refine (take_no a len cap bs 2 need keys w hl hc hv hbl ?_).mono ?_
    · rintro ⟨h1, h2, h3, h4, h5, h6, h7, h8⟩
      refine hok ⟨by omega, h3, ?_⟩
      have e : (2 : Int).toNat + 2 = 4 := rfl
      rw [e] at h8
      rw [Int.mul_comm]
      have h9 : (2 : Int) + 10 + be bs 4 2 * be bs 2 2 ≤ len := h8
      omega
    · rintro e w' ⟨he, hb⟩
      exact ⟨hb, by rw [if_neg hok]; exact he⟩
theorem row_in {w : World} {a : Option Addr} {bs : List Int} {need : Int} {keys i : Nat} (hv : VB w a bs) (hok : seekOk bs need) (hi : i < nM bs keys) : VB w (sub (sub a 12 (nN bs * nS bs)) (nS bs * i) (nS bs)) (rowB bs 2 (nS bs) i) ∧ (rowB bs 2 (nS bs) i).length = nS bs ∧ need ≤ nS bs := by
 obtain ⟨h1, h2, h3⟩ := hok;have b2 := be_rng2 hv.byte 2;have b4 := be_rng2 hv.byte 4;have hs : be bs 2 2 = (nS bs : Int) := by unfold nS; omega
 have hn : be bs 4 2 = (nN bs : Int) := by unfold nN; omega
 have h4 : 12 + nN bs * nS bs ≤ bs.length := by
  have : ((nN bs * nS bs : Nat) : Int) = be bs 2 2 * be bs 4 2 := by rw [hs, hn, Int.mul_comm]; simp
  omega
 have hin := Nat.lt_of_lt_of_le hi (nM_le bs keys);obtain ⟨r1, r2⟩ := row_vb hv (p := 2) (s := nS bs) (n := nN bs) (by omega) i hin
 exact ⟨r1, r2, by omega⟩
theorem rowsV_get {A : Option Addr} {s m i : Nat} (hi : i < m) : (rowsV A s m)[i]? = some (rowV A s i) := by simp [rowsV, hi]
theorem own_cell {w : World} {base n : Nat} {e : TypeId} {v : Value} {xs : List Value} (h : w.ownsRow base e 1 v n xs) {i : Nat} {u : Value} (hu : xs[i]? = some u) : ∃ g cp, v = .slice (some ⟨g, 0, none⟩) n cp ∧ w.cell? ⟨g, i, none⟩ = some u ∧ n ≤ cp := by
 rcases Row.owned_parts h with ⟨_, h1, h2⟩ | ⟨g, cp, h1, _, _, h2, _, h3, _⟩
 ·subst h2; simp at hu
 ·exact ⟨g, cp, h1, h3 i u hu, h2⟩
set_option maxRecDepth 100000 in
set_option maxHeartbeats 4000000 in
theorem single_any (a : Option Addr) (len cap : Nat) (bs : List Int) (gl : Int) (size : Nat) (w : World) (hl : len ≤ cap) (hc : cap ≤ maxLen) (hv : VB w a bs) (hbl : bs.length = len) (hs : size = 2 ∨ size = 4) :
  Calls Tryz.prog 109 #[.agg #[.slice a len cap, .int .i64 gl, .int .i64 size]] w (PartsP w (singL bs size)) := by
 have k1 := Bas.heap_new w (.cells #[.slice a len cap, .int .i64 gl, .int .i64 size] 214);have BX := (Below.refl w.heap.size w).alloc (Nat.le_refl _) (.cells #[.slice a len cap, .int .i64 gl, .int .i64 size] 214);have HV := Bas.hid hv;have HB1 := Bas.hid BX;have HS := Bas.hid hs;have SK := seek_any a len cap bs (2 + size) 1 _ hl hc (hv.below BX) hbl (by omega)
 have HSK := Bas.hid SK;have hs4 : size ≤ 4 := by omega
 clear BX hv hs SK;go_enter Tryz.func109, Tryz.ntmps109
 go_wp2_with (fail);generalize w.alloc (.cells #[.slice a len cap, .int .i64 gl, .int .i64 size] 214) = W1 at *;refine HSK.out.mono ?_;rintro e w2 ⟨hb2, h2⟩;have HB2 := Bas.hid (HB1.out.trans (hb2.mono HB1.out.size));have k2 := (hb2.block _ (heap_lt k1)).trans k1;have hw1 : w.heap.size ≤ W1.heap.size := HB1.out.size;clear hb2 k1 HSK HB1;by_cases hok : seekOk bs (2 + size)
 ·rw [if_pos hok] at h2;obtain ⟨v, rfl, ho⟩ := h2;have HSL : Hid (singL bs size = some ((List.range (nM bs 1)).map fun i => singOne size (rowB bs 2 (nS bs) i))) := by unfold Hid singL; rw [if_pos hok]; rfl
  have HOK := Bas.hid hok;have hM : nM bs 1 ≤ 65535 := by have := nM_le bs 1; have := be_rng2 HV.out.byte 4; unfold nN at *; omega
  obtain ⟨av, cv, rfl⟩ := own_slice ho;have HO := Bas.hid ho;have hcv : nM bs 1 ≤ cv := (own_cap ho).2.1;have HROW := Bas.hid (fun (i : Nat) (w' : World) (hi : i < nM bs 1) (hb : Below w.heap.size w w') => row_in (HV.out.below hb) hok hi)
  have hs65 : nS bs ≤ 65535 := by have := be_rng2 HV.out.byte 2; unfold nS; omega
  have HK2 := Bas.hid (fun (wr : World) (hb : Below w2.heap.size w2 wr) => (hb.block _ (heap_lt k2)).trans k2)
  have hw2 : w.heap.size ≤ w2.heap.size := HB2.out.size;generalize nM bs 1 = m at *;generalize sub a 12 (nN bs * nS bs) = A at *;generalize nS bs = s at *;clear ho hok k2;go_wp2_with (fail);go_loopw [3, 14] (fun vo vi wr => ∃ (i : Nat) (vo' : Value) (vs : List Value), i ≤ m ∧ vi = .int .i64 i ∧ vo' = vo ∧ PRow wr w2.heap.size vo' ((List.range i).map fun i => singOne size (rowB bs 2 s i)) vs ∧ Below w2.heap.size w2 wr) (fun _ vi _ => m - (intOf vi).toNat)
  case atStart => exact ⟨0, _, [], Nat.zero_le _, rfl, rfl, pRow_nil _ _, Below.refl _ _⟩
  case round =>
   obtain ⟨i, vo', vs, hi, rfl, hvo, hpr, hb3⟩ := hrel;rw [← hvo];clear hvo;have HB3 := Bas.hid (HB2.out.trans (hb3.mono HB2.out.size));have HB23 := Bas.hid hb3;have HPR := Bas.hid hpr;have hown := hpr.own;rw [List.length_map, List.length_range] at hown;obtain ⟨ado, cpo, rfl⟩ := own_slice hown;have HOW := Bas.hid hown;clear hb3 hpr hown;by_cases him : i < m
   ·have e1 : decide ((i : Int) < (m : Int)) = true := by simp; omega
    have e2 : decide (i < m) = true := by simp; omega
    obtain ⟨hrv, hrl, hrn⟩ := HROW.out i wr him HB3.out;obtain ⟨gv, cpv, hv1, hcell, _⟩ := own_cell (Row.owned_below HO.out HB23.out) (rowsV_get him);cases hv1;have lgv : gv < wr.heap.size := World.block_lt_of_cell? _ _ hcell;have HON : Hid ((List.range (i + 1)).map (fun i => singOne size (rowB bs 2 s i)) = (List.range i).map (fun i => singOne size (rowB bs 2 s i)) ++ [singOne size (rowB bs 2 s i)]) := by
     unfold Hid; rw [List.range_succ, List.map_append]; rfl
    unfold rowV at hcell;obtain ⟨R, hR⟩ : ∃ R, sub A (s * i) s = R := ⟨_, rfl⟩;rw [hR] at hrv hcell;obtain ⟨rb, hrb⟩ : ∃ rb, rowB bs 2 s i = rb := ⟨_, rfl⟩;rw [hrb] at hrv hrl HON;have hsm : s ≤ maxLen := by unfold maxLen; omega
    have HU := Bas.hid (fun w' (hb : Below wr.heap.size wr w') => u16_ok R s s rb 0 w' (Nat.le_refl _) hsm (hrv.below hb) hrl (by omega) (by omega))
    have HN := Bas.hid (fun w' (hb : Below wr.heap.size wr w') => number_any R s s rb 2 size w' (Nat.le_refl _) hsm (hrv.below hb) hrl (by have := HS.out; omega) (by omega))
    simp only [show Int.toNat 0 = 0 from rfl] at HU
    obtain ⟨id, hid⟩ : ∃ id, be rb 0 2 = id := ⟨_, rfl⟩;obtain ⟨x, hx⟩ : ∃ x, be rb 2 size = x := ⟨_, rfl⟩;have HONE : Hid (singOne size rb = ⟨id, id, [x]⟩) := by unfold Hid singOne; rw [hid, hx]
    rw [hid] at HU;rw [hx] at HN;clear hR hrb hid hx hrv hrl;go_wp2_with (fail);have k3 := Bas.heap_new wr (.cells #[.slice R s s] 52);have hb3 := (Below.refl wr.heap.size wr).alloc (Nat.le_refl _) (.cells #[.slice R s s] 52);generalize wr.alloc (.cells #[.slice R s s] 52) = W3 at *;obtain ⟨T, hT⟩ : ∃ T, wr.heap.size = T := ⟨_, rfl⟩;have kr : W3.heap[w.heap.size]? = _ := (hb3.block _ (heap_lt (HK2.out wr HB23.out))).trans (HK2.out wr HB23.out);refine (HU.out _ hb3).mono ?_;rintro e w4 ⟨rfl, hb4⟩;have HB34 := Bas.hid (hb3.trans (hb4.mono hb3.size));rw [hT] at k3 ⊢;have k4 := (hb4.block _ (heap_lt k3)).trans k3;have kr4 := (hb4.block _ (heap_lt kr)).trans kr;have c4 := cell_of_heap (i := 0) (v := .slice R s s) k4 rfl;have cr := cell_of_heap (i := 2) (v := .int .i64 size) kr4 rfl;clear k3 hb3 hb4 kr hcell lgv hT HU;go_wp2_with (fail);refine (HN.out _ HB34.out).mono ?_;rintro e w5 ⟨rfl, hb5⟩;have HB5 := Bas.hid (HB34.out.trans (hb5.mono HB34.out.size));clear hb5 HB34 HN c4 cr k4 kr4;go_wp2_with (at_builtin; refine Row.fence ?_);refine Row.unfence ?_;have q1 := (Below.heap_alloc (w5.alloc (.cells #[.int .i64 x] 3)) (.cells #[.int .i64 id, .int .i64 id, .slice (some ⟨w5.heap.size, 0, none⟩) 1 1] 220) _ (by simp)).trans (Bas.heap_new w5 (.cells #[.int .i64 x] 3))
    have q2 := Bas.heap_new2 w5 (.cells #[.int .i64 x] 3) (.cells #[.int .i64 id, .int .i64 id, .slice (some ⟨w5.heap.size, 0, none⟩) 1 1] 220);have hb6 := HB5.out.trans ((((Below.refl w5.heap.size w5).alloc (Nat.le_refl _) (.cells #[.int .i64 x] 3)).alloc (by simp) (.cells #[.int .i64 id, .int .i64 id, .slice (some ⟨w5.heap.size, 0, none⟩) 1 1] 220)).mono HB5.out.size)
    have hw5 : w2.heap.size ≤ w5.heap.size := Nat.le_trans HB23.out.size HB5.out.size;generalize (w5.alloc (.cells #[.int .i64 x] 3)).alloc (.cells #[.int .i64 id, .int .i64 id, .slice (some ⟨w5.heap.size, 0, none⟩) 1 1] 220) = W6 at *;have HB6 := Bas.hid (HB23.out.trans (hb6.mono HB23.out.size));have HP6 := Bas.hid (pRow_below HPR.out hb6);have HV6 := Bas.hid (own_one (base := w2.heap.size) (cs := [.int .i64 x]) q1 hw5 rfl);have HO6 := Bas.hid (Row.owned_below HOW.out hb6);clear hb6 q1;refine (Row.append_any rfl _ _ 215 220 rfl (.agg #[.int .i64 0, .int .i64 0, .slice none 0 0]) 3 40 Tryz.underlying215 infoP6 rfl (by decide) w2.heap.size (.slice ado i cpo) i _ rfl HO6.out (.slice (some ⟨w5.heap.size + 1, 0, none⟩) 1 1) 1 [.int .i64 id, .int .i64 id, .slice (some ⟨w5.heap.size, 0, none⟩) 1 1] rfl (leads_heap q2) rfl (by simp; first | exact ⟨rfl, rfl, rfl⟩ | exact ⟨rfl, rfl⟩) (by unfold maxLen; omega) (by omega) HB6.out.size ?_)
    intro v7 w7 ho7 hg7 _;have HK7 := Bas.hid fun (e : TypeId) (size n : Nat) (u : Value) (xs : List Value) (he : e ≠ 220) (ho : W6.ownsRow w2.heap.size e size u n xs) => Row.owned_keep ho fun g' hg' => hg7.block g' (Row.own_block ho hg').2 (fun e' => own_rows_ne HO6.out ho (fun h => he h.symm) e'.symm hg')
    have HP7 := Bas.hid (pRow_snoc (p := ⟨id, id, [x]⟩) HP6.out (by rw [List.length_map, List.length_range]; exact ho7) HK7.out (HK7.out _ _ _ _ _ (by decide) HV6.out))
    have HB7 := Bas.hid (HB6.out.grown hg7 HB6.out.size (fun g' hg' => (Row.own_block HO6.out hg').1))
    clear ho7 hg7 q2;go_wp2_with (fail);go_roundw
    case rel => exact ⟨i + 1, _, vs ++ [.slice (some ⟨w5.heap.size, 0, none⟩) 1 1], by omega, by go_num, rfl, by rw [HON.out, HONE.out]; exact HP7.out, HB7.out⟩
    case measure => simp [intOf]; omega
   ·have him2 : i = m := by omega
    have e1 : decide ((i : Int) < (m : Int)) = false := by simp; omega
    subst him2;go_wp2_with (fail);go_ret;exact ⟨HB3.out, by rw [HSL.out]; exact ⟨_, vs, rfl, pRow_base HPR.out hw2⟩⟩
 ·rw [if_neg hok] at h2;subst h2;have HSL : Hid (singL bs size = none) := by unfold Hid singL; rw [if_neg hok]
  go_wp2_with (fail);exact ⟨rfl, HB2.out, by rw [HSL.out]⟩
end Lk
end Go.Proofs.YtoncnjhhdlpliaaGreat
