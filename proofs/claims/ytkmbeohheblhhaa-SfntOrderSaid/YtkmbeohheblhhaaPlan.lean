/- A region that draws its order, walked by a plan: what only reads is taken first, the others come as the region forces them; the worlds in between have grown. -/
import Derived.Test.YtkmbeohheblhhaaBase
import Derived.OrdersHeld
import Derived.StillTail
namespace Go.Proofs.Ytkmbeohheblhhaa
open Go.RowKit
namespace Pl

section
variable {P : Program} {ops : Array Oper} {md : Region.Mode} {Q : Exit → Act → World → Prop} {S : World → Prop} {late : List Nat}

/-- Does operation j wait for operation i, directly or through others? -/
def waitsT (md : Region.Mode) (ops : Array Oper) : Nat → Nat → Nat → Bool
  | 0, _, _ => false
  | n + 1, j, i => match ops[j]? with
    | none => false
    | some oj => oj.after.any fun e => Region.binds md e && (e.on == i || waitsT md ops n e.on i)

def valueOp (o : Oper) : Bool := match o.op with
  | .call c => match c.callee with
    | .builtin .len | .builtin .cap | .builtin .min | .builtin .max => true
    | _ => false
  | .pick _ _ _ => true
  | .move _ | .assign _ | .load _ _ | .binOp _ _ _ _ _ | .unOp _ _ _ | .convert _ _ _ | .fieldAddr _ _ _ | .field _ _ _ | .indexAddr _ _ _ | .index _ _ _ | .slice _ _ _ _ _ | .extract _ _ | .build _ _ | .makeFunc _ _ _ | .makeInterface _ _ | .nilCheck _ => true
  | _ => false

def callOp (o : Oper) : Bool := match o.op with
  | .call c => match c.callee with
    | .builtin _ => false
    | _ => true
  | _ => false

def pureOp (o : Oper) : Bool := match o.op with
  | .move _ | .assign _ => true
  | _ => false

theorem sem_value {s : Sem Value} {w w' : World} {n : Next} (h : (do pure (Next.value (← s)) : Sem Next).run P w = .ok n w') : ∃ v, n = .value v := by
  revert h
  show ((bind s fun v => pure (Next.value v) : Sem Next).run P w = .ok n w') → _
  intro h
  have h2 : (bind s fun v => pure (Next.value v) : Sem Next).run P w = match s.run P w with
    | .ok v w1 => .ok (.value v) w1
    | .halt x w1 => .halt x w1 := by
      rw [Sem.run_bind]; cases s.run P w <;> rfl
  rw [h2] at h
  cases hs : s.run P w with
  | ok v w1 => rw [hs] at h; cases h; exact ⟨_, rfl⟩
  | halt x w1 => rw [hs] at h; cases h

theorem pick_value {s : Sem Bool} {x y : Value} {w w' : World} {n : Next} (h : (do pure (Next.value (if ← s then x else y)) : Sem Next).run P w = .ok n w') : ∃ v, n = .value v := by
  revert h
  show ((bind s fun v => pure (Next.value (if v then x else y)) : Sem Next).run P w = .ok n w') → _
  intro h
  rw [Sem.run_bind] at h
  cases hs : s.run P w with
  | ok v w1 => rw [hs] at h; cases h; exact ⟨_, rfl⟩
  | halt x w1 => rw [hs] at h; cases h

theorem builtin_value {ρ : Operand → Value} {c : Call} {ty : TypeId} {w w' : World} {n : Next} (hc : (match c.callee with
    | .builtin .len | .builtin .cap | .builtin .min | .builtin .max => true
    | _ => false) = true) (h : (do let d ← resolve ρ c ty; invoke d.target d.args : Sem Next).run P w = .ok n w') : ∃ v, n = .value v := by
  revert h
  show ((bind (resolve ρ c ty) fun d => invoke d.target d.args : Sem Next).run P w = .ok n w') → _
  intro h
  rw [Sem.run_bind] at h
  unfold resolve at h
  split at hc <;> rename_i hcc <;> simp only [hcc] at h
  all_goals first
    | exact sem_value h
    | cases hc

theorem nil_value {P : Program} {ρ : Operand → Value} {o : Oper} {x : Operand} {w w' : World} {n : Next} (ho : o.op = .nilCheck x) (h : (execOp ρ o).run P w = .ok n w') : ∃ v, n = .value v := by
  unfold execOp at h
  simp only [ho] at h
  split at h
  · simp [go_sem] at h
  · simp [go_sem] at h
  · simp [go_sem] at h
  · split at h
    · simp [go_sem] at h
    · simp only [Sem.run_bind] at h
      generalize Sem.run P _ w = r at h
      cases r with
      | ok a w1 =>
        simp only [Result.andThen] at h
        generalize Sem.run P (nilAhead _ _ _ _) w1 = r2 at h
        cases r2 with
        | ok b w2 =>
          simp only at h
          split at h
          · simp [go_sem] at h
          · cases h; exact ⟨_, rfl⟩
        | halt _ _ => simp at h
      | halt _ _ => simp [Result.andThen] at h
    · cases h; exact ⟨_, rfl⟩
  · cases h; exact ⟨_, rfl⟩
theorem value_run {ρ : Operand → Value} {o : Oper} {w w' : World} {n : Next} (hv : valueOp o = true) (h : (execOp ρ o).run P w = .ok n w') : ∃ v, n = .value v := by
  have h0 := h
  unfold valueOp at hv
  unfold execOp at h
  split at hv <;> rename_i ho <;> simp only [ho] at h
  all_goals first
    | exact nil_value ho h0
    | exact builtin_value hv h
    | exact sem_value h
    | exact pick_value h
    | (cases h; exact ⟨_, rfl⟩)
    | cases hv

def Closed (md : Region.Mode) (ops : Array Oper) (listed : Array Bool) : Prop :=
  listed.size = ops.size ∧ ∀ j oj, ops[j]? = some oj → listed.getD j false = true → ∀ e ∈ oj.after, Region.binds md e = true → listed.getD e.on false = true

theorem Closed.set {i : Nat} {listed : Array Bool} (inv : Closed md ops listed) (hi : i ∈ Region.ready md ops listed) : Closed md ops (listed.setIfInBounds i true) := by
  obtain ⟨_, oi, hoi, hall⟩ := mem_ready.1 hi
  refine ⟨by simp [inv.1], fun j oj hj hl e he hb => ?_⟩
  by_cases hij : i = j
  · subst hij
    have : oj = oi := Option.some.inj (hj.symm.trans hoi)
    subst this
    exact getD_set_true (hall e he hb)
  · rw [getD_set_ne false hij] at hl
    exact getD_set_true (inv.2 j oj hj hl e he hb)

theorem waitsT_listed {i : Nat} {listed : Array Bool} (inv : Closed md ops listed) : ∀ n j, listed.getD j false = true → waitsT md ops n j i = true → listed.getD i false = true := by
  intro n
  induction n with
  | zero => intro j _ h; cases h
  | succ n ih =>
    intro j hl h
    unfold waitsT at h
    split at h
    · cases h
    · rename_i oj hj
      obtain ⟨e, he, hb⟩ := Array.any_eq_true'.1 h
      simp only [Bool.and_eq_true, Bool.or_eq_true, beq_iff_eq] at hb
      have h1 := inv.2 j oj hj hl e he hb.1
      rcases hb.2 with h2 | h2
      · rw [← h2]; exact h1
      · exact ih _ h1 h2

theorem waitsT_ready {i j : Nat} {listed : Array Bool} (inv : Closed md ops listed) {n : Nat} (hj : j ∈ Region.ready md ops listed) (h : waitsT md ops n j i = true) : listed.getD i false = true := by
  cases n with
  | zero => cases h
  | succ n =>
    obtain ⟨_, oj, hoj, hall⟩ := mem_ready.1 hj
    unfold waitsT at h
    rw [hoj] at h
    obtain ⟨e, he, hb⟩ := Array.any_eq_true'.1 h
    simp only [Bool.and_eq_true, Bool.or_eq_true, beq_iff_eq] at hb
    have h1 := hall e he hb.1
    rcases hb.2 with h2 | h2
    · rw [← h2]; exact h1
    · exact waitsT_listed inv n _ h1 h2

theorem not_both {listed : Array Bool} {i : Nat} (h : listed.getD i true = false) (h' : listed.getD i false = true) : False := by
  rw [getD_both h] at h'; cases h'

/-- In every world that meets S the operation yields v and leaves the world as it is: it reads, or calls what does. -/
def sameAt (P : Program) (w : World) (v : Value) : Result Next → Prop
  | .ok (.value u) w' => w' = w ∧ u = v
  | .ok .skip w' => w' = w ∧ undef = v
  | .ok (.enter f args) w' => Calls P f args w' (fun e w'' => e = .returned v ∧ w'' = w)
  | .ok (.row row args) w' => Rows P row args w' (fun u w'' => u = v ∧ w'' = w)
  | _ => False

def YieldsC (P : Program) (ops : Array Oper) (S : World → Prop) (o : Oper) (v : Value) (a : Act) : Prop :=
  (Region.wanted o (yielded ops a.tmps) = true ∧ ∀ w, S w → sameAt P w v ((execOp a.eval o).run P w)) ∨
  (Region.wanted o (yielded ops a.tmps) = false ∧ v = undef)

theorem YieldsC.wpOp {i : Nat} {o : Oper} {v : Value} {a : Act} (hi : ops[i]? = some o) (hy : YieldsC P ops S o v a)
    {K : Act → World → Prop} {w : World} (hS : S w) (h : K (a.put o.dst v) w) : wpOp P ops Q i K a w := by
  unfold Go.wpOp
  simp only [hi]
  rcases hy with ⟨hw, hv⟩ | ⟨hw, rfl⟩
  · simp only [hw, if_true]
    refine .inl ?_
    have h1 := hv w hS
    unfold Oper.wp
    generalize (execOp a.eval o).run P w = r at *
    cases r with
    | ok n w' =>
      cases n <;> simp only [sameAt] at h1 <;> simp only [Oper.upon]
      case value u => obtain ⟨rfl, rfl⟩ := h1; exact h
      case skip => obtain ⟨rfl, rfl⟩ := h1; exact h
      case enter f args => exact h1.mono fun e w'' ⟨he, hw''⟩ => by subst he; subst hw''; exact h
      case row row args => exact Rows.mono h1 fun u w'' ⟨he, hw''⟩ => by subst he; subst hw''; exact h
    | halt x w' => exact h1.elim
  · simp only [hw, Bool.false_eq_true, if_false]; exact h

theorem YieldsC.of_same {o : Oper} {v : Value} {a a' : Act} (hy : YieldsC P ops S o v a) (he : execOp a'.eval o = execOp a.eval o)
    (hw : Region.wanted o (yielded ops a'.tmps) = Region.wanted o (yielded ops a.tmps)) : YieldsC P ops S o v a' := by
  unfold YieldsC at *
  rw [he, hw]
  exact hy

theorem upon_put {oi oj : Oper} {v : Value} {a : Act} {X : Act → Prop} (h2 : ∀ d, oi.dst = some d → oj.dst ≠ some d) (hQ : ∀ c w, Q (.panic c) (a.put oi.dst v) w → Q (.panic c) a w)
    (hX : ∀ u, X (a.put oj.dst u)) (hXd : ∀ d u, X (Act.put { a with defers := d :: a.defers } oj.dst u)) {K : Act → World → Prop} (r : Result Next) (h : oj.upon P (a.put oi.dst v) K Q r) :
    oj.upon P a (fun a' w' => X a' ∧ K (a'.put oi.dst v) w') Q r := by
  cases r with
  | ok n w' =>
    cases n <;> simp only [Oper.upon] at h ⊢
    case value u => exact ⟨hX u, by rw [← Act.put_comm a v u h2]; exact h⟩
    case skip => exact ⟨hX _, by rw [← Act.put_comm a v undef h2]; exact h⟩
    case defer d =>
      refine ⟨hXd d _, ?_⟩
      rw [← Act.put_comm _ v undef h2, ← Act.put_defers]
      exact h
    case enter f args =>
      refine Calls.mono h fun e w'' he => ?_
      cases e with
      | returned u => exact ⟨hX u, by rw [← Act.put_comm a v u h2]; exact he⟩
      | panicked c => exact hQ _ _ he
      | outgrown => exact he
    case row row args => exact Rows.mono h fun u w'' he => ⟨hX u, by rw [← Act.put_comm a v u h2]; exact he⟩
  | halt x w' =>
    cases x <;> simp only [Oper.upon] at h ⊢
    case panic u => exact hQ _ _ h

theorem wpOp_putC {j : Nat} {oi oj : Oper} {v : Value} (hj : ops[j]? = some oj) (hap : oi.apart ops oj = true)
    (hsi : ∀ cs b, oi.op ≠ .select cs b) (hsj : ∀ cs b, oj.op ≠ .select cs b)
    (hQ : ∀ c a w, Q (.panic c) (a.put oi.dst v) w → Q (.panic c) a w) {K : Act → World → Prop} {a : Act} {w : World}
    (hy : YieldsC P ops S oi v a) (h : wpOp P ops Q j K (a.put oi.dst v) w) :
    wpOp P ops Q j (fun a' w' => YieldsC P ops S oi v a' ∧ K (a'.put oi.dst v) w') a w := by
  obtain ⟨h1, h2, h3⟩ := Oper.apart_spec hap
  have keep : ∀ (a : Act), YieldsC P ops S oi v a → ∀ u, YieldsC P ops S oi v (a.put oj.dst u) := fun a hy u =>
    hy.of_same (execOp_put oi hsi a oj.dst u h3) (wanted_put oi a oj.dst u h3)
  unfold wpOp at *
  simp only [hj] at *
  rw [wanted_put oj a oi.dst v h1] at h
  by_cases hw : Region.wanted oj (yielded ops a.tmps) = true
  · rw [if_pos hw] at h ⊢
    rcases h with h | ⟨hasks, hlets⟩
    · refine .inl ?_
      unfold Oper.wp at *
      rw [execOp_put oj hsj a oi.dst v h1] at h
      exact upon_put h2 (fun c w => hQ c a w) (keep a hy) (fun d => keep _ (hy.of_same rfl rfl)) _ h
    · exact .inr ⟨by unfold Oper.asks at *; rw [execOp_put oj hsj a oi.dst v h1] at hasks; exact hasks, hlets⟩
  · rw [if_neg hw] at h ⊢
    exact ⟨keep a hy _, by rw [← Act.put_comm a v undef h2]; exact h⟩

/-- Whatever order is picked; each operation that is not late keeps S. -/
def wpAnyF (P : Program) (md : Region.Mode) (ops : Array Oper) (Q : Exit → Act → World → Prop) (S : World → Prop) (late : List Nat) : Nat → Array Bool → Act → World → Prop
  | 0, listed, a, w => Region.ready md ops listed = [] ∧ Q .normal a w
  | fuel + 1, listed, a, w =>
    (Region.ready md ops listed = [] → Q .normal a w) ∧
    ∀ i ∈ Region.ready md ops listed, wpOp P ops Q i (fun a' w' => (i ∉ late → S w → S w') ∧ wpAnyF P md ops Q S late fuel (listed.setIfInBounds i true) a' w') a w

theorem wpAny_of_F : ∀ (fuel : Nat) (listed : Array Bool) (a : Act) (w : World), wpAnyF P md ops Q S late fuel listed a w → wpAny P md ops Q fuel listed a w
  | 0, _, _, _, h => h
  | fuel + 1, _, _, _, h => ⟨h.1, fun i hi => wpOp_mono (fun a' w' h' => wpAny_of_F fuel _ a' w' h'.2) (h.2 i hi)⟩

/-- May i be taken first: it hangs on no world, or on S alone, and each late operation waits for it. -/
def Early (md : Region.Mode) (ops : Array Oper) (S : World → Prop) (late : List Nat) (i : Nat) (S' : World → Prop) (w : World) : Prop :=
  (∀ w, S' w) ∨ (S' = S ∧ S w ∧ ∀ j ∈ late, waitsT md ops ops.size j i = true)

theorem wpAnyF_first {S' : World → Prop} {i : Nat} {oi : Oper} {v : Value} (hi : ops[i]? = some oi) (hsel : ∀ (j : Nat) (o : Oper) cs b, ops[j]? = some o → o.op ≠ .select cs b)
    (hQ : ∀ c a d v w, Q (.panic c) (Act.put a d v) w → Q (.panic c) a w) :
    ∀ (fuel : Nat) (listed : Array Bool) (a : Act) (w : World), Closed md ops listed →
      (∀ j oj, ops[j]? = some oj → j ≠ i → listed.getD j true = false → (∀ e ∈ oj.after, Region.binds md e = true → e.on ≠ i) → oi.apart ops oj = true) →
      i ∈ Region.ready md ops listed → YieldsC P ops S' oi v a → Early md ops S late i S' w →
      wpAnyF P md ops Q S late fuel (listed.setIfInBounds i true) (a.put oi.dst v) w → wpAnyF P md ops Q S late (fuel + 1) listed a w := by
  have hSw : ∀ {w}, Early md ops S late i S' w → S' w := fun h => by
    rcases h with h | ⟨rfl, h, _⟩
    · exact h _
    · exact h
  intro fuel
  induction fuel with
  | zero =>
    intro listed a w _ _ hr hy hS H
    refine ⟨fun h => (by rw [h] at hr; cases hr), fun j hj => ?_⟩
    by_cases hji : j = i
    · subst hji; exact hy.wpOp hi (hSw hS) ⟨fun _ h => h, H⟩
    · have := ready_mono hj hji
      rw [H.1] at this
      cases this
  | succ fuel ih =>
    intro listed a w inv hfree hr hy hS H
    refine ⟨fun h => (by rw [h] at hr; cases hr), fun j hj => ?_⟩
    by_cases hji : j = i
    · subst hji; exact hy.wpOp hi (hSw hS) ⟨fun _ h => h, H⟩
    · have h1 := H.2 j (ready_mono hj hji)
      obtain ⟨hjun, oj, hoj, hall⟩ := mem_ready.1 hj
      have hiun := (mem_ready.1 hr).1
      have hnot : ∀ e ∈ oj.after, Region.binds md e = true → e.on ≠ i := fun e he hb heq => by
        have h1 := hall e he hb
        rw [heq] at h1
        exact not_both hiun h1
      have h2 := wpOp_putC hoj (hfree j oj hoj hji hjun hnot) (fun cs b => hsel i oi cs b hi) (fun cs b => hsel j oj cs b hoj) (fun c a w => hQ c a _ _ w) hy h1
      have hfree' : ∀ k ok, ops[k]? = some ok → k ≠ i → (listed.setIfInBounds j true).getD k true = false →
          (∀ e ∈ ok.after, Region.binds md e = true → e.on ≠ i) → oi.apart ops ok = true := fun k ok hk hki hun hno => by
        refine hfree k ok hk hki ?_ hno
        by_cases hjk : j = k
        · subst hjk; exact hjun
        · rw [getD_set_ne true hjk] at hun; exact hun
      refine wpOp_mono (fun a' w' h3 => ⟨h3.2.1, ?_⟩) h2
      have hS2 : Early md ops S late i S' w' := by
        rcases hS with h | ⟨rfl, h, hm⟩
        · exact .inl h
        · exact .inr ⟨rfl, h3.2.1 (fun hl => not_both hiun (waitsT_ready inv hj (hm j hl))) h, hm⟩
      refine ih (listed.setIfInBounds j true) a' w' (inv.set hj) hfree' (ready_mono hr (Ne.symm hji)) h3.1 hS2 ?_
      rw [Array.setIfInBounds_comm _ _ hji]
      exact h3.2.2

/-- The plan's steps: (true, i): i yields a value and is taken first; (false, i): i comes now, and nothing else. -/
def planB (md : Region.Mode) (ops : Array Oper) (late : List Nat) : List (Bool × Nat) → Array Bool → Bool
  | [], listed => (Region.ready md ops listed).isEmpty
  | (true, i) :: r, listed => (Region.ready md ops listed).contains i && Region.free md ops listed i &&
    (match ops[i]? with
      | none => false
      | some o => (valueOp o || callOp o) && (pureOp o || late.all fun j => waitsT md ops ops.size j i)) && planB md ops late r (listed.setIfInBounds i true)
  | (false, i) :: r, listed => decide (Region.ready md ops listed = [i]) && planB md ops late r (listed.setIfInBounds i true)

/-- The walk along the plan. -/
def walkM (P : Program) (ops : Array Oper) (Q : Exit → Act → World → Prop) (S : World → Prop) (late : List Nat) : List (Bool × Nat) → Act → World → Prop
  | [], a, w => Q .normal a w
  | (true, i) :: r, a, w => ∃ oi v, ops[i]? = some oi ∧ YieldsC P ops S oi v a ∧ walkM P ops Q S late r (a.put oi.dst v) w
  | (false, i) :: r, a, w => wpOp P ops Q i (fun a' w' => (i ∉ late → S w → S w') ∧ walkM P ops Q S late r a' w') a w

theorem yields_pure {o : Oper} {v : Value} {a : Act} (hp : pureOp o = true) (hne : ∃ w, S w) (h : YieldsC P ops S o v a) : YieldsC P ops (fun _ => True) o v a := by
  rcases h with ⟨h1, h2⟩ | h
  · refine .inl ⟨h1, fun w _ => ?_⟩
    obtain ⟨w0, h0⟩ := hne
    have h3 := h2 w0 h0
    unfold pureOp at hp
    unfold execOp at h3 ⊢
    split at hp <;> rename_i ho <;> simp only [ho] at h3 ⊢
    · obtain ⟨_, h4⟩ := h3; exact ⟨rfl, h4⟩
    · obtain ⟨_, h4⟩ := h3; exact ⟨rfl, h4⟩
    · cases hp
  · exact .inr h

theorem wpAnyF_of_plan (hsel : Region.noSelect ops = true) (hQ : ∀ c a d v w, Q (.panic c) (Act.put a d v) w → Q (.panic c) a w) (hne : ∃ w, S w) :
    ∀ (plan : List (Bool × Nat)) (listed : Array Bool) (a : Act) (w : World), Closed md ops listed → planB md ops late plan listed = true →
      ((∀ j ∈ late, listed.getD j true = false) → S w) → walkM P ops Q S late plan a w → wpAnyF P md ops Q S late plan.length listed a w
  | [], listed, a, w, _, hB, _, h => ⟨by simpa [planB] using hB, h⟩
  | (true, i) :: r, listed, a, w, inv, hB, hS, h => by
    obtain ⟨oi, v, ho, hy, hr⟩ := h
    simp only [planB, ho, Bool.and_eq_true, Bool.or_eq_true] at hB
    obtain ⟨⟨⟨h1, h2⟩, h3, h4⟩, h5⟩ := hB
    have hri : i ∈ Region.ready md ops listed := by simpa using h1
    have hiun := (mem_ready.1 hri).1
    have key := wpAnyF_of_plan hsel hQ hne r (listed.setIfInBounds i true) (a.put oi.dst v) w (inv.set hri) h5 (fun hl => hS (fun j hj => by
      by_cases hji : i = j
      · subst hji; exact hiun
      · have := hl j hj; rwa [getD_set_ne true hji] at this)) hr
    rcases h4 with h4 | h4
    · exact wpAnyF_first ho (Region.noSelect_spec hsel) hQ _ _ _ _ inv (Region.free_spec ho h2) hri (yields_pure h4 hne hy) (.inl fun _ => trivial) key
    · have h6 : ∀ j ∈ late, waitsT md ops ops.size j i = true := by simpa [List.all_eq_true] using h4
      have hSw : S w := hS fun j hj => by
        cases hl : listed.getD j true with
        | false => rfl
        | true =>
          exfalso
          have hjs : j < listed.size := by
            rw [inv.1]
            rcases Nat.lt_or_ge j ops.size with h | h
            · exact h
            · exfalso
              have := h6 j hj
              cases hz : ops.size with
              | zero => rw [hz] at this; cases this
              | succ m =>
                rw [hz] at this
                unfold waitsT at this
                rw [Array.getElem?_eq_none h] at this
                cases this
          have hl' : listed.getD j false = true := by simp [hjs] at hl ⊢; exact hl
          exact not_both hiun (waitsT_listed inv _ j hl' (h6 j hj))
      exact wpAnyF_first ho (Region.noSelect_spec hsel) hQ _ _ _ _ inv (Region.free_spec ho h2) hri hy (.inr ⟨rfl, hSw, h6⟩) key
  | (false, i) :: r, listed, a, w, inv, hB, hS, h => by
    simp only [planB, Bool.and_eq_true, decide_eq_true_eq] at hB
    obtain ⟨h1, h5⟩ := hB
    refine ⟨fun h => (by rw [h] at h1; cases h1), fun j hj => ?_⟩
    have hj' := hj
    rw [h1] at hj'
    have hji : j = i := by simpa using hj'
    subst hji
    refine wpOp_mono (fun a' w' h' => ⟨h'.1, ?_⟩) h
    refine wpAnyF_of_plan hsel hQ hne r _ a' w' (inv.set hj) h5 (fun hl => ?_) h'.2
    have hjl : j ∉ late := fun hjl => by
      have := hl j hjl
      have hs : j < listed.size := by
        rw [inv.1]
        obtain ⟨_, oj, hoj, _⟩ := mem_ready.1 hj
        exact (Array.getElem?_eq_some_iff.1 hoj).1
      simp [hs] at this
    exact h'.1 hjl (hS fun k hk => by
      have hkj : j ≠ k := fun e => hjl (e ▸ hk)
      have := hl k hk
      rwa [getD_set_ne true hkj] at this)

theorem put_defers (a : Act) (d : Option Tmp) (v : Value) : (a.put d v).defers = a.defers := by cases d <;> rfl

/-- A region that draws its order, by a plan. -/
theorem region_plan {id : Nat} {a : Act} {w : World} {l : List Oper} {I : Type} {F : I → World} (plan : List (Bool × Nat)) (late : List Nat) (hm : P.follows .mixedOrders = true)
    (hB : (Region.noSelect l.toArray && decide (plan.length = l.length) && planB .any l.toArray late plan (Array.replicate l.toArray.size false)) = true)
    (hQ : ∀ c a a' w, Act.defers a = Act.defers a' → Q (.panic c) a w → Q (.panic c) a' w) (h0 : ∃ i, w.drew = F i)
    (h : ∀ i, walkM P l.toArray Q (fun w => ∃ i, w = F i) late plan a (F i)) : (Code.region id l.toArray true).wp P Q a w := by
  simp only [Bool.and_eq_true, decide_eq_true_eq] at hB
  obtain ⟨⟨hs, hl⟩, hB⟩ := hB
  refine wp_region_any hm ?_
  obtain ⟨i, hi⟩ := h0
  change wpAny P .any l.toArray Q _ _ a w.drew
  rw [hi]
  have H := wpAnyF_of_plan (md := .any) (late := late) (S := fun w => ∃ i, w = F i) hs (fun c a d v w => hQ c _ _ w (put_defers a d v)) ⟨F i, i, rfl⟩ plan (Array.replicate l.toArray.size false) a (F i)
    ⟨by simp, fun j oj _ hl => (by rw [getD_replicate_false] at hl; cases hl)⟩ hB (fun _ => ⟨i, rfl⟩) (h i)
  have := wpAny_of_F _ _ _ _ H
  rw [hl] at this
  simpa using this

def opsOf (ops : Array Oper) (c : List (Bool × Nat)) : List Oper := c.filterMap fun x => ops[x.2]?

def fits (ops : Array Oper) : List (Bool × Nat) → List Oper → Prop
  | [], [] => True
  | x :: c, o :: l => ops[x.2]? = some o ∧ fits ops c l
  | _, _ => False

def valuesB : List (Bool × Nat) → List Oper → Bool
  | x :: c, o :: l => (!x.1 || valueOp o) && valuesB c l
  | _, _ => true

/-- A piece of the plan that is quiet in the family. -/
theorem walk_quiet {I : Type} {F : I → World} {K : Act → Prop} {rest : List (Bool × Nat)} (c : List (Bool × Nat)) (l : List Oper) (a : Act) (hl : fits ops c l) (hv : valuesB c l = true)
    (h : wpQuiet P ops (fun w => ∃ i, w = F i) K l a) (hK : ∀ a', K a' → ∀ i, walkM P ops Q (fun w => ∃ i, w = F i) late rest a' (F i)) :
    ∀ i, walkM P ops Q (fun w => ∃ i, w = F i) late (c ++ rest) a (F i) := by
  induction c generalizing l a with
  | nil =>
    intro i
    cases l with
    | nil => exact hK a h i
    | cons o l => exact hl.elim
  | cons x c ih =>
    intro i
    cases l with
    | nil => exact hl.elim
    | cons o l =>
      obtain ⟨ho, hl⟩ := hl
      simp only [valuesB, Bool.and_eq_true, Bool.or_eq_true, Bool.not_eq_true'] at hv
      obtain ⟨hv0, hv⟩ := hv
      have ih := fun a' h' => ih l a' hl hv h'
      have hq : qOp P ops (fun w => ∃ i, w = F i) x.2 (wpQuiet P ops (fun w => ∃ i, w = F i) K l) a := by unfold qOp; simp only [ho]; exact h
      obtain ⟨b, n⟩ := x
      cases b with
      | true =>
        obtain ⟨v, hy, hk⟩ := yieldsIn_of_qOp ho hq
        refine ⟨o, v, ho, ?_, ih _ hk i⟩
        rcases hy with ⟨hw, hy⟩ | hy
        · refine .inl ⟨hw, fun w hS => ?_⟩
          have h1 := hy w hS
          have hvo : valueOp o = true := by simpa using hv0
          unfold Oper.quietAt at h1
          generalize hr : (execOp a.eval o).run P w = r at h1
          cases r with
          | ok n w' =>
            obtain ⟨u, rfl⟩ := value_run hvo hr
            obtain ⟨rfl, rfl⟩ := h1
            exact ⟨rfl, rfl⟩
          | halt x w' => exact h1.elim
        · exact .inr hy
      | false =>
        exact wpOp_of_qOp ⟨i, rfl⟩ (fun a' w' ⟨j, hj⟩ hk => ⟨fun _ _ => ⟨j, hj⟩, by subst hj; exact ih a' hk j⟩) hq

/-- One operation of the plan, met in the world at hand. -/
theorem walk_one {i : Nat} (o : Oper) {a : Act} {w : World} {rest : List (Bool × Nat)} (ho : ops[i]? = some o)
    (h : ∀ Q' : Exit → Act → World → Prop, (∀ a' w', (i ∉ late → S w → S w') → walkM P ops Q S late rest a' w' → Q' .normal a' w') → (∀ c a' w', Q (.panic c) a' w' → Q' (.panic c) a' w') → wpList P ops Q' [o] a w) :
    walkM P ops Q S late ((false, i) :: rest) a w := by
  have h1 := h (fun e a' w' => match e with
    | .normal => (i ∉ late → S w → S w') ∧ walkM P ops Q S late rest a' w'
    | e => Q e a' w') (fun _ _ h1 h2 => ⟨h1, h2⟩) (fun _ _ _ h => h)
  unfold walkM wpOp
  simp only [ho]
  unfold wpList at h1
  by_cases hw : Region.wanted o (yielded ops a.tmps) = true
  · rw [if_pos hw] at h1 ⊢
    refine h1.imp (fun h2 => ?_) (fun ⟨h2, b, w', h3⟩ => ⟨h2, b, w', h3⟩)
    unfold Oper.wp at *
    generalize (execOp a.eval o).run P w = r at *
    cases r with
    | ok n w' =>
      cases n <;> simp only [Oper.upon] at h2 ⊢ <;> first
        | exact h2
        | exact Calls.mono h2 (fun e w'' he => by cases e <;> exact he)
        | exact Rows.mono h2 (fun _ _ he => he)
    | halt x w' => cases x <;> simp only [Oper.upon] at h2 ⊢ <;> exact h2
  · rw [if_neg hw] at h1 ⊢
    exact h1

/-- The late operations, at last: walked as ever, and on to what follows the region. -/
theorem walk_tail (c : List (Bool × Nat)) (l : List Oper) {a : Act} {w : World} (hl : fits ops c l) (hv : (c.all fun x => !x.1 && late.contains x.2) = true) (h : wpList P ops Q l a w) : walkM P ops Q S late c a w := by
  induction c generalizing l a w with
  | nil =>
    cases l with
    | nil => exact h
    | cons o l => exact hl.elim
  | cons x c ih =>
    cases l with
    | nil => exact hl.elim
    | cons o l =>
      obtain ⟨ho, hl⟩ := hl
      simp only [List.all_cons, Bool.and_eq_true, Bool.not_eq_true'] at hv
      obtain ⟨⟨hb, hn⟩, hv⟩ := hv
      obtain ⟨b, n⟩ := x
      obtain rfl : b = false := hb
      have h1 : wpOp P ops Q n (wpList P ops Q l) a w := by unfold wpOp; simp only [ho]; exact h
      exact wpOp_mono (fun a' w' h' => ⟨fun hn' => absurd (by simpa using hn) hn', ih l hl hv h'⟩) h1

/-- The operations of a piece of the plan. -/
def sel (l : List Oper) : List (Bool × Nat) → List Oper
  | [] => []
  | x :: c => match l.drop x.2 with
    | [] => sel l c
    | o :: _ => o :: sel l c

def okB (l : List Oper) (c : List (Bool × Nat)) : Bool := c.all fun x => match l.drop x.2 with
  | [] => false
  | o :: _ => !x.1 || valueOp o

theorem fits_sel {l : List Oper} {c : List (Bool × Nat)} (h : okB l c = true) : fits l.toArray c (sel l c) ∧ valuesB c (sel l c) = true := by
  induction c with
  | nil => exact ⟨trivial, rfl⟩
  | cons x c ih =>
    simp only [okB, List.all_cons, Bool.and_eq_true] at h
    have ih' := ih h.2
    have h1 := h.1
    unfold sel
    cases hd : l.drop x.2 with
    | nil => rw [hd] at h1; cases h1
    | cons o r =>
      rw [hd] at h1
      refine ⟨⟨?_, ih'.1⟩, ?_⟩
      · have : (l.drop x.2)[0]? = some o := by rw [hd]; rfl
        rw [List.getElem?_drop] at this
        simpa using this
      · simp only [valuesB, Bool.and_eq_true]; exact ⟨h1, ih'.2⟩

theorem quiet_sel {I : Type} {F : I → World} {l : List Oper} {a : Act} {K : Act → Prop} {rest : List (Bool × Nat)} (c : List (Bool × Nat)) (hB : okB l c = true) (h : wpQuiet P l.toArray (fun w => ∃ i, w = F i) K (sel l c) a)
    (hK : ∀ a', K a' → ∀ i, walkM P l.toArray Q (fun w => ∃ i, w = F i) late rest a' (F i)) (i : I) : walkM P l.toArray Q (fun w => ∃ i, w = F i) late (c ++ rest) a (F i) :=
  walk_quiet c _ a (fits_sel hB).1 (fits_sel hB).2 h hK i

/-- Likewise, what follows being the rest of the plan. -/
theorem head_sel {I : Type} {F : I → World} {l : List Oper} {a : Act} {rest : List (Bool × Nat)} (c : List (Bool × Nat)) (hB : okB l c = true)
    (h : wpQuiet P l.toArray (fun w => ∃ i, w = F i) (fun a' => ∀ i, walkM P l.toArray Q (fun w => ∃ i, w = F i) late rest a' (F i)) (sel l c) a) (i : I) : walkM P l.toArray Q (fun w => ∃ i, w = F i) late (c ++ rest) a (F i) :=
  quiet_sel c hB h (fun _ h => h) i

theorem tail_sel {l : List Oper} {a : Act} {w : World} (c : List (Bool × Nat)) (hB : okB l c = true) (hv : (c.all fun x => !x.1 && late.contains x.2) = true) (h : wpList P l.toArray Q (sel l c) a w) : walkM P l.toArray Q S late c a w :=
  walk_tail c _ (fits_sel hB).1 hv h

/-- The first piece of the plan is quiet in the family, and the last one is late. -/
theorem plan_two {id : Nat} {a : Act} {w : World} {l : List Oper} {I : Type} {F : I → World} (c1 c2 : List (Bool × Nat)) (late : List Nat) (hm : P.follows .mixedOrders = true)
    (hB : (Region.noSelect l.toArray && decide ((c1 ++ c2).length = l.length) && planB .any l.toArray late (c1 ++ c2) (Array.replicate l.toArray.size false)) = true)
    (hB1 : okB l c1 = true) (hB2 : okB l c2 = true) (hv : (c2.all fun x => !x.1 && late.contains x.2) = true)
    (hQ : ∀ c a a' w, Act.defers a = Act.defers a' → Q (.panic c) a w → Q (.panic c) a' w) (h0 : ∃ i, w.drew = F i)
    (h : wpQuiet P l.toArray (fun w => ∃ i, w = F i) (fun a' => ∀ i, wpList P l.toArray Q (sel l c2) a' (F i)) (sel l c1) a) : (Code.region id l.toArray true).wp P Q a w :=
  region_plan (c1 ++ c2) late hm hB hQ h0 fun i => quiet_sel c1 hB1 h (fun _ h i => tail_sel c2 hB2 hv (h i)) i

theorem one_sel {i : Nat} {l : List Oper} {a : Act} {w : World} {rest : List (Bool × Nat)} (hB : okB l [(false, i)] = true)
    (h : ∀ Q' : Exit → Act → World → Prop, (∀ a' w', (i ∉ late → S w → S w') → walkM P l.toArray Q S late rest a' w' → Q' .normal a' w') → (∀ c a' w', Q (.panic c) a' w' → Q' (.panic c) a' w') → wpList P l.toArray Q' (sel l [(false, i)]) a w) :
    walkM P l.toArray Q S late ((false, i) :: rest) a w := by
  have hf := (fits_sel hB).1
  cases hs : sel l [(false, i)] with
  | nil => rw [hs] at hf; exact hf.elim
  | cons o r =>
    rw [hs] at hf h
    cases r with
    | nil => exact walk_one o hf.1 h
    | cons _ _ => exact hf.2.elim

theorem put_inj {a : Act} {d : Tmp} {u v : Value} (hd : d < a.tmps.size) (h : a.put (some d) u = a.put (some d) v) : u = v := by
  have h1 : (a.put (some d) u).tmps[d]? = (a.put (some d) v).tmps[d]? := by rw [h]
  simpa [Act.put, hd] using h1

theorem same_one {I : Type} {F : I → World} {o : Oper} {a : Act} (d : Tmp) (v : Value) (hdst : o.dst = some d) (hg : o.guard = none) (hd : d < a.tmps.size)
    (h : ∀ j, wpList P ops (fun e a' w' => e = .normal ∧ a' = a.put (some d) v ∧ w' = F j) [o] a (F j)) : YieldsC P ops (fun w => ∃ j, w = F j) o v a := by
  have hwant : Region.wanted o (yielded ops a.tmps) = true := by simp [Region.wanted, hg]
  refine .inl ⟨hwant, ?_⟩
  rintro w ⟨j, rfl⟩
  have h1 := h j
  unfold wpList at h1
  rw [if_pos hwant] at h1
  rcases h1 with h1 | ⟨_, b, w', h2, _⟩
  · unfold Oper.wp at h1
    generalize (execOp a.eval o).run P (F j) = r at *
    cases r with
    | ok n w' =>
      cases n <;> simp only [Oper.upon, wpList, hdst] at h1 <;> simp only [sameAt]
      case value u => obtain ⟨_, h3, h4⟩ := h1; exact ⟨h4, put_inj hd h3⟩
      case skip => obtain ⟨_, h3, h4⟩ := h1; exact ⟨h4, put_inj hd h3⟩
      case enter f args =>
        refine Calls.mono h1 fun e w'' he => ?_
        cases e with
        | returned u => obtain ⟨_, h3, h4⟩ := he; exact ⟨by rw [put_inj hd h3], h4⟩
        | panicked c => exact absurd he.1 (by simp)
        | outgrown => obtain ⟨_, _, h3, _⟩ := he; exact absurd h3 (by simp)
      case row row args => exact Rows.mono h1 fun u w'' ⟨_, h3, h4⟩ => ⟨put_inj hd h3, h4⟩
      case defer d' =>
        obtain ⟨_, h3, _⟩ := h1
        have h4 := congrArg Act.defers h3
        rw [put_defers, put_defers] at h4
        simp at h4
    | halt x w' => cases x <;> simp only [Oper.upon] at h1; exact absurd h1.1 (by simp)
  · cases h2

/-- A call that leaves the world as it was, taken first. -/
theorem same_sel {I : Type} {F : I → World} {l : List Oper} {a : Act} {rest : List (Bool × Nat)} {i : Nat} (d : Tmp) (v : Value) (hd : d < a.tmps.size)
    (hB : (match l.drop i with
      | [] => false
      | o :: _ => decide (o.dst = some d) && o.guard.isNone) = true)
    (h : ∀ j, wpList P l.toArray (fun e a' w' => e = .normal ∧ a' = a.put (some d) v ∧ w' = F j) (sel l [(true, i)]) a (F j))
    {j : I} (hr : walkM P l.toArray Q (fun w => ∃ j, w = F j) late rest (a.put (some d) v) (F j)) : walkM P l.toArray Q (fun w => ∃ j, w = F j) late ((true, i) :: rest) a (F j) := by
  cases hdr : l.drop i with
  | nil => rw [hdr] at hB; cases hB
  | cons o r =>
    rw [hdr] at hB
    simp only [Bool.and_eq_true, decide_eq_true_eq, Option.isNone_iff_eq_none] at hB
    have ho : l.toArray[i]? = some o := by
      have : (l.drop i)[0]? = some o := by rw [hdr]; rfl
      rw [List.getElem?_drop] at this
      simpa using this
    have h' : ∀ j, wpList P l.toArray (fun e a' w' => e = .normal ∧ a' = a.put (some d) v ∧ w' = F j) [o] a (F j) := fun j => by
      have := h j
      simpa only [sel, hdr] using this
    have := same_one d v hB.1 hB.2 hd h'
    exact ⟨o, v, ho, this, by rw [hB.1]; exact hr⟩
end
end Pl
end Go.Proofs.Ytkmbeohheblhhaa
