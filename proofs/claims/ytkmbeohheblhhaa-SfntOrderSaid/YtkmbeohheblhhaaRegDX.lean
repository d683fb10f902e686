/- Regions that draw their order, with operations that look at others, some of them taken as soon as they can be. Written by genregdx.py. -/
import Derived.Test.YtkmbeohheblhhaaRegD
import Derived.Test.YtkmbeohheblhhaaRegX
namespace Go.Proofs.Ytkmbeohheblhhaa
open Go.RowKit
namespace Pl

section
variable {P : Program} {ops : Array Oper} {Q : Exit → Act → World → Prop} {B : Nat} {W : World}

theorem pure_vals {o : Oper} {a : Act} {w : World} {R : VP} {Z : List PanicEntry → World → Prop} (hp : pureE o = true) (h : valsAt P R Z ((execOp a.eval o).run P w)) : ∃ v, (∀ u, sameAt P u v ((execOp a.eval o).run P u)) ∧ R v w := by
  unfold pureE at hp
  unfold execOp at h ⊢
  split at hp <;> rename_i ho <;> simp only [ho] at h ⊢
  · exact ⟨_, fun _ => ⟨rfl, rfl⟩, h⟩
  · exact ⟨_, fun _ => ⟨rfl, rfl⟩, h⟩
  · unfold Instr.extract at h ⊢
    split at h
    · split at h
      · exact ⟨_, fun _ => ⟨rfl, rfl⟩, h⟩
      · exact h.elim
    · exact h.elim
  · cases hp

def eagerD (ops : Array Oper) (fx vsI eg : List Nat) : Bool := eg.all fun e => vsI.contains e && match ops[e]? with
  | none => false
  | some oe => pureE oe && oe.after.all (fun d => !Region.binds .any d || ((fx.contains d.on || vsI.contains d.on) && !eg.contains d.on)) && (List.range ops.size).all fun j => j == e || oe.after.any (fun d => Region.binds .any d && d.on == j) || match ops[j]? with
    | some oj => oj.after.any (fun d => Region.binds .any d && d.on == e) || oe.apart ops oj
    | none => true
theorem eagerD_spec {fx vsI eg : List Nat} (h : eagerD ops fx vsI eg = true) : ∀ e ∈ eg, e ∈ vsI ∧ ∃ oe, ops[e]? = some oe ∧ pureE oe = true ∧ (∀ d ∈ oe.after, Region.binds .any d = true → (d.on ∈ fx ∨ d.on ∈ vsI) ∧ d.on ∉ eg) ∧
    ∀ j oj, ops[j]? = some oj → j ≠ e → (∀ d ∈ oe.after, Region.binds .any d = true → d.on ≠ j) → (∀ d ∈ oj.after, Region.binds .any d = true → d.on ≠ e) → oe.apart ops oj = true := by
  intro e he
  simp only [eagerD, List.all_eq_true, Bool.and_eq_true] at h
  obtain ⟨h1, h2⟩ := h e he
  refine ⟨by simpa using h1, ?_⟩
  cases ho : ops[e]? with
  | none => rw [ho] at h2; cases h2
  | some oe =>
    rw [ho] at h2
    simp only [Bool.and_eq_true, List.all_eq_true, List.mem_range] at h2
    obtain ⟨⟨h3, h4⟩, h5⟩ := h2
    refine ⟨oe, rfl, h3, fun d hd hb => ?_, fun j oj hj hne hno hno2 => ?_⟩
    · have h6 := Array.all_eq_true'.1 h4 d hd
      simpa [hb] using h6
    · have h6 := h5 j (Array.getElem?_eq_some_iff.1 hj).1
      simp only [hj, Bool.or_eq_true, beq_iff_eq, hne, false_or] at h6
      rcases h6 with h6 | h6 | h6
      · obtain ⟨d, hd, hb⟩ := Array.any_eq_true'.1 h6
        simp only [Bool.and_eq_true, beq_iff_eq] at hb
        exact absurd hb.2 (hno d hd hb.1)
      · obtain ⟨d, hd, hb⟩ := Array.any_eq_true'.1 h6
        simp only [Bool.and_eq_true, beq_iff_eq] at hb
        exact absurd hb.2 (hno2 d hd hb.1)
      · exact h6

theorem coreDE {A1 : Act} {V : Nat → VP} {Z : List PanicEntry → World → Prop} {fx vsI tl eg : List Nat} (hsel : ∀ (j : Nat) (o : Oper) cs b, ops[j]? = some o → o.op ≠ .select cs b) (hB0 : B ≤ W.heap.size) (sh : ShapeD ops fx vsI tl) (hvn : vsI.Nodup)
    (hZ : ∀ c (a' : Act) w, a'.defers = A1.defers → Z c w → Q (.panic c) a' w)
    (hfx : ∀ i ∈ fx, ∃ o, ops[i]? = some o ∧ YG P ops B W o (valOf ops A1 i) A1)
    (hst : ∀ i ∈ vsI, ∀ v w w', V i v w → Below B W w → Below w.heap.size w w' → V i v w')
    (hvs : ∀ i ∈ vsI, ∃ o, ops[i]? = some o ∧ ∀ (q : List (Nat × Value)) w, Below B W w → (∀ x ∈ q, V x.1 x.2 w) → (q.map Prod.fst).Nodup → (∀ x ∈ q, x.1 ∈ vsI) → (∀ j ∈ vsI, (∃ m, waitsT .any ops m i j = true) → j ∈ q.map Prod.fst) →
      valsAt P (fun u w' => Below w.heap.size w w' ∧ V i u w') Z ((execOp (fillV ops A1 q).eval o).run P w))
    (hQ : ∀ c a a' w, Act.defers a = Act.defers a' → Q (.panic c) a w → Q (.panic c) a' w) (heg : eagerD ops fx vsI eg = true)
    (htl : ∀ t ∈ tl, (∀ h ∈ fx ++ vsI, h ∉ eg → ∃ m, waitsT .any ops m t h = true) ∨ ∃ k ∈ vsI, (∃ m, waitsT .any ops m t k = true) ∧ ∀ v w, ¬ V k v w)
    (hend : ∀ (listed : Array Bool) (q : List (Nat × Value)) (w : World), Below B W w → (q.map Prod.fst).Perm vsI → (∀ x ∈ q, V x.1 x.2 w) → listed.size = ops.size → (∀ i, listed.getD i true = false ↔ i ∈ tl) → wpAnyF P .any ops Q (Below B W) tl tl.length listed (fillV ops A1 q) w) :
    ∀ (k : Nat) (listed : Array Bool) (a : Act) (w : World) (p pv : List Nat) (q : List (Nat × Value)), k = p.length + pv.length → St P ops B W A1 V fx vsI tl listed a w p pv q → wpAnyF P .any ops Q (Below B W) tl (k + tl.length) listed a w := by
  intro k
  induction k with
  | zero =>
    intro listed a w p pv q hk st
    have hp : p = [] := List.length_eq_zero_iff.1 (by omega)
    have hpv : pv = [] := List.length_eq_zero_iff.1 (by omega)
    subst hp hpv
    have hA : a = fillV ops A1 q := st.eqA
    rw [Nat.zero_add, hA]
    exact hend listed q w st.bel (by simpa using st.vn) st.qok st.closed.1 (fun i => by simpa using st.un i)
  | succ k ih =>
    intro listed a w p pv q hk st
    rw [show k + 1 + tl.length = (k + tl.length) + 1 by omega]
    have hqv : ∀ x ∈ q, x.1 ∈ vsI := fun x hx => st.vn.mem_iff.1 (by simp; exact .inr ⟨x.2, hx⟩)
    have hvi : ∀ i ∈ pv, i ∈ vsI := fun i hi => st.vn.mem_iff.1 (by simp [hi])
    have hlt : ∀ i, i ∈ p ∨ i ∈ pv → i < ops.size := fun i hi => sh.all i (hi.elim (fun h => .inl (st.ps i h)) (fun h => .inr (.inl (hvi i h))))
    have hex : ∃ i, i ∈ p ∨ i ∈ pv := by
      cases p with
      | cons i p => exact ⟨i, .inl (by simp)⟩
      | nil =>
        cases pv with
        | cons i pv => exact ⟨i, .inr (by simp)⟩
        | nil => simp at hk
    have hne : Region.ready .any ops listed ≠ [] := by
      obtain ⟨i, hi⟩ := hex
      exact ready_neD sh st.closed.1 i (hlt i hi) ((st.un i).2 (hi.elim .inl (fun h => .inr (.inl h))))
    have hqn : (q.map Prod.fst).Nodup := by
      have := (st.vn.nodup_iff).2 hvn
      exact (List.nodup_append.1 this).2.1
    have evalsV : ∀ (i : Nat) (oi : Oper), ops[i]? = some oi → i ∈ Region.ready .any ops listed → i ∈ fx ++ vsI → execOp a.eval oi = execOp (fillV ops A1 q).eval oi := by
      intro i oi hoi hi hh
      have h1 := eval_fillF (A1 := A1) hoi (fun cs b => hsel i oi cs b hoi) p a (fun j hj => by
        rcases sh.bl1 i hh j (st.ps j hj) with h | ⟨m, h⟩
        · exact h
        · exact absurd (waitsT_ready st.closed hi h) (fun h2 => not_both ((st.un j).2 (.inl hj)) h2))
      rw [st.eqA] at h1
      exact h1.1.symm
    have predE : ∀ (i : Nat) (oi : Oper) (u : Value) (w' : World), ops[i]? = some oi → i ∈ Region.ready .any ops listed → i ∈ pv → Below w.heap.size w w' → V i u w' → wpAnyF P .any ops Q (Below B W) tl (k + tl.length) (listed.setIfInBounds i true) (a.put oi.dst u) w' := by
      intro i oi u w' hoi hi hipv hw' hV
      have hdo : dstOf ops i = oi.dst := by simp [dstOf, hoi]
      have hiv := hvi i hipv
      have hh : i ∈ fx ++ vsI := by simp [hiv]
      have hperm : pv.Perm (i :: pv.erase i) := List.perm_cons_erase hipv
      have hvn2 : (pv.erase i ++ (q ++ [(i, u)]).map Prod.fst).Perm vsI := by
        refine List.Perm.trans ?_ st.vn
        rw [List.map_append, ← List.append_assoc]
        refine List.Perm.trans List.perm_append_comm ?_
        exact (List.Perm.append_right (q.map Prod.fst) hperm).symm
      have hpvn : pv.Nodup := by
        have := (st.vn.nodup_iff).2 hvn
        exact (List.nodup_append.1 this).1
      refine ih _ _ w' p (pv.erase i) (q ++ [(i, u)]) (by have := hperm.length_eq; simp at this; omega) ⟨st.closed.set hi, fun j => ?_, st.pn, st.ps, hvn2, ?_, fun x hx => ?_, st.bel.trans (hw'.mono (Nat.le_trans hB0 st.bel.size)), (put_defers _ _ _).trans st.dfr⟩
      · by_cases hij : i = j
        · subst hij
          have h1 : i < listed.size := by rw [st.closed.1]; exact hlt i (.inr hipv)
          have h2 : i ∉ pv.erase i := fun h => ((List.Nodup.mem_erase_iff hpvn).1 h).1 rfl
          have h3 := sh.nodup
          simp only [List.nodup_append, List.mem_append] at h3
          have h4 : i ∉ p := fun h => h3.1.2.2 i (st.ps i h) i hiv rfl
          have h5 : i ∉ tl := fun h => h3.2.2 i (.inr hiv) i h rfl
          simp [h1, h2, h4, h5]
        · rw [getD_set_ne true hij, st.un j]
          have : j ∈ pv.erase i ↔ j ∈ pv := by rw [List.Nodup.mem_erase_iff hpvn]; simp [Ne.symm hij]
          rw [this]
      · have h1 := fillF_put (A1 := A1) (ops := ops) (d := oi.dst) (v := u) p a (fun j hj t ht => by
          have h3 := sh.nodup
          simp only [List.nodup_append, List.mem_append] at h3
          have hne : i ≠ j := fun h => h3.1.2.2 j (st.ps j hj) i hiv h.symm
          exact sh.dst i hh j (by simp [st.ps j hj]) hne t (by rw [hdo]; exact ht))
        rw [h1, st.eqA]
        exact fillV_put q A1 hdo
      · rcases List.mem_append.1 hx with hx | hx
        · exact hst x.1 (hqv x hx) _ _ _ (st.qok x hx) st.bel hw'
        · have : x = (i, u) := by simpa using hx
          subst this
          exact hV
    by_cases hE : ∃ e, e ∈ pv ∧ e ∈ eg ∧ e ∈ Region.ready .any ops listed
    · obtain ⟨e, hep, hee, her⟩ := hE
      obtain ⟨hef, oe, hoe, hpe, hdeps, hap⟩ := eagerD_spec heg e hee
      obtain ⟨hune, oe', hoe', halle⟩ := mem_ready.1 her
      rw [hoe] at hoe'; cases hoe'
      have e1 := evalsV e oe hoe her (by simp [hef])
      obtain ⟨o', ho', hy⟩ := hvs e hef
      rw [hoe] at ho'; cases ho'
      have hdep : ∀ j ∈ vsI, (∃ m, waitsT .any ops m e j = true) → j ∈ q.map Prod.fst := by
        intro j hj ⟨m, hm⟩
        have h1 := waitsT_ready st.closed her hm
        have h2 : j ∈ pv ++ q.map Prod.fst := st.vn.mem_iff.2 hj
        rcases List.mem_append.1 h2 with h2 | h2
        · exact absurd h1 (fun h => not_both ((st.un j).2 (.inr (.inl h2))) h)
        · exact h2
      obtain ⟨v, hs, -, hV⟩ := pure_vals hpe (hy q w st.bel st.qok hqn hqv hdep)
      have hg := sh.guard e hef oe hoe
      refine wpAnyF_first hoe hsel (fun c a d v w => hQ c _ _ w (put_defers a d v)) _ _ _ _ st.closed (fun j oj hj hne hu hno => hap j oj hj hne (fun d hd hb hdj => ?_) hno) her (.inl ⟨by simp [Region.wanted, hg], fun u _ => by rw [e1]; exact hs u⟩) (S' := fun _ => True) (.inl fun _ => trivial) (predE e oe v w hoe her hep (Below.refl _ _) hV)
      have := halle d hd hb
      rw [hdj] at this
      exact not_both hu this
    refine ⟨fun h => absurd h hne, fun i hi => ?_⟩
    obtain ⟨hun, oi, hoi, hall⟩ := mem_ready.1 hi
    have hdo : dstOf ops i = oi.dst := by simp [dstOf, hoi]
    have evalV : (i ∈ fx ++ vsI) → execOp a.eval oi = execOp (fillV ops A1 q).eval oi ∧ Region.wanted oi (yielded ops a.tmps) = Region.wanted oi (yielded ops (fillV ops A1 q).tmps) := by
      intro hh
      have h1 := eval_fillF (A1 := A1) hoi (fun cs b => hsel i oi cs b hoi) p a (fun j hj => by
        rcases sh.bl1 i hh j (st.ps j hj) with h | ⟨m, h⟩
        · exact h
        · exact absurd (waitsT_ready st.closed hi h) (fun h2 => not_both ((st.un j).2 (.inl hj)) h2))
      rw [st.eqA] at h1
      exact ⟨h1.1.symm, h1.2.symm⟩
    have evals : (i ∈ fx) → execOp a.eval oi = execOp A1.eval oi ∧ Region.wanted oi (yielded ops a.tmps) = Region.wanted oi (yielded ops A1.tmps) := by
      intro hh
      have h1 := evalV (by simp [hh])
      have h2 := eval_fillV hoi (fun cs b => hsel i oi cs b hoi) q A1 (fun x hx => sh.bl2 i hh x.1 (hqv x hx))
      exact ⟨h1.1.trans h2.1, h1.2.trans h2.2⟩
    rcases (st.un i).1 hun with hip | hipv | hitl
    · -- a fixed one
      obtain ⟨e1, e2⟩ := evals (st.ps i hip)
      obtain ⟨o', ho', hy⟩ := hfx i (st.ps i hip)
      rw [hoi] at ho'; cases ho'
      refine wpOp_YG hoi e1 e2 hy st.bel fun w' hw' => ⟨fun _ hb => hb.trans (hw'.mono (Nat.le_trans hB0 hb.size)), ?_⟩
      have hperm : p.Perm (i :: p.erase i) := List.perm_cons_erase hip
      refine ih _ _ w' (p.erase i) pv q (by have := hperm.length_eq; simp at this; omega) ⟨st.closed.set hi, fun j => ?_, st.pn.erase i, fun j hj => st.ps j (List.mem_of_mem_erase hj), st.vn, ?_, fun x hx => hst x.1 (hqv x hx) _ _ _ (st.qok x hx) st.bel hw', st.bel.trans (hw'.mono (Nat.le_trans hB0 st.bel.size)), (put_defers _ _ _).trans st.dfr⟩
      · by_cases hij : i = j
        · subst hij
          have h1 : i < listed.size := by rw [st.closed.1]; exact hlt i (.inl hip)
          have h2 : i ∉ p.erase i := fun h => ((List.Nodup.mem_erase_iff st.pn).1 h).1 rfl
          have h3 := sh.nodup
          have h4 : i ∉ vsI ∧ i ∉ tl := by
            have h5 := st.ps i hip
            simp only [List.nodup_append, List.mem_append] at h3
            exact ⟨fun h => h3.1.2.2 i h5 i h rfl, fun h => h3.2.2 i (.inl h5) i h rfl⟩
          have h6 : i ∉ pv := fun h => h4.1 (hvi i h)
          simp [h1, h2, h6, h4.2]
        · rw [getD_set_ne true hij, st.un j]
          have : j ∈ p.erase i ↔ j ∈ p := by rw [List.Nodup.mem_erase_iff st.pn]; simp [Ne.symm hij]
          rw [this]
      · have h1 := fillF_perm (A1 := A1) hperm (fun x hx y hy hxy => sh.dst x (by simp [st.ps x hx]) y (by simp [st.ps y hy]) hxy) a
        rw [← st.eqA, h1, ← hdo]
        rfl
    · -- one that is known by a predicate
      have hiv := hvi i hipv
      have hh : i ∈ fx ++ vsI := by simp [hiv]
      obtain ⟨e1, e2⟩ := evalV hh
      have hqn : (q.map Prod.fst).Nodup := by
        have := (st.vn.nodup_iff).2 hvn
        exact (List.nodup_append.1 this).2.1
      have hdep : ∀ j ∈ vsI, (∃ m, waitsT .any ops m i j = true) → j ∈ q.map Prod.fst := by
        intro j hj ⟨m, hm⟩
        have h1 := waitsT_ready st.closed hi hm
        have h2 : j ∈ pv ++ q.map Prod.fst := st.vn.mem_iff.2 hj
        rcases List.mem_append.1 h2 with h2 | h2
        · exact absurd h1 (fun h => not_both ((st.un j).2 (.inr (.inl h2))) h)
        · exact h2
      obtain ⟨o', ho', hy⟩ := hvs i hiv
      rw [hoi] at ho'; cases ho'
      refine wpOp_vals hoi (sh.guard i hiv oi hoi) e1 (hy q w st.bel st.qok hqn hqv hdep) (fun c w' hz => hZ c a w' st.dfr hz) fun u w' ⟨hw', hV⟩ => ⟨fun _ hb => hb.trans (hw'.mono (Nat.le_trans hB0 hb.size)), predE i oi u w' hoi hi hipv hw' hV⟩
    · -- the tail waits
      exfalso
      have hex2 : ∃ j, (j ∈ p ∨ j ∈ pv) ∧ j ∉ eg := by
        obtain ⟨j, hj⟩ := hex
        by_cases hje : j ∈ eg
        · obtain ⟨hjf, oj, hoj, _, hdeps, _⟩ := eagerD_spec heg j hje
          have h3 := sh.nodup
          simp only [List.nodup_append, List.mem_append] at h3
          have hjp : j ∈ pv := hj.elim (fun h => absurd rfl (h3.1.2.2 j (st.ps j h) j hjf)) id
          have hju : listed.getD j true = false := (st.un j).2 (.inr (.inl hjp))
          have hnr : ¬ ∀ e ∈ oj.after, Region.binds .any e = true → listed.getD e.on false = true := fun h => hE ⟨j, hjp, hje, mem_ready.2 ⟨hju, oj, hoj, h⟩⟩
          simp only [Classical.not_forall] at hnr
          obtain ⟨e, he, hb, hne'⟩ := hnr
          have hd := hdeps e he hb
          have h1 : e.on < listed.size := by rw [st.closed.1]; exact sh.all _ (hd.1.elim .inl (fun h => .inr (.inl h)))
          have hu : listed.getD e.on true = false := by
            simp [h1] at hne' ⊢
            exact hne'
          rcases (st.un _).1 hu with h | h | h
          · exact ⟨e.on, .inl h, hd.2⟩
          · exact ⟨e.on, .inr h, hd.2⟩
          · exact absurd rfl (h3.2.2 e.on hd.1 e.on h)
        · exact ⟨j, hj, hje⟩
      obtain ⟨j, hj, hje⟩ := hex2
      have hjh : j ∈ fx ++ vsI := by
        rcases hj with h | h
        · simp [st.ps j h]
        · simp [hvi j h]
      have hju : listed.getD j true = false := (st.un j).2 (hj.elim .inl (fun h => .inr (.inl h)))
      rcases htl i hitl with h | ⟨k', hk', ⟨m, hm⟩, hV⟩
      · obtain ⟨m, hm⟩ := h j hjh hje
        exact not_both hju (waitsT_ready st.closed hi hm)
      · have h1 := waitsT_ready st.closed hi hm
        have h2 : k' ∈ pv ++ q.map Prod.fst := st.vn.mem_iff.2 hk'
        rcases List.mem_append.1 h2 with h2 | h2
        · exact not_both ((st.un k').2 (.inr (.inl h2))) h1
        · obtain ⟨x, hx, rfl⟩ := List.mem_map.1 h2
          exact hV _ _ (st.qok x hx)

def regBDE (ops : Array Oper) (ntmps : Nat) (fl fx eg : List Nat) (vs : List (Nat × Tmp)) (tl : List Nat) (halt : Option Nat) : Bool :=
  Region.noSelect ops &&
  decide ((fl ++ (fx ++ vs.map Prod.fst ++ tl)).Nodup) && (List.range ops.size).all (fun i => (fl ++ (fx ++ vs.map Prod.fst ++ tl)).contains i) && (fl ++ (fx ++ vs.map Prod.fst ++ tl)).all (fun i => decide (i < ops.size)) &&
  (List.range ops.size).all (fun i => match ops[i]? with
    | some o => o.after.all fun e => !Region.binds .any e || decide (e.on < i)
    | none => true) &&
  (fx ++ vs.map Prod.fst).all (fun i => fx.all fun j => blind ops i j || waitsT .any ops ops.size i j) &&
  fx.all (fun i => (vs.map Prod.fst).all fun j => blind ops i j) &&
  (fx ++ vs.map Prod.fst).all (fun i => (fx ++ vs.map Prod.fst).all fun j => i == j || match dstOf ops i with
    | some t => dstOf ops j != some t
    | none => true) &&
  vs.all (fun x => (match ops[x.1]? with
    | some o => o.guard.isNone
    | none => false) && dstOf ops x.1 == some x.2) &&
  (match halt with
    | none => (tl.all fun t => (fx ++ vs.map Prod.fst).all fun h => eg.contains h || waitsT .any ops ops.size t h) && seqT ops tl ((Array.range ops.size).map fun i => !tl.contains i)
    | some k => (vs.map Prod.fst).contains k && tl.all fun t => waitsT .any ops ops.size t k) &&
  (fl ++ fx).all (fun i => blind ops i i && match dstOf ops i with
    | some d => decide (d < ntmps)
    | none => false) &&
  pairsB ops (fl ++ fx) && floatB ops fl (Array.replicate ops.size false) && fl.all (fun i => (fl ++ fx).all fun j => blind ops i j) && eagerD ops fx (vs.map Prod.fst) eg

theorem region_regDE {id : Nat} {a : Act} {w : World} {l : List Oper} (ntmps : Nat) (fl fx eg : List Nat) (vs : List (Nat × Tmp)) (tl : List Nat) (halt : Option Nat) (A1 : Act) (V : Nat → VP) (Z : List PanicEntry → World → Prop)
    (hm : P.follows .mixedOrders = true) (hB : regBDE l.toArray ntmps fl fx eg vs tl halt = true) (hnt : ntmps ≤ a.tmps.size)
    (hQ : ∀ c a a' w, Act.defers a = Act.defers a' → Q (.panic c) a w → Q (.panic c) a' w)
    (h1 : ∀ (I : Type) (F : I → World), Nonempty I → ((∀ i u, Below (F i).heap.size (F i) u → ∃ j, u = F j) ∧ ∀ i, Below w.heap.size w (F i)) → wpQuiet P l.toArray (fun u => ∃ i, u = F i) (fun a' => a' = A1) (selN l (fl ++ fx)) a)
    (hst : ∀ x ∈ vs, ∀ v u u', V x.1 v u → Below w.heap.size w u → Below u.heap.size u u' → V x.1 v u')
    (hvs : ∀ x ∈ vs, ∀ o ∈ selN l [x.1], ∀ (q : List (Nat × Value)) u, Below w.heap.size w u → (∀ y ∈ q, V y.1 y.2 u) → (q.map Prod.fst).Nodup → (∀ y ∈ q, y.1 ∈ vs.map Prod.fst) → (∀ j ∈ vs.map Prod.fst, (∃ m, waitsT .any l.toArray m x.1 j = true) → j ∈ q.map Prod.fst) →
      valsAt P (fun v u' => Below u.heap.size u u' ∧ V x.1 v u') Z ((execOp (fillV l.toArray A1 q).eval o).run P u))
    (hZ : ∀ c (a' : Act) u, a'.defers = a.defers → Z c u → Q (.panic c) a' u)
    (hhalt : ∀ k, halt = some k → ∀ v u, ¬ V k v u)
    (hend : halt = none → ∀ (f : Nat → Value) u, Below w.heap.size w u → (∀ x ∈ vs, V x.1 (f x.1) u) → wpList P l.toArray Q (selN l tl) (vs.foldl (fun a x => a.put (some x.2) (f x.1)) A1) u) : (Code.region id l.toArray true).wp P Q a w := by
  simp only [regBDE, Bool.and_eq_true, List.all_eq_true, decide_eq_true_eq, List.mem_range, Bool.or_eq_true] at hB
  obtain ⟨⟨⟨⟨⟨⟨⟨⟨⟨⟨⟨⟨⟨⟨c1, c2⟩, c3⟩, c4⟩, c5⟩, c6⟩, c7⟩, c8⟩, c9⟩, c10⟩, c11⟩, c12⟩, c13⟩, c14⟩, c15⟩ := hB
  have hsel := Region.noSelect_spec c1
  have hlen : l.toArray.size = l.length := by simp
  have c4' : ∀ i ∈ fl ++ (fx ++ vs.map Prod.fst ++ tl), i < l.length := fun i hi => by have := c4 i hi; omega
  have hfits : ∀ c : List Nat, (∀ i ∈ c, i ∈ fl ++ (fx ++ vs.map Prod.fst ++ tl)) → fitsN l.toArray c (selN l c) := fun c hc => fits_selN c (fun i hi => c4' i (hc i hi))
  have hff := hfits (fl ++ fx) (fun i hi => by simp at hi ⊢; rcases hi with h | h <;> simp [h])
  have hpair := pairsB_spec _ c12
  have hdd : ∀ i ∈ fl ++ fx, blind l.toArray i i = true ∧ ∃ d, dstOf l.toArray i = some d ∧ d < a.tmps.size := fun i hi => by
    have := c11 i hi
    refine ⟨this.1, ?_⟩
    cases hd : dstOf l.toArray i with
    | none => rw [hd] at this; cases this.2
    | some d =>
      rw [hd] at this
      have h2 : d < ntmps := by simpa using this.2
      exact ⟨d, rfl, Nat.lt_of_lt_of_le h2 hnt⟩
  have hfixed := fixed_all (P := P) (B := w.heap.size) (W := w) hsel (fl ++ fx) _ a hff h1 hpair hdd (Nat.le_refl _)
  have hA0 := act_of_walk hsel (fl ++ fx) _ a hff (h1 { u : World // Below w.heap.size w u } (fun x => x.1) ⟨⟨w, Below.refl _ _⟩⟩ ⟨fun x u hu => ⟨⟨u, x.2.trans (hu.mono x.2.size)⟩, rfl⟩, fun x => x.2⟩) hpair hdd
  have hslot := walk_slot (A1 := A1) ntmps [] [] A1 trivial (C := fun _ => True) (P := P) (ops := l.toArray) rfl (by simp)
  have hdefA : A1.defers = a.defers := by
    have key : ∀ (c : List Nat) (b : Act), (fillF l.toArray A1 b c).defers = b.defers := by
      intro c
      induction c with
      | nil => intro b; rfl
      | cons i c ih => intro b; show (fillF l.toArray A1 (b.put _ _) c).defers = b.defers; rw [ih, put_defers]
    rw [hA0]; exact key _ _
  -- the shape of what is left behind the floaters
  have hnd := List.nodup_append.1 c2
  have sh : ShapeD l.toArray fx (vs.map Prod.fst) tl := by
    refine ⟨hnd.2.1, fun i hi => c4 i (by simp at hi ⊢; rcases hi with h | h | h <;> simp [h]), fun i o ho e he hb => ?_, fun i hi j hj => ?_, fun i hi j hj => c7 i hi j hj, fun i hi j hj hne t ht => ?_, fun i hi o ho => ?_⟩
    · have hi : i < l.toArray.size := (Array.getElem?_eq_some_iff.1 ho).1
      have h2 := c5 i hi
      rw [ho] at h2
      have h3 := Array.all_eq_true'.1 h2 e he
      simp [hb] at h3
      exact h3
    · rcases c6 i hi j hj with h | h
      · exact .inl h
      · exact .inr ⟨_, h⟩
    · have h2 := c8 i hi j hj
      rw [ht] at h2
      simpa [hne] using h2
    · obtain ⟨x, hx, rfl⟩ := List.mem_map.1 hi
      have h2 := (c9 x hx).1
      rw [ho] at h2
      simpa using h2
  have hvn : (vs.map Prod.fst).Nodup := (List.nodup_append.1 (List.nodup_append.1 hnd.2.1).1).2.1
  have hfx : ∀ i ∈ fx, ∃ o, l.toArray[i]? = some o ∧ YG P l.toArray w.heap.size w o (valOf l.toArray A1 i) A1 := fun i hi => hfixed i (by simp [hi])
  have hopAt : ∀ i, i < l.length → ∃ o, l.toArray[i]? = some o ∧ selN l [i] = [o] := fun i hi => by
    have h2 := fits_selN (l := l) [i] (by simpa using hi)
    unfold selN at h2 ⊢
    cases hd : l.drop i with
    | nil => simp at hd; omega
    | cons o r => rw [hd] at h2; exact ⟨o, h2.1, rfl⟩
  have hvs' : ∀ i ∈ vs.map Prod.fst, ∃ o, l.toArray[i]? = some o ∧ ∀ (q : List (Nat × Value)) u, Below w.heap.size w u → (∀ y ∈ q, V y.1 y.2 u) → (q.map Prod.fst).Nodup → (∀ y ∈ q, y.1 ∈ vs.map Prod.fst) → (∀ j ∈ vs.map Prod.fst, (∃ m, waitsT .any l.toArray m i j = true) → j ∈ q.map Prod.fst) →
      valsAt P (fun v u' => Below u.heap.size u u' ∧ V i v u') Z ((execOp (fillV l.toArray A1 q).eval o).run P u) := fun i hi => by
    obtain ⟨x, hx, rfl⟩ := List.mem_map.1 hi
    obtain ⟨o, ho, hs⟩ := hopAt x.1 (c4' _ (by simp; exact .inr (.inr (.inl ⟨x.2, hx⟩))))
    exact ⟨o, ho, hvs x hx o (by rw [hs]; simp)⟩
  have hst' : ∀ i ∈ vs.map Prod.fst, ∀ v u u', V i v u → Below w.heap.size w u → Below u.heap.size u u' → V i v u' := fun i hi => by
    obtain ⟨x, hx, rfl⟩ := List.mem_map.1 hi
    exact hst x hx
  have htl : ∀ t ∈ tl, (∀ h ∈ fx ++ vs.map Prod.fst, h ∉ eg → ∃ m, waitsT .any l.toArray m t h = true) ∨ ∃ k ∈ vs.map Prod.fst, (∃ m, waitsT .any l.toArray m t k = true) ∧ ∀ v u, ¬ V k v u := fun t ht => by
    cases hh : halt with
    | none =>
      rw [hh] at c10
      simp only [Bool.and_eq_true, List.all_eq_true] at c10
      exact .inl fun h hm hne => ⟨_, by have h2 := c10.1 t ht h hm; simpa [hne] using h2⟩
    | some k =>
      rw [hh] at c10
      simp only [Bool.and_eq_true, List.all_eq_true] at c10
      exact .inr ⟨k, by simpa using c10.1, ⟨_, c10.2 t ht⟩, hhalt k hh⟩
  have hfin : ∀ (listed : Array Bool) (q : List (Nat × Value)) (u : World), Below w.heap.size w u → (q.map Prod.fst).Perm (vs.map Prod.fst) → (∀ x ∈ q, V x.1 x.2 u) → listed.size = l.toArray.size → (∀ i, listed.getD i true = false ↔ i ∈ tl) →
      wpAnyF P .any l.toArray Q (Below w.heap.size w) tl tl.length listed (fillV l.toArray A1 q) u := by
    intro listed q u hu hq hqv hls hun
    cases hh : halt with
    | some k =>
      exfalso
      rw [hh] at c10
      simp only [Bool.and_eq_true, List.all_eq_true] at c10
      have hk : k ∈ q.map Prod.fst := hq.mem_iff.2 (by simpa using c10.1)
      obtain ⟨x, hx, rfl⟩ := List.mem_map.1 hk
      exact hhalt _ hh _ _ (hqv x hx)
    | none =>
      rw [hh] at c10
      simp only [Bool.and_eq_true, List.all_eq_true] at c10
      have hL : listed = (Array.range l.toArray.size).map fun i => !tl.contains i := by
        refine Array.ext (by simpa using hls) (fun i hi1 hi2 => ?_)
        have h2 := hun i
        simp [hi1] at h2
        simp
        by_cases hi : i ∈ tl
        · simp [hi, h2.2 hi]
        · have h3 : ¬ listed[i] = false := fun h => hi (h2.1 h)
          simp [hi]
          simpa using h3
      refine wpAnyF_seq tl (selN l tl) listed _ u (hfits tl (fun i hi => by simp [hi])) (fun t ht => ht) (by rw [hL]; exact c10.2) ?_
      -- the values by number
      have hqn : (q.map Prod.fst).Nodup := (hq.nodup_iff).2 hvn
      obtain ⟨f, hf⟩ : ∃ f : Nat → Value, ∀ x ∈ q, f x.1 = x.2 := by
        refine ⟨fun i => ((q.find? fun x => x.1 == i).map Prod.snd).getD undef, fun x hx => ?_⟩
        have : q.find? (fun y => y.1 == x.1) = some x := by
          clear hq hqv
          induction q with
          | nil => cases hx
          | cons y q ih =>
            simp only [List.map_cons, List.nodup_cons] at hqn
            by_cases hyx : y.1 = x.1
            · rcases List.mem_cons.1 hx with h | h
              · subst h; simp
              · exact absurd (List.mem_map.2 ⟨x, h, hyx.symm⟩) hqn.1
            · have hx' : x ∈ q := by
                rcases List.mem_cons.1 hx with h | h
                · subst h; exact absurd rfl hyx
                · exact h
              rw [List.find?_cons_of_neg (by simpa using hyx)]
              exact ih hqn.2 hx'
        simp [this]
      have hq2 : q = (q.map Prod.fst).map fun i => (i, f i) := by
        rw [List.map_map]
        conv => lhs; rw [← List.map_id q]
        exact List.map_congr_left fun x hx => by simp [hf x hx]
      have hperm : q.Perm ((vs.map Prod.fst).map fun i => (i, f i)) := by
        rw [hq2]
        exact hq.map _
      have hfill : fillV l.toArray A1 q = vs.foldl (fun a x => a.put (some x.2) (f x.1)) A1 := by
        rw [fillV_perm hperm (fun x hx y hy hxy t ht => ?_) A1]
        · have key : ∀ (c : List (Nat × Tmp)) (b : Act), (∀ x ∈ c, dstOf l.toArray x.1 = some x.2) → fillV l.toArray b ((c.map Prod.fst).map fun i => (i, f i)) = c.foldl (fun a x => a.put (some x.2) (f x.1)) b := by
            intro c
            induction c with
            | nil => intro b _; rfl
            | cons x c ih =>
              intro b hc
              show fillV l.toArray (b.put (dstOf l.toArray x.1) (f x.1)) _ = _
              rw [hc x (by simp), ih _ (fun y hy => hc y (by simp [hy]))]
              rfl
          exact key vs A1 (fun x hx => by simpa using (c9 x hx).2)
        · have hxm := hq.mem_iff.1 (List.mem_map.2 ⟨x, hx, rfl⟩)
          have hym := hq.mem_iff.1 (List.mem_map.2 ⟨y, hy, rfl⟩)
          have hne : x.1 ≠ y.1 := fun h => hxy (by
            have h2 := hf x hx
            have h3 := hf y hy
            rw [h] at h2
            exact Prod.ext h (h2.symm.trans h3))
          exact sh.dst x.1 (by simp only [List.mem_append]; exact .inr hxm) y.1 (by simp only [List.mem_append]; exact .inr hym) hne t ht
      rw [hfill]
      refine hend hh f u hu fun x hx => ?_
      have hxm : x.1 ∈ q.map Prod.fst := hq.mem_iff.2 (List.mem_map.2 ⟨x, hx, rfl⟩)
      obtain ⟨y, hy, hyx⟩ := List.mem_map.1 hxm
      have := hqv y hy
      rw [← hf y hy, hyx] at this
      exact this
  refine wp_region_any hm ?_
  change wpAny P .any l.toArray Q _ _ a w.drew
  have hcl0 : Closed .any l.toArray (Array.replicate l.toArray.size false) := ⟨by simp, fun j oj _ hl => (by rw [getD_replicate_false] at hl; cases hl)⟩
  have hlenp : l.toArray.size = fl.length + ((fx.length + (vs.map Prod.fst).length) + tl.length) := by
    have h2 : (fl ++ (fx ++ vs.map Prod.fst ++ tl)).Perm (List.range l.toArray.size) := by
      refine (List.perm_ext_iff_of_nodup c2 List.nodup_range).2 fun i => ⟨fun hi => List.mem_range.2 (c4 i hi), fun hi => ?_⟩
      have := c3 i (List.mem_range.1 hi)
      simpa using this
    have h3 := h2.length_eq
    simp only [List.length_append, List.length_range] at h3
    omega
  have hblf : ∀ i ∈ fl, ∀ j ∈ fl ++ fx, blind l.toArray i j = true := fun i hi j hj => c14 i hi j hj
  have hF := float_first (P := P) (B := w.heap.size) (W := w) (S := Below w.heap.size w) (tl := tl) (A1 := A1) c1 hQ fl ((fx.length + (vs.map Prod.fst).length) + tl.length) (Array.replicate l.toArray.size false) a w.drew hcl0 c13
    (fun i hi => by
      obtain ⟨o, ho, hy⟩ := hfixed i (by simp [hi])
      have h2 := eval_fillF (A1 := A1) ho (fun cs b => hsel i o cs b ho) (fl ++ fx) a (fun j hj => hblf i hi j hj)
      rw [← hA0] at h2
      exact ⟨o, ho, hy, h2.1.symm, h2.2.symm⟩)
    (fun i hi j hj => hblf i hi j (by simp [hj])) ?_
  · have h9 := wpAny_of_F _ _ _ _ hF
    rw [← hlenp] at h9
    exact h9
  · intro listed hc he
    refine coreDE (eg := eg) (Z := Z) (V := V) (fx := fx) (vsI := vs.map Prod.fst) hsel (Nat.le_refl _) sh hvn (fun c a' u hd hz => hZ c a' u (hd.trans hdefA) hz) hfx hst' hvs' hQ c15 htl hfin _ listed _ w.drew fx (vs.map Prod.fst) [] rfl
      ⟨hc, fun i => ?_, (List.nodup_append.1 (List.nodup_append.1 hnd.2.1).1).1, fun i hi => hi, by simp, ?_, by simp, (Below.refl _ _).drew, ?_⟩
    · rw [he, (set_fold fl _ i).1]
      by_cases hi : i ∈ fl
      · have h2 : ¬ (i ∈ fx ∨ i ∈ vs.map Prod.fst ∨ i ∈ tl) := fun h => hnd.2.2 i hi i (by simp only [List.mem_append]; rcases h with h | h | h <;> simp [h]) rfl
        simp only [hi, if_true]
        exact ⟨fun h => (by cases h), fun h => absurd h h2⟩
      · rw [if_neg hi]
        rcases Nat.lt_or_ge i l.toArray.size with h | h
        · have h2 := c3 i h
          simp only [List.contains_iff_mem, List.mem_append, hi, false_or] at h2
          rw [getD_in (by simpa using h) (getD_replicate_false _ _)]
          simp only [true_iff]
          rcases h2 with (h2 | h2) | h2 <;> simp [h2]
        · have h2 : ¬ (i ∈ fx ∨ i ∈ vs.map Prod.fst ∨ i ∈ tl) := fun h2 => by
            have := c4 i (by simp only [List.mem_append]; rcases h2 with h2 | h2 | h2 <;> simp [h2])
            omega
          have h3 : (Array.replicate l.toArray.size false).getD i true = true := by
            rw [Array.getD_eq_getD_getElem?, Array.getElem?_eq_none (by simpa using h)]; rfl
          rw [h3]
          exact ⟨fun h => (by cases h), fun h => absurd h h2⟩
    · have h2 : fillF l.toArray A1 (fillF l.toArray A1 a fl) fx = fillF l.toArray A1 a (fl ++ fx) := by unfold fillF; rw [List.foldl_append]
      rw [h2, ← hA0]; rfl
    · have key : ∀ (c : List Nat) (b : Act), (fillF l.toArray A1 b c).defers = b.defers := by
        intro c
        induction c with
        | nil => intro b; rfl
        | cons i c ih => intro b; show (fillF l.toArray A1 (b.put _ _) c).defers = b.defers; rw [ih, put_defers]
      rw [key, hdefA]


/-- A region in which operations known by a predicate may look at others of them, for which they wait. -/
theorem region_vde {id : Nat} {a : Act} {w : World} {l : List Oper} (ntmps : Nat) (fl fx eg : List Nat) (vs : List (Nat × Tmp)) (tl : List Nat) (dep : Nat → List (Nat × Tmp)) (A1 : Act) (V : Nat → VP)
    (hm : P.follows .mixedOrders = true) (hB : regBDE l.toArray ntmps fl fx eg vs tl none = true) (hD : depsB l.toArray vs dep = true) (hnt : ntmps ≤ a.tmps.size)
    (hQ : ∀ c a a' w, Act.defers a = Act.defers a' → Q (.panic c) a w → Q (.panic c) a' w)
    (h1 : ∀ (I : Type) (F : I → World), Nonempty I → Fam w F → wpQuiet P l.toArray (fun u => ∃ i, u = F i) (fun a' => a' = A1) (selN l (fl ++ fx)) a)
    (hst : ∀ x ∈ vs, ∀ v u u', V x.1 v u → Below w.heap.size w u → Below u.heap.size u u' → V x.1 v u')
    (hvs : ∀ x ∈ vs, ∀ o ∈ selN l [x.1], ∀ (f : Nat → Value) u, Below w.heap.size w u → (∀ y ∈ dep x.1, V y.1 (f y.1) u) →
      valsAt P (fun v u' => Below u.heap.size u u' ∧ V x.1 v u') (fun _ _ => False) ((execOp ((dep x.1).foldl (fun a y => a.put (some y.2) (f y.1)) A1).eval o).run P u))
    (hend : ∀ (f : Nat → Value) u, Below w.heap.size w u → (∀ x ∈ vs, V x.1 (f x.1) u) → wpList P l.toArray Q (selN l tl) (vs.foldl (fun a x => a.put (some x.2) (f x.1)) A1) u) : (Code.region id l.toArray true).wp P Q a w := by
  have hB' := hB
  simp only [depsB, Bool.and_eq_true, List.all_eq_true, decide_eq_true_eq, beq_iff_eq, Bool.or_eq_true] at hD
  simp only [regBDE, Bool.and_eq_true, List.all_eq_true, decide_eq_true_eq, List.mem_range, Bool.or_eq_true] at hB'
  obtain ⟨⟨⟨⟨⟨⟨⟨⟨⟨⟨⟨⟨⟨⟨c1, _⟩, _⟩, c4⟩, _⟩, _⟩, _⟩, c8⟩, _⟩, _⟩, _⟩, _⟩, _⟩, _⟩, _⟩ := hB'
  have hsel := Region.noSelect_spec c1
  have hat : ∀ x ∈ vs, ∀ o ∈ selN l [x.1], l.toArray[x.1]? = some o := fun x hx o ho => by
    have hlt : x.1 < l.length := by
      have := c4 x.1 (by simp; exact .inr (.inr (.inl ⟨x.2, hx⟩)))
      simpa using this
    have h2 := fits_selN (l := l) [x.1] (by simpa using hlt)
    unfold selN at h2 ho
    cases hd : l.drop x.1 with
    | nil => simp at hd; omega
    | cons o' r =>
      rw [hd] at h2 ho
      simp only [selN, List.mem_singleton] at ho
      subst ho
      exact h2.1
  refine region_regDE ntmps fl fx eg vs tl none A1 V (fun _ _ => False) hm hB hnt hQ h1 hst (fun x hx o ho q u hu hq hqn hqs hqd => ?_) (fun _ _ _ _ h => h.elim) (fun k hk => by cases hk) (fun _ => hend)
  obtain ⟨⟨d1, d2⟩, d3⟩ := hD x hx
  have ho' := hat x hx o ho
  obtain ⟨f, hf, he⟩ := eval_deps ho' (fun cs b => hsel x.1 o cs b ho') q A1 (dep x.1) hqn d1
    (fun y hy => ⟨(d2 y hy).1.2, hqd y.1 (by have := (d2 y hy).2; rwa [List.contains_iff_mem] at this) ⟨_, (d2 y hy).1.1⟩⟩)
    (fun y hy => by
      obtain ⟨z, hz, hze⟩ := List.mem_map.1 (hqs y hy)
      have := d3 z hz
      rw [hze, List.contains_iff_mem] at this
      exact this)
    (fun x hx y hy hxy t ht ht' => by
      have hne : x.1 ≠ y.1 := fun e => hxy (by
        have h1 := find_mem hqn hx
        have h2 := find_mem hqn hy
        rw [e, h2] at h1
        exact Prod.ext e (Option.some.inj h1).symm)
      have h3 := c8 x.1 (by
        have := hqs x hx
        rw [List.mem_append]; exact .inr this) y.1 (by
        have := hqs y hy
        rw [List.mem_append]; exact .inr this)
      rcases h3 with h3 | h3
      · exact hne (by simpa using h3)
      · rw [ht] at h3
        simp at h3
        exact h3 ht')
  rw [he]
  exact hvs x hx o ho f u hu (fun y hy => hq _ (hf y hy))

end
end Pl
end Go.Proofs.Ytkmbeohheblhhaa
