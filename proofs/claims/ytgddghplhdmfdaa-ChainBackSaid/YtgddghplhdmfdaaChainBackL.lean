/- Layer 19: chains that were written are read. -/
import Derived.Test.YtgddghplhdmfdaaChainWrD
import Derived.Test.YtgddghplhdmfdaaChainSame
import Derived.Test.YtgddghplhdmfdaaNumB
namespace Go.Proofs.Ytgddghplhdmfdaa
open Go.RowKit
namespace Ch
open Vw Wr

theorem rules_back : ∀ (l : List RuleD) (pre post : List Int), (∀ r ∈ l, okRule r) →
    (List.range l.length).map (fun i => (⟨be (pre ++ (l.flatMap ruleB ++ post)) (pre.length + 12 * i) 2, be (pre ++ (l.flatMap ruleB ++ post)) (pre.length + 12 * i + 2) 2, be (pre ++ (l.flatMap ruleB ++ post)) (pre.length + 12 * i + 4) 4, be (pre ++ (l.flatMap ruleB ++ post)) (pre.length + 12 * i + 8) 4⟩ : RuleD)) = l
  | [], pre, post, _ => rfl
  | r :: l, pre, post, h => by
    obtain ⟨h1, h2, h3, h4⟩ := h r (by simp)
    have ih := rules_back l (pre ++ ruleB r) post (fun x hx => h x (by simp [hx]))
    have e : pre ++ ((r :: l).flatMap ruleB ++ post) = pre ++ ruleB r ++ (l.flatMap ruleB ++ post) := by simp [List.flatMap_cons, List.append_assoc]
    rw [List.length_cons, List.range_succ_eq_map, List.map_cons, List.map_map, e]
    congr 1
    · have a1 := be_mid pre (putB r.value 2 ++ (putB r.enable 4 ++ (putB r.disable 4 ++ (l.flatMap ruleB ++ post)))) r.type 2 (pre.length + 12 * 0) (by omega) h1.1 (by omega)
      have a2 := be_mid (pre ++ putB r.type 2) (putB r.enable 4 ++ (putB r.disable 4 ++ (l.flatMap ruleB ++ post))) r.value 2 (pre.length + 12 * 0 + 2) (by simp [putB_len]) h2.1 (by omega)
      have a3 := be_mid (pre ++ putB r.type 2 ++ putB r.value 2) (putB r.disable 4 ++ (l.flatMap ruleB ++ post)) r.enable 4 (pre.length + 12 * 0 + 4) (by simp [putB_len]) h3.1 (by omega)
      have a4 := be_mid (pre ++ putB r.type 2 ++ putB r.value 2 ++ putB r.enable 4) (l.flatMap ruleB ++ post) r.disable 4 (pre.length + 12 * 0 + 8) (by simp [putB_len]) h4.1 (by omega)
      simp only [List.append_assoc, ruleB] at a1 a2 a3 a4 ⊢
      rw [a1, a2, a3, a4]
    · refine Eq.trans ?_ ih
      apply List.map_congr_left
      intro i _
      have hl : (pre ++ ruleB r).length + 12 * i = pre.length + 12 * (i + 1) := by rw [List.length_append, ruleB_len]; omega
      simp only [Function.comp, hl, List.append_assoc, Nat.succ_eq_add_one]

/-- Where subtables come to stand. -/
def subsPos : Nat → List WSub → List SubD
  | _, [] => []
  | p, s :: l => ⟨s.cover, s.flags, p, 12 + s.data.length⟩ :: subsPos (p + (12 + s.data.length)) l

theorem subs_back : ∀ (l : List WSub) (pre post : List Int) (p : Nat), p = pre.length → (∀ s ∈ l, okSub s) → subsAt (pre ++ (l.flatMap subB ++ post)) l.length p = some (subsPos p l)
  | [], pre, post, p, _, _ => rfl
  | s :: l, pre, post, p, hp, h => by
    obtain ⟨h1, h2, _, h4⟩ := h s (by simp)
    have ih := subs_back l (pre ++ subB s) post (p + (12 + s.data.length)) (by rw [List.length_append, subB_len]; omega) (fun x hx => h x (by simp [hx]))
    have e : pre ++ ((s :: l).flatMap subB ++ post) = pre ++ subB s ++ (l.flatMap subB ++ post) := by simp [List.flatMap_cons, List.append_assoc]
    have a1 := be_mid pre (putB s.cover 4 ++ (putB s.flags 4 ++ (s.data ++ (l.flatMap subB ++ post)))) (12 + (s.data.length : Int)) 4 p hp (by omega) (by omega)
    have a2 := be_mid (pre ++ putB (12 + (s.data.length : Int)) 4) (putB s.flags 4 ++ (s.data ++ (l.flatMap subB ++ post))) s.cover 4 (p + 4) (by simp [putB_len, hp]) h1.1 (by omega)
    have a3 := be_mid (pre ++ putB (12 + (s.data.length : Int)) 4 ++ putB s.cover 4) (s.data ++ (l.flatMap subB ++ post)) s.flags 4 (p + 8) (by simp [putB_len, hp]) h2.1 (by omega)
    rw [List.length_cons, e, subsAt]
    have hlen : (pre ++ subB s ++ (l.flatMap subB ++ post)).length = p + (12 + s.data.length) + (l.flatMap subB ++ post).length := by rw [List.length_append, List.length_append, subB_len, hp]
    simp only [List.append_assoc, subB] at a1 a2 a3 ih hlen ⊢
    have ht : (12 + (s.data.length : Int)).toNat = 12 + s.data.length := by omega
    rw [a1, a2, a3, ht, if_pos ⟨by rw [hlen]; omega, by omega, by rw [hlen]; omega⟩, ih]
    rfl

theorem one_back (c : WChain) (h : okChain c) : parseOne (chainB c) = some ⟨c.first, c.rules, subsPos (16 + 12 * c.rules.length) c.subs⟩ := by
  have hil := inB_len_le c h
  obtain ⟨h1, h2, h3, h4, h5, h6⟩ := h
  have a0 := be_mid [] (putB (16 + ((inB c).length : Int)) 4 ++ (putB (c.rules.length : Int) 4 ++ (putB (c.subs.length : Int) 4 ++ inB c))) c.first 4 0 rfl h1.1 (by omega)
  have a8 := be_mid (putB c.first 4 ++ putB (16 + ((inB c).length : Int)) 4) (putB (c.subs.length : Int) 4 ++ inB c) (c.rules.length : Int) 4 8 (by simp [putB_len]) (by omega) (by omega)
  have a12 := be_mid (putB c.first 4 ++ putB (16 + ((inB c).length : Int)) 4 ++ putB (c.rules.length : Int) 4) (inB c) (c.subs.length : Int) 4 12 (by simp [putB_len]) (by omega) (by omega)
  have hr := rules_back c.rules (putB c.first 4 ++ putB (16 + ((inB c).length : Int)) 4 ++ putB (c.rules.length : Int) 4 ++ putB (c.subs.length : Int) 4) (c.subs.flatMap subB ++ List.replicate (c.more % 8).toNat 0) h3
  have hs := subs_back c.subs (putB c.first 4 ++ putB (16 + ((inB c).length : Int)) 4 ++ putB (c.rules.length : Int) 4 ++ putB (c.subs.length : Int) 4 ++ c.rules.flatMap ruleB) (List.replicate (c.more % 8).toNat 0) (16 + 12 * c.rules.length) (by
    have : (c.rules.flatMap ruleB).length = 12 * c.rules.length := by
      clear a0 a8 a12 hr
      generalize c.rules = l
      induction l with
      | nil => rfl
      | cons x l ih => rw [List.flatMap_cons, List.length_append, ruleB_len, ih, List.length_cons]; omega
    simp only [List.length_append, putB_len, this]) h4
  have hl16 : (putB c.first 4 ++ putB (16 + ((inB c).length : Int)) 4 ++ putB (c.rules.length : Int) 4 ++ putB (c.subs.length : Int) 4).length = 16 := by simp [putB_len]
  have hcl : (chainB c).length = 16 + (inB c).length := by unfold chainB; rw [List.length_append, hl16]
  have hri : 12 * c.rules.length ≤ (inB c).length := by
    have : (c.rules.flatMap ruleB).length = 12 * c.rules.length := by
      clear a0 a8 a12 hr hs hl16 hcl hil
      generalize c.rules = l
      induction l with
      | nil => rfl
      | cons x l ih => rw [List.flatMap_cons, List.length_append, ruleB_len, ih, List.length_cons]; omega
    unfold inB; simp only [List.length_append, this]; omega
  rw [hl16] at hr
  have e1 : chainB c = [] ++ (putB c.first 4 ++ (putB (16 + ((inB c).length : Int)) 4 ++ (putB (c.rules.length : Int) 4 ++ (putB (c.subs.length : Int) 4 ++ inB c)))) := by simp [chainB, List.append_assoc]
  have e2 : chainB c = putB c.first 4 ++ putB (16 + ((inB c).length : Int)) 4 ++ (putB (c.rules.length : Int) 4 ++ (putB (c.subs.length : Int) 4 ++ inB c)) := by simp [chainB, List.append_assoc]
  have e3 : chainB c = putB c.first 4 ++ putB (16 + ((inB c).length : Int)) 4 ++ putB (c.rules.length : Int) 4 ++ (putB (c.subs.length : Int) 4 ++ inB c) := by simp [chainB, List.append_assoc]
  have e4 : chainB c = putB c.first 4 ++ putB (16 + ((inB c).length : Int)) 4 ++ putB (c.rules.length : Int) 4 ++ putB (c.subs.length : Int) 4 ++ (c.rules.flatMap ruleB ++ (c.subs.flatMap subB ++ List.replicate (c.more % 8).toNat 0)) := by simp [chainB, inB, List.append_assoc]
  have e5 : chainB c = putB c.first 4 ++ putB (16 + ((inB c).length : Int)) 4 ++ putB (c.rules.length : Int) 4 ++ putB (c.subs.length : Int) 4 ++ c.rules.flatMap ruleB ++ (c.subs.flatMap subB ++ List.replicate (c.more % 8).toNat 0) := by simp [chainB, inB, List.append_assoc]
  rw [← e1] at a0
  rw [← e2] at a8
  rw [← e3] at a12
  rw [← e4] at hr
  rw [← e5] at hs
  unfold parseOne
  rw [a8, a12, a0, Int.toNat_natCast, Int.toNat_natCast, if_pos ⟨by omega, by omega⟩, hs]
  unfold rulesAt ruleAt
  rw [hr]
  rfl

/-- Where chains come to stand. -/
def chainsPos : Nat → List WChain → List PlaceD
  | _, [] => []
  | p, c :: l => ⟨⟨c.first, c.rules, subsPos (16 + 12 * c.rules.length) c.subs⟩, p, (chainB c).length⟩ :: chainsPos (p + (chainB c).length) l

theorem chainB_size (c : WChain) (h : okChain c) (pre post : List Int) (p : Nat) (hp : p = pre.length) : be (pre ++ (chainB c ++ post)) (p + 4) 4 = ((chainB c).length : Int) ∧ 16 ≤ (chainB c).length := by
  have hil := inB_len_le c h
  have a := be_mid (pre ++ putB c.first 4) (putB (c.rules.length : Int) 4 ++ (putB (c.subs.length : Int) 4 ++ (inB c ++ post))) (16 + ((inB c).length : Int)) 4 (p + 4) (by simp [putB_len, hp]) (by omega) (by omega)
  have e : pre ++ (chainB c ++ post) = pre ++ putB c.first 4 ++ (putB (16 + ((inB c).length : Int)) 4 ++ (putB (c.rules.length : Int) 4 ++ (putB (c.subs.length : Int) 4 ++ (inB c ++ post)))) := by simp [chainB, List.append_assoc]
  have hl : (chainB c).length = 16 + (inB c).length := by simp [chainB, putB_len]; omega
  rw [e, a]
  omega

theorem chains_back : ∀ (l : List WChain) (pre post : List Int) (p : Nat), p = pre.length → (∀ c ∈ l, okChain c) → chainsAt (pre ++ (l.flatMap chainB ++ post)) l.length p = some (chainsPos p l)
  | [], pre, post, p, _, _ => rfl
  | c :: l, pre, post, p, hp, h => by
    have hc := h c (by simp)
    have ih := chains_back l (pre ++ chainB c) post (p + (chainB c).length) (by rw [List.length_append]; omega) (fun x hx => h x (by simp [hx]))
    have e : pre ++ ((c :: l).flatMap chainB ++ post) = pre ++ (chainB c ++ (l.flatMap chainB ++ post)) := by simp [List.flatMap_cons, List.append_assoc]
    obtain ⟨a1, a2⟩ := chainB_size c hc pre (l.flatMap chainB ++ post) p hp
    rw [List.append_assoc] at ih
    rw [List.length_cons, e, chainsAt, a1, Int.toNat_natCast]
    have hlen : (pre ++ (chainB c ++ (l.flatMap chainB ++ post))).length = p + (chainB c).length + (l.flatMap chainB ++ post).length := by simp only [List.length_append, hp]; omega
    have hpc : ((pre ++ (chainB c ++ (l.flatMap chainB ++ post))).drop p).take (chainB c).length = chainB c := by
      rw [hp, List.drop_left, List.take_append_of_le_length (Nat.le_refl _), List.take_length]
    rw [if_pos ⟨by rw [hlen]; omega, a2, by rw [hlen]; omega⟩, hpc, one_back c hc, ih]
    rfl

theorem head_parse (n : Nat) (hn : n ≤ 10) (post : List Int) : parseAll (headB n ++ post) = chainsAt (headB n ++ post) n 8 := by
  have a0 := be_mid [] (putB 0 2 ++ (putB (n : Int) 4 ++ post)) 2 2 0 rfl (by omega) (by omega)
  have a4 := be_mid (putB 2 2 ++ putB 0 2) post (n : Int) 4 4 (by simp [putB_len]) (by omega) (by omega)
  have e0 : headB n ++ post = [] ++ (putB 2 2 ++ (putB 0 2 ++ (putB (n : Int) 4 ++ post))) := by simp [headB, List.append_assoc]
  have e4 : headB n ++ post = putB 2 2 ++ putB 0 2 ++ (putB (n : Int) 4 ++ post) := by simp [headB, List.append_assoc]
  unfold parseAll
  rw [← e0] at a0
  rw [← e4] at a4
  rw [a0, a4, Int.toNat_natCast, if_pos ⟨by rw [List.length_append, headB_len]; omega, .inl rfl⟩]

/-- THERE AND BACK. -/
theorem all_back (l : List WChain) (more : List Int) (hl : l.length ≤ 10) (h : ∀ c ∈ l, okChain c) : parseAll (writeB l ++ more) = some (chainsPos 8 l) := by
  unfold writeB
  rw [List.append_assoc, head_parse _ hl]
  exact chains_back l (headB l.length) more 8 (by rw [headB_len]) h

/-- What was cut off is missing. -/
theorem chains_cut : ∀ (l : List WChain) (pre : List Int) (p m : Nat), p = pre.length → (∀ c ∈ l, okChain c) → p ≤ m → m < (pre ++ l.flatMap chainB).length → chainsAt ((pre ++ l.flatMap chainB).take m) l.length p = none
  | [], pre, p, m, hp, _, h1, h2 => by simp at h2; omega
  | c :: l, pre, p, m, hp, h, h1, h2 => by
    have hc := h c (by simp)
    have e : pre ++ (c :: l).flatMap chainB = pre ++ (chainB c ++ l.flatMap chainB) := by simp [List.flatMap_cons]
    have e2 : pre ++ (chainB c ++ l.flatMap chainB) = (pre ++ chainB c) ++ l.flatMap chainB := by simp
    rw [e] at h2 ⊢
    obtain ⟨a1, a2⟩ := chainB_size c hc pre (l.flatMap chainB) p hp
    have hml : ((pre ++ (chainB c ++ l.flatMap chainB)).take m).length = m := by rw [List.length_take]; omega
    rw [List.length_cons, chainsAt, hml]
    by_cases f1 : p + 8 ≤ m
    · rw [be_take _ m (p + 4) 4 (by omega), a1, Int.toNat_natCast]
      by_cases f2 : p + (chainB c).length ≤ m
      · have hpc : (((pre ++ (chainB c ++ l.flatMap chainB)).take m).drop p).take (chainB c).length = chainB c := by
          rw [List.drop_take, List.take_take, Nat.min_eq_left (by omega), hp, List.drop_left, List.take_append_of_le_length (Nat.le_refl _), List.take_length]
        rw [if_pos ⟨f1, a2, f2⟩, hpc, one_back c hc]
        have ih := chains_cut l (pre ++ chainB c) (p + (chainB c).length) m (by rw [List.length_append]; omega) (fun x hx => h x (by simp [hx])) f2 (by rw [← e2]; exact h2)
        rw [← e2] at ih
        rw [ih]; rfl
      · rw [if_neg (by omega)]
    · rw [if_neg (by omega)]

theorem all_cut (l : List WChain) (m : Nat) (hl : l.length ≤ 10) (h : ∀ c ∈ l, okChain c) (hm : m < (writeB l).length) : parseAll ((writeB l).take m) = none := by
  by_cases h8 : 8 ≤ m
  · have h1 := chains_cut l (headB l.length) 8 m (by rw [headB_len]) h h8 hm
    have h2 : (writeB l).take m = headB l.length ++ (l.flatMap chainB).take (m - 8) := by
      unfold writeB
      rw [List.take_append, headB_len, List.take_of_length_le (by rw [headB_len]; exact h8)]
    have h3 : (headB l.length ++ l.flatMap chainB).take m = headB l.length ++ (l.flatMap chainB).take (m - 8) := h2
    rw [h2, head_parse _ hl, ← h3]
    exact h1
  · unfold parseAll
    rw [if_neg (by rw [List.length_take]; omega)]
end Ch
end Go.Proofs.Ytgddghplhdmfdaa
