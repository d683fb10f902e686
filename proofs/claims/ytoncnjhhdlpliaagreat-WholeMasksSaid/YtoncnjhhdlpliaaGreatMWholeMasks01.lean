/- Parts of a proof: texts Base, Own, LnD, PickMap, NumB, ChainBackM, Open, TopD, ChainOpen, TopW1, MasksB, PlanC, MasksC, MasksW. -/
import Derived.Test.YtoncnjhhdlpliaaGreatMQ02
import Derived.Test.YtoncnjhhdlpliaaGreatRows
import Derived.WalkKit
import Derived.WalkSpells
import Derived.WalkLawsBesides
import Derived.Deep.QuietTactic
import Derived.BigQuiet
import Derived.Laws.AppendOwnNone
import Derived.Maps.RangeWalk
import Derived.Maps.Ext
import Derived.DeepKeys4
import Derived.ProofKit
import Derived.OpenShut
import Derived.Deep.Slices
namespace Go.Proofs.YtoncnjhhdlpliaaGreat
open Go.RowKit
namespace Bas
theorem wf_u16 {x : Int} (h : (Lit.int .u16 x).wf = true) : 0 ≤ x ∧ x ≤ 65535 := by
 simpa [Lit.wf, IntKind.min, IntKind.max, IntKind.bits, IntKind.signed] using h
theorem wf_u32 {x : Int} (h : (Lit.int .u32 x).wf = true) : 0 ≤ x ∧ x ≤ 4294967295 := by
 simpa [Lit.wf, IntKind.min, IntKind.max, IntKind.bits, IntKind.signed] using h
end Bas
namespace Vw
theorem VB.block {w : World} {b o : Nat} {bs : List Int} {u : World} (h : VB w (some ⟨b, o, none⟩) bs) (hh : u.heap[b]? = w.heap[b]?) : VB u (some ⟨b, o, none⟩) bs :=
 ⟨h.len, h.byte, fun i hi => by
  obtain ⟨b', o', hab, hc⟩ := h.cell i hi;simp only [Option.some.injEq, Addr.mk.injEq, and_true] at hab;obtain ⟨rfl, rfl⟩ := hab;exact ⟨b, o, rfl, (World.cell?_of_block (w := w) hh).trans hc⟩⟩
theorem OwnB.block {w u : World} {g n : Nat} (h : OwnB w g n) (hh : u.heap[g]? = w.heap[g]?) : OwnB u g n := by
 obtain ⟨cur, h1, h2⟩ := h;exact ⟨cur, hh.trans h1, h2⟩
end Vw
namespace Ln
open Ch
theorem LineAt.base {w : World} {base base' g : Nat} {sv : Value} {xs : List Gl} (h : LineAt w base g sv xs) (hb : base' ≤ base) : LineAt w base' g sv xs :=
 ⟨h.head, Row.owned_base h.own hb, Nat.le_trans hb h.low⟩
end Ln
namespace Pk
open Ch Ft Go.Maps
theorem laidOut : laidOutB Tryz.prog = true := by kernel_rfl
end Pk
namespace Wr
open Vw
theorem num_cons (x : Int) (l : List Int) : num (x :: l) = x * 256 ^ l.length + num l := by
 have key : ∀ (l : List Int) (a : Int), l.foldl (fun n b => 256 * n + b) a = a * 256 ^ l.length + l.foldl (fun n b => 256 * n + b) 0 := by
  intro l;induction l with
  | nil => intro a; simp
  | cons y l ih =>
   intro a;simp only [List.foldl_cons, List.length_cons];rw [ih (256 * a + y), ih (256 * 0 + y)];rw [Int.pow_succ, Int.add_mul, Int.add_mul];have : 256 * a * 256 ^ l.length = a * (256 ^ l.length * 256) := by rw [Int.mul_comm 256 a, Int.mul_assoc, Int.mul_comm 256]
   omega
 unfold num;simp only [List.foldl_cons];rw [key];simp
theorem num_putB (n : Int) (hn : 0 ≤ n) : ∀ k : Nat, num (putB n k) = n % 256 ^ k
 | 0 => by simp [putB, num]
 | k + 1 => by
  have ih := num_putB n hn k;have hp : (0 : Int) < 256 ^ k := Int.pow_pos (by omega)
  rw [putB, num_cons, ih, putB_len, Int.pow_succ];have h1 := Int.mul_ediv_add_emod n (256 ^ k);have h2 := Int.mul_ediv_add_emod (n / 256 ^ k) 256;have h3 := Int.emod_nonneg n (Int.ne_of_gt hp);have h4 := Int.emod_lt_of_pos n hp;have h5 := Int.emod_nonneg (n / 256 ^ k) (show (256 : Int) ≠ 0 by omega)
  have h6 := Int.emod_lt_of_pos (n / 256 ^ k) (show (0 : Int) < 256 by omega)
  generalize n / 256 ^ k % 256 = r at *;generalize n / 256 ^ k / 256 = q at *;generalize n / 256 ^ k = d at *;generalize n % 256 ^ k = t at *;generalize (256 : Int) ^ k = P at *;have e : n = (P * 256) * q + (r * P + t) := by
   rw [← h1, ← h2, Int.mul_add, ← Int.mul_assoc, Int.mul_comm P r]; omega
  have b1 : 0 ≤ r * P + t := Int.add_nonneg (Int.mul_nonneg h5 (Int.le_of_lt hp)) h3;have b2 : r * P + t < P * 256 := by
   have h8 : r * P ≤ 255 * P := Int.mul_le_mul_of_nonneg_right (by omega) (Int.le_of_lt hp)
   omega
  rw [e, Int.mul_add_emod_self_left, Int.emod_eq_of_lt b1 b2]
theorem be_mid (pre post : List Int) (n : Int) (k p : Nat) (hp : p = pre.length) (h0 : 0 ≤ n) (h1 : n < 256 ^ k) : be (pre ++ (putB n k ++ post)) p k = n := by
 subst hp;unfold be;rw [List.drop_left];have : (putB n k ++ post).take k = putB n k := by
  rw [List.take_append_of_le_length (by rw [putB_len]; exact Nat.le_refl _), List.take_of_length_le (by rw [putB_len]; exact Nat.le_refl _)]
 rw [this, num_putB n h0, Int.emod_eq_of_lt h0 h1]
end Wr
namespace Ch
open Vw Wr
theorem rules_back : ∀ (l : List RuleD) (pre post : List Int), (∀ r ∈ l, okRule r) →
  (List.range l.length).map (fun i => (⟨be (pre ++ (l.flatMap ruleB ++ post)) (pre.length + 12 * i) 2, be (pre ++ (l.flatMap ruleB ++ post)) (pre.length + 12 * i + 2) 2, be (pre ++ (l.flatMap ruleB ++ post)) (pre.length + 12 * i + 4) 4, be (pre ++ (l.flatMap ruleB ++ post)) (pre.length + 12 * i + 8) 4⟩ : RuleD)) = l
 | [], pre, post, _ => rfl
 | r :: l, pre, post, h => by
  obtain ⟨h1, h2, h3, h4⟩ := h r (by simp)
  have ih := rules_back l (pre ++ ruleB r) post (fun x hx => h x (by simp [hx]))
  have e : pre ++ ((r :: l).flatMap ruleB ++ post) = pre ++ ruleB r ++ (l.flatMap ruleB ++ post) := by simp [List.flatMap_cons, List.append_assoc]
  rw [List.length_cons, List.range_succ_eq_map, List.map_cons, List.map_map, e]
  congr 1
  ·have a1 := be_mid pre (putB r.value 2 ++ (putB r.enable 4 ++ (putB r.disable 4 ++ (l.flatMap ruleB ++ post)))) r.type 2 (pre.length + 12 * 0) (by omega) h1.1 (by omega)
   have a2 := be_mid (pre ++ putB r.type 2) (putB r.enable 4 ++ (putB r.disable 4 ++ (l.flatMap ruleB ++ post))) r.value 2 (pre.length + 12 * 0 + 2) (by simp [putB_len]) h2.1 (by omega)
   have a3 := be_mid (pre ++ putB r.type 2 ++ putB r.value 2) (putB r.disable 4 ++ (l.flatMap ruleB ++ post)) r.enable 4 (pre.length + 12 * 0 + 4) (by simp [putB_len]) h3.1 (by omega)
   have a4 := be_mid (pre ++ putB r.type 2 ++ putB r.value 2 ++ putB r.enable 4) (l.flatMap ruleB ++ post) r.disable 4 (pre.length + 12 * 0 + 8) (by simp [putB_len]) h4.1 (by omega)
   simp only [List.append_assoc, ruleB] at a1 a2 a3 a4 ⊢;rw [a1, a2, a3, a4]
  ·refine Eq.trans ?_ ih;apply List.map_congr_left;intro i _;have hl : (pre ++ ruleB r).length + 12 * i = pre.length + 12 * (i + 1) := by rw [List.length_append, ruleB_len]; omega
   simp only [Function.comp, hl, List.append_assoc, Nat.succ_eq_add_one]
def subsPos : Nat → List WSub → List SubD
 | _, [] => []
 | p, s :: l => ⟨s.cover, s.flags, p, 12 + s.data.length⟩ :: subsPos (p + (12 + s.data.length)) l
theorem subs_back : ∀ (l : List WSub) (pre post : List Int) (p : Nat), p = pre.length → (∀ s ∈ l, okSub s) → subsAt (pre ++ (l.flatMap subB ++ post)) l.length p = some (subsPos p l)
 | [], pre, post, p, _, _ => rfl
 | s :: l, pre, post, p, hp, h => by
  obtain ⟨h1, h2, _, h4⟩ := h s (by simp)
  have ih := subs_back l (pre ++ subB s) post (p + (12 + s.data.length)) (by rw [List.length_append, subB_len]; omega) (fun x hx => h x (by simp [hx]))
  have e : pre ++ ((s :: l).flatMap subB ++ post) = pre ++ subB s ++ (l.flatMap subB ++ post) := by simp [List.flatMap_cons, List.append_assoc]
  have a1 := be_mid pre (putB s.cover 4 ++ (putB s.flags 4 ++ (s.data ++ (l.flatMap subB ++ post)))) (12 + (s.data.length : Int)) 4 p hp (by omega) (by omega)
  have a2 := be_mid (pre ++ putB (12 + (s.data.length : Int)) 4) (putB s.flags 4 ++ (s.data ++ (l.flatMap subB ++ post))) s.cover 4 (p + 4) (by simp [putB_len, hp]) h1.1 (by omega)
  have a3 := be_mid (pre ++ putB (12 + (s.data.length : Int)) 4 ++ putB s.cover 4) (s.data ++ (l.flatMap subB ++ post)) s.flags 4 (p + 8) (by simp [putB_len, hp]) h2.1 (by omega)
  rw [List.length_cons, e, subsAt];have hlen : (pre ++ subB s ++ (l.flatMap subB ++ post)).length = p + (12 + s.data.length) + (l.flatMap subB ++ post).length := by rw [List.length_append, List.length_append, subB_len, hp]
  simp only [List.append_assoc, subB] at a1 a2 a3 ih hlen ⊢;have ht : (12 + (s.data.length : Int)).toNat = 12 + s.data.length := by omega
  rw [a1, a2, a3, ht, if_pos ⟨by rw [hlen]; omega, by omega, by rw [hlen]; omega⟩, ih]
  rfl
theorem one_back (c : WChain) (h : okChain c) : parseOne (chainB c) = some ⟨c.first, c.rules, subsPos (16 + 12 * c.rules.length) c.subs⟩ := by
 have hil := inB_len_le c h;obtain ⟨h1, h2, h3, h4, h5, h6⟩ := h;have a0 := be_mid [] (putB (16 + ((inB c).length : Int)) 4 ++ (putB (c.rules.length : Int) 4 ++ (putB (c.subs.length : Int) 4 ++ inB c))) c.first 4 0 rfl h1.1 (by omega)
 have a8 := be_mid (putB c.first 4 ++ putB (16 + ((inB c).length : Int)) 4) (putB (c.subs.length : Int) 4 ++ inB c) (c.rules.length : Int) 4 8 (by simp [putB_len]) (by omega) (by omega)
 have a12 := be_mid (putB c.first 4 ++ putB (16 + ((inB c).length : Int)) 4 ++ putB (c.rules.length : Int) 4) (inB c) (c.subs.length : Int) 4 12 (by simp [putB_len]) (by omega) (by omega)
 have hr := rules_back c.rules (putB c.first 4 ++ putB (16 + ((inB c).length : Int)) 4 ++ putB (c.rules.length : Int) 4 ++ putB (c.subs.length : Int) 4) (c.subs.flatMap subB ++ List.replicate (c.more % 8).toNat 0) h3;have hs := subs_back c.subs (putB c.first 4 ++ putB (16 + ((inB c).length : Int)) 4 ++ putB (c.rules.length : Int) 4 ++ putB (c.subs.length : Int) 4 ++ c.rules.flatMap ruleB) (List.replicate (c.more % 8).toNat 0) (16 + 12 * c.rules.length) (by
  have : (c.rules.flatMap ruleB).length = 12 * c.rules.length := by
   clear a0 a8 a12 hr;generalize c.rules = l;induction l with
   | nil => rfl
   | cons x l ih => rw [List.flatMap_cons, List.length_append, ruleB_len, ih, List.length_cons]; omega
  simp only [List.length_append, putB_len, this]) h4
 have hl16 : (putB c.first 4 ++ putB (16 + ((inB c).length : Int)) 4 ++ putB (c.rules.length : Int) 4 ++ putB (c.subs.length : Int) 4).length = 16 := by simp [putB_len]
 have hcl : (chainB c).length = 16 + (inB c).length := by unfold chainB; rw [List.length_append, hl16]
 have hri : 12 * c.rules.length ≤ (inB c).length := by
  have : (c.rules.flatMap ruleB).length = 12 * c.rules.length := by
   clear a0 a8 a12 hr hs hl16 hcl hil;generalize c.rules = l;induction l with
   | nil => rfl
   | cons x l ih => rw [List.flatMap_cons, List.length_append, ruleB_len, ih, List.length_cons]; omega
  unfold inB; simp only [List.length_append, this]; omega
 rw [hl16] at hr;have e1 : chainB c = [] ++ (putB c.first 4 ++ (putB (16 + ((inB c).length : Int)) 4 ++ (putB (c.rules.length : Int) 4 ++ (putB (c.subs.length : Int) 4 ++ inB c)))) := by simp [chainB, List.append_assoc]
 have e2 : chainB c = putB c.first 4 ++ putB (16 + ((inB c).length : Int)) 4 ++ (putB (c.rules.length : Int) 4 ++ (putB (c.subs.length : Int) 4 ++ inB c)) := by simp [chainB, List.append_assoc]
 have e3 : chainB c = putB c.first 4 ++ putB (16 + ((inB c).length : Int)) 4 ++ putB (c.rules.length : Int) 4 ++ (putB (c.subs.length : Int) 4 ++ inB c) := by simp [chainB, List.append_assoc]
 have e4 : chainB c = putB c.first 4 ++ putB (16 + ((inB c).length : Int)) 4 ++ putB (c.rules.length : Int) 4 ++ putB (c.subs.length : Int) 4 ++ (c.rules.flatMap ruleB ++ (c.subs.flatMap subB ++ List.replicate (c.more % 8).toNat 0)) := by simp [chainB, inB, List.append_assoc]
 have e5 : chainB c = putB c.first 4 ++ putB (16 + ((inB c).length : Int)) 4 ++ putB (c.rules.length : Int) 4 ++ putB (c.subs.length : Int) 4 ++ c.rules.flatMap ruleB ++ (c.subs.flatMap subB ++ List.replicate (c.more % 8).toNat 0) := by simp [chainB, inB, List.append_assoc]
 rw [← e1] at a0;rw [← e2] at a8;rw [← e3] at a12;rw [← e4] at hr;rw [← e5] at hs;unfold parseOne;rw [a8, a12, a0, Int.toNat_natCast, Int.toNat_natCast, if_pos ⟨by omega, by omega⟩, hs]
 unfold rulesAt ruleAt;rw [hr];rfl
def chainsPos : Nat → List WChain → List PlaceD
 | _, [] => []
 | p, c :: l => ⟨⟨c.first, c.rules, subsPos (16 + 12 * c.rules.length) c.subs⟩, p, (chainB c).length⟩ :: chainsPos (p + (chainB c).length) l
theorem chainB_size (c : WChain) (h : okChain c) (pre post : List Int) (p : Nat) (hp : p = pre.length) : be (pre ++ (chainB c ++ post)) (p + 4) 4 = ((chainB c).length : Int) ∧ 16 ≤ (chainB c).length := by
 have hil := inB_len_le c h;have a := be_mid (pre ++ putB c.first 4) (putB (c.rules.length : Int) 4 ++ (putB (c.subs.length : Int) 4 ++ (inB c ++ post))) (16 + ((inB c).length : Int)) 4 (p + 4) (by simp [putB_len, hp]) (by omega) (by omega)
 have e : pre ++ (chainB c ++ post) = pre ++ putB c.first 4 ++ (putB (16 + ((inB c).length : Int)) 4 ++ (putB (c.rules.length : Int) 4 ++ (putB (c.subs.length : Int) 4 ++ (inB c ++ post)))) := by simp [chainB, List.append_assoc]
 have hl : (chainB c).length = 16 + (inB c).length := by simp [chainB, putB_len]; omega
 rw [e, a];omega
theorem chains_back : ∀ (l : List WChain) (pre post : List Int) (p : Nat), p = pre.length → (∀ c ∈ l, okChain c) → chainsAt (pre ++ (l.flatMap chainB ++ post)) l.length p = some (chainsPos p l)
 | [], pre, post, p, _, _ => rfl
 | c :: l, pre, post, p, hp, h => by
  have hc := h c (by simp)
  have ih := chains_back l (pre ++ chainB c) post (p + (chainB c).length) (by rw [List.length_append]; omega) (fun x hx => h x (by simp [hx]))
  have e : pre ++ ((c :: l).flatMap chainB ++ post) = pre ++ (chainB c ++ (l.flatMap chainB ++ post)) := by simp [List.flatMap_cons, List.append_assoc]
  obtain ⟨a1, a2⟩ := chainB_size c hc pre (l.flatMap chainB ++ post) p hp;rw [List.append_assoc] at ih;rw [List.length_cons, e, chainsAt, a1, Int.toNat_natCast];have hlen : (pre ++ (chainB c ++ (l.flatMap chainB ++ post))).length = p + (chainB c).length + (l.flatMap chainB ++ post).length := by simp only [List.length_append, hp]; omega
  have hpc : ((pre ++ (chainB c ++ (l.flatMap chainB ++ post))).drop p).take (chainB c).length = chainB c := by
   rw [hp, List.drop_left, List.take_append_of_le_length (Nat.le_refl _), List.take_length]
  rw [if_pos ⟨by rw [hlen]; omega, a2, by rw [hlen]; omega⟩, hpc, one_back c hc, ih]
  rfl
theorem head_parse (n : Nat) (hn : n ≤ 10) (post : List Int) : parseAll (headB n ++ post) = chainsAt (headB n ++ post) n 8 := by
 have a0 := be_mid [] (putB 0 2 ++ (putB (n : Int) 4 ++ post)) 2 2 0 rfl (by omega) (by omega)
 have a4 := be_mid (putB 2 2 ++ putB 0 2) post (n : Int) 4 4 (by simp [putB_len]) (by omega) (by omega)
 have e0 : headB n ++ post = [] ++ (putB 2 2 ++ (putB 0 2 ++ (putB (n : Int) 4 ++ post))) := by simp [headB, List.append_assoc]
 have e4 : headB n ++ post = putB 2 2 ++ putB 0 2 ++ (putB (n : Int) 4 ++ post) := by simp [headB, List.append_assoc]
 unfold parseAll;rw [← e0] at a0;rw [← e4] at a4;rw [a0, a4, Int.toNat_natCast, if_pos ⟨by rw [List.length_append, headB_len]; omega, .inl rfl⟩]
theorem all_back (l : List WChain) (more : List Int) (hl : l.length ≤ 10) (h : ∀ c ∈ l, okChain c) : parseAll (writeB l ++ more) = some (chainsPos 8 l) := by
 unfold writeB;rw [List.append_assoc, head_parse _ hl];exact chains_back l (headB l.length) more 8 (by rw [headB_len]) h
end Ch
end Go.Proofs.YtoncnjhhdlpliaaGreat
namespace Go.Proofs.YtoncnjhhdlpliaaGreat
open Go.RowKit Go.ChangeShapes Go.WideShapes Go.ChangeAt
namespace Bas
theorem flat_get_inv {α : Type} {f : α → List Value} {m : Nat} (hm : 0 < m) (hf : ∀ x, (f x).length = m) : ∀ (l : List α) (j : Nat) (u : Value), (l.flatMap f)[j]? = some u → ∃ i k x, j = i * m + k ∧ l[i]? = some x ∧ (f x)[k]? = some u
 | [], j, u, h => by simp at h
 | y :: l, j, u, h => by
  rw [List.flatMap_cons] at h;by_cases hj : j < m
  ·rw [List.getElem?_append_left (by rw [hf]; exact hj)] at h
   exact ⟨0, j, y, by simp, rfl, h⟩
  ·rw [List.getElem?_append_right (by rw [hf]; omega), hf] at h
   obtain ⟨i, k, x, h1, h2, h3⟩ := flat_get_inv hm hf l (j - m) u h;exact ⟨i + 1, k, x, by rw [Nat.add_mul]; omega, h2, h3⟩
theorem open_elems {α : Type} [Inhabited α] {f : α → List Value} {m : Nat} {good : α → Prop} (hm : 0 < m) (hf : ∀ x, (f x).length = m) {w : World} {base : Nat} {a : Addr} {len cap : Nat}
  (h : ∀ i, i < len → ∃ cs, w.cells? base (a.add (i * m)) m = some cs ∧ ∃ x, cs = f x ∧ good x) :
  ∃ l : List α, l.length = len ∧ Row.Leads w (.slice (some a) len cap) len (l.flatMap f) ∧ ∀ x ∈ l, good x := by
 obtain ⟨g, hg⟩ := Go.Deep.choose_lt (α := α) (n := len) (p := fun i x => w.cells? base (a.add (i * m)) m = some (f x) ∧ good x) (fun i hi => by
  obtain ⟨cs, h1, x, rfl, h3⟩ := h i hi;exact ⟨x, h1, h3⟩)
 refine ⟨(List.range len).map g, by simp, .inr ⟨a, cap, rfl, fun j u hu => ?_⟩, fun x hx => ?_⟩
 ·obtain ⟨i, k, x, rfl, h2, h3⟩ := flat_get_inv hm hf _ j u hu;have hi : i < len := by have := (List.getElem?_eq_some_iff.1 h2).1; simpa using this
  rw [List.getElem?_map, List.getElem?_range hi] at h2;cases h2;obtain ⟨_, _, hc⟩ := World.cells?_some (hg i hi).1;have hk : k < m := by have := (List.getElem?_eq_some_iff.1 h3).1; rw [hf] at this; exact this
  have := hc k hk;rw [Go.Deep.add_add] at this;rw [this, h3]
 ·obtain ⟨i, hi, rfl⟩ := List.mem_map.1 hx;exact (hg i (by simpa using hi)).2
section
variable {H : Type} {enc : TypeId × Value → H} {P : Program} {w : World} {base : Nat} {spare : Nat → Bool} {held : Bool}
theorem open_field {t : TypeId} {fs : Array Field} {fuel : Nat} {cs : List Value} {x : DataW H × List MemPlace} (k : Nat) (f : Field) (ht : P.underlying t = some (.struct fs)) (h : DataW.trod enc P w base spare held fuel t cs = some x) (hk : fs[k]? = some f) (hc : P.cellsOf f.type = 1) (ho : f.offset < P.cellsOf t) :
  cs.length = P.cellsOf t ∧ ∃ v y n, cs[f.offset]? = some v ∧ DataW.trod enc P w base spare held n f.type [v] = some y := by
 obtain ⟨xs, n, _, rfl, hl, hlen, hf⟩ := DataW.trod_struct ht h;refine ⟨hl, ?_⟩;have h1 := hf k f hk;rw [hc] at h1;have ho' : f.offset < cs.length := by rw [hl]; exact ho
 have e : (cs.drop f.offset).take 1 = [cs[f.offset]] := by
  rw [List.drop_eq_getElem_cons ho', List.take_succ_cons, List.take_zero]
 rw [e] at h1;have hkx : k < xs.length := by
  have := (Array.getElem?_eq_some_iff.1 hk).1;omega
 rw [List.getElem?_eq_getElem hkx] at h1;exact ⟨_, _, _, List.getElem?_eq_getElem ho', h1⟩
theorem open_field_int {t : TypeId} {fs : Array Field} {fuel : Nat} {cs : List Value} {x : DataW H × List MemPlace} {kd : IntKind} (k : Nat) (f : Field) (ht : P.underlying t = some (.struct fs)) (h : DataW.trod enc P w base spare held fuel t cs = some x) (hk : fs[k]? = some f) (hc : P.cellsOf f.type = 1) (ho : f.offset < P.cellsOf t) (hi : P.underlying f.type = some (.int kd)) :
  ∃ n, cs[f.offset]? = some (.int kd n) ∧ (Lit.int kd n).wf = true := by
 obtain ⟨_, v, y, m, h1, h2⟩ := open_field k f ht h hk hc ho;obtain ⟨n, e, _, hw⟩ := DataW.trod_int hi h2;cases e;exact ⟨n, h1, hw⟩
theorem open_bytes {t e : TypeId} {fuel : Nat} {v : Value} {x : DataW H × List MemPlace} (ht : P.underlying t = some (.slice e)) (he : P.underlying e = some (.int .u8)) (hc : P.cellsOf e = 1) (h : DataW.trod enc P w base (fun _ => true) held fuel t [v] = some x) :
  ∃ a len cap zs, v = .slice a len cap ∧ Bas.IsRow .u8 w a len cap zs := by
 rcases open_ints ht he hc h with ⟨hcs, _⟩ | ⟨x, l, c, zs, hcs, _, hl, hm, hz, _, hcell, hwz⟩
 ·cases hcs;exact ⟨none, 0, 0, [], rfl, .inl ⟨rfl, rfl, rfl, rfl⟩⟩
 ·cases hcs;exact ⟨_, _, _, zs, rfl, .inr ⟨_, rfl, hl, hm, by simpa using hz, hcell, hwz⟩⟩
end
end Bas
end Go.Proofs.YtoncnjhhdlpliaaGreat
namespace Go.Proofs.YtoncnjhhdlpliaaGreat
open Go.RowKit
namespace Mx
open Vw Ch Lk St Ln Dr
def pC (gl : Nat) (x : WChain) : Option MChain := (mapOpt (subOf (chainB x) gl) (subsPos (16 + 12 * x.rules.length) x.subs)).map fun ss => ⟨x.first, x.rules, ss⟩
theorem chains_parse (gl : Nat) : ∀ (l : List WChain) (pre post : List Int), mapOpt (chainOf (pre ++ (l.flatMap chainB ++ post)) gl) (chainsPos pre.length l) = mapOpt (pC gl) l
 | [], pre, post => rfl
 | c :: l, pre, post => by
  have e : pre ++ ((c :: l).flatMap chainB ++ post) = pre ++ (chainB c ++ (l.flatMap chainB ++ post)) := by simp [List.flatMap_cons, List.append_assoc]
  have ih := chains_parse gl l (pre ++ chainB c) post;rw [List.length_append, List.append_assoc] at ih;have hpc : ((pre ++ (chainB c ++ (l.flatMap chainB ++ post))).drop pre.length).take (chainB c).length = chainB c := by
   rw [List.drop_left, List.take_append_of_le_length (Nat.le_refl _), List.take_length]
  rw [e, chainsPos, mapOpt, mapOpt, ih];have h1 : chainOf (pre ++ (chainB c ++ (l.flatMap chainB ++ post))) gl ⟨⟨c.first, c.rules, subsPos (16 + 12 * c.rules.length) c.subs⟩, pre.length, (chainB c).length⟩ = pC gl c := by
   unfold chainOf pC;rw [hpc]
  rw [h1]
theorem write_parse (gl : Nat) (l : List WChain) (hl : l.length ≤ 10) (hok : ∀ c ∈ l, okChain c) : morxParse (writeB l) gl = mapOpt (pC gl) l := by
 have hb := all_back l [] hl hok;rw [List.append_nil] at hb;unfold morxParse;rw [hb, Option.bind_some];have h := chains_parse gl l (headB l.length) [];rw [headB_len, List.append_nil] at h;exact h
theorem mapOpt_split {α β : Type} (f : α → Option β) (A B : List α) (x : α) (T : List β) (h : mapOpt f (A ++ x :: B) = some T) : ∃ TA c TB, T = TA ++ c :: TB ∧ mapOpt f A = some TA ∧ f x = some c ∧ mapOpt f (A ++ B) = some (TA ++ TB) := by
 rw [mapOpt_append, mapOpt] at h;cases hA : mapOpt f A with
 | none => rw [hA] at h; cases h
 | some TA =>
  rw [hA, Option.bind_some] at h;cases hx : f x with
  | none => rw [hx] at h; cases h
  | some c =>
   rw [hx, Option.bind_some] at h;cases hB : mapOpt f B with
   | none => rw [hB] at h; cases h
   | some TB =>
    rw [hB] at h; cases h;exact ⟨TA, c, TB, rfl, rfl, rfl, by rw [mapOpt_append, hA, hB]; rfl⟩
def upF : Option (Int × Nat × Nat) → Option (Int × Nat × Nat)
 | some (e, i, k) => some (e, i + 1, k)
 | none => none
def skipF (n : Nat) : Option (Int × Nat × Nat) → Option (Int × Nat × Nat)
 | some (e, i, k) => if n ≤ i then some (e, i + 1, k) else some (e, i, k)
 | none => none
theorem chainsRun_up (F : WkF) (d : Int) : ∀ (l : List (MChain × Int)) (i : Nat) (xs : List Gl) (left : Int), chainsRun F d l (i + 1) xs left = ((chainsRun F d l i xs left).1, upF (chainsRun F d l i xs left).2) ∧ ∀ e q k, (chainsRun F d l i xs left).2 = some (e, q, k) → i ≤ q
 | [], i, xs, left => ⟨rfl, fun e q k h => by cases h⟩
 | (c, fl) :: l, i, xs, left => by
  obtain ⟨r, hr⟩ : ∃ r, subsRun F fl d c.subs 0 xs left = r := ⟨_, rfl⟩;obtain ⟨ys, lf, o⟩ := r;rw [chainsRun_cons, chainsRun_cons, hr];cases o with
  | none =>
   obtain ⟨h1, h2⟩ := chainsRun_up F d l (i + 1) ys lf;exact ⟨h1, fun e q k h => Nat.le_trans (Nat.le_succ i) (h2 e q k h)⟩
  | some q => exact ⟨rfl, fun e q' k h => by cases h; exact Nat.le_refl _⟩
theorem chainsRun_skip (F : WkF) (d : Int) (c : MChain) (fl : Int) (hi : ∀ s ∈ c.subs, asks fl d s = false) : ∀ (A B : List (MChain × Int)) (i : Nat) (xs : List Gl) (left : Int), chainsRun F d (A ++ (c, fl) :: B) i xs left = ((chainsRun F d (A ++ B) i xs left).1, skipF (i + A.length) (chainsRun F d (A ++ B) i xs left).2)
 | [], B, i, xs, left => by
  have hsub : ∀ (l : List MSub) (k : Nat), (∀ s ∈ l, asks fl d s = false) → subsRun F fl d l k xs left = (xs, left, none) := fun l => by
   induction l with
   | nil => intro k _; rfl
   | cons s l ih => intro k h; rw [subsRun_no (h s (by simp))]; exact ih (k + 1) (fun x hx => h x (by simp [hx]))
  obtain ⟨h1, h2⟩ := chainsRun_up F d B i xs left;rw [List.nil_append, List.nil_append, chainsRun_cons, hsub _ _ hi];simp only [h1]
  congr 1
  rw [List.length_nil, Nat.add_zero];cases hq : (chainsRun F d B i xs left).2 with
  | none => rfl
  | some q => obtain ⟨e, q, k⟩ := q; exact (if_pos (h2 e q k hq)).symm
 | (a, fa) :: A, B, i, xs, left => by
  obtain ⟨r, hr⟩ : ∃ r, subsRun F fa d a.subs 0 xs left = r := ⟨_, rfl⟩;obtain ⟨ys, lf, o⟩ := r;rw [List.cons_append, List.cons_append, chainsRun_cons, chainsRun_cons, hr];cases o with
  | none =>
   have h := chainsRun_skip F d c fl hi A B (i + 1) ys lf;rw [List.length_cons, show i + (A.length + 1) = i + 1 + A.length by omega]
   exact h
  | some q =>
   obtain ⟨e, k⟩ := q;simp only
   congr 1
   exact (if_neg (by rw [List.length_cons]; omega)).symm
theorem zip_flags (T : List MChain) : T.zip (flagsOf T []) = T.map fun c => (c, Pk.flagsL (fun s => decide (s ∈ ([] : List (Int × Int)))) c.first (c.rules.map ruOf)) := by
 unfold flagsOf;induction T with
 | nil => rfl
 | cons c T ih => rw [List.map_cons, List.zip_cons_cons, ih, List.map_cons]
theorem asks_zero (d : Int) (s : MSub) : asks 0 d s = false := by
 refine asks_false1 ?_;simp [bits];rfl
theorem masks_law (F : WkF) (gl : Nat) (A B : List WChain) (x : WChain) (T : List MChain) (hT : mapOpt (pC gl) (A ++ ⟨0, [], x.subs, x.more⟩ :: B) = some T) :
  ∃ U, mapOpt (pC gl) (A ++ B) = some U ∧ ∀ (d : Int) (xs : List Gl) (left : Int), chainsRun F d (T.zip (flagsOf T [])) 0 xs left = ((chainsRun F d (U.zip (flagsOf U [])) 0 xs left).1, skipF A.length (chainsRun F d (U.zip (flagsOf U [])) 0 xs left).2) := by
 obtain ⟨TA, c, TB, rfl, hA, hc, hU⟩ := mapOpt_split _ _ _ _ _ hT;refine ⟨_, hU, fun d xs left => ?_⟩
 have hcf : c.first = 0 ∧ c.rules = [] := by
  unfold pC at hc;cases hm : mapOpt (subOf (chainB ⟨0, [], x.subs, x.more⟩) gl) (subsPos (16 + 12 * ([] : List RuleD).length) x.subs) with
  | none => rw [hm] at hc; cases hc
  | some ss => rw [hm] at hc; cases hc; exact ⟨rfl, rfl⟩
 rw [zip_flags, zip_flags, List.map_append, List.map_append, List.map_cons, hcf.1, hcf.2];have h := chainsRun_skip F d c 0 (fun s _ => asks_zero d s) (TA.map fun c => (c, Pk.flagsL (fun s => decide (s ∈ ([] : List (Int × Int)))) c.first (c.rules.map ruOf))) (TB.map fun c => (c, Pk.flagsL (fun s => decide (s ∈ ([] : List (Int × Int)))) c.first (c.rules.map ruOf))) 0 xs left
 rw [Nat.zero_add, List.length_map, mapOpt_len _ _ _ hA] at h;exact h
end Mx
end Go.Proofs.YtoncnjhhdlpliaaGreat
namespace Go.Proofs.YtoncnjhhdlpliaaGreat
open Go.RowKit Go.ChangeShapes Go.WideShapes Go.ChangeAt
namespace Ch
open Vw Wr
def WData0 (w : World) (v : Value) (D : List Int) : Prop := ∃ a len cap zs, v = .slice a len cap ∧ Bas.IsRow .u8 w a len cap zs ∧ D = zs.take len
def WSubs0 (w : World) (v : Value) (l : List WSub) : Prop := ∃ ds : List Value, ds.length = l.length ∧ Row.Leads w v l.length ((l.zip ds).flatMap wSubC) ∧ ∀ (j : Nat) (s : WSub) (d : Value), l[j]? = some s → ds[j]? = some d → WData0 w d s.data
def WChains0 (w : World) (v : Value) (l : List WChain) : Prop := ∃ rs : List (Value × Value), rs.length = l.length ∧ Row.Leads w v l.length ((l.zip rs).flatMap wChainC) ∧
 ∀ (i : Nat) (c : WChain) (r : Value × Value), l[i]? = some c → rs[i]? = some r → Row.Leads w r.1 c.rules.length (c.rules.flatMap wRuleC) ∧ WSubs0 w r.2 c.subs
def rgSub (s : WSub) : Prop := (0 ≤ s.cover ∧ s.cover ≤ 4294967295) ∧ (0 ≤ s.flags ∧ s.flags ≤ 4294967295) ∧ (∀ x ∈ s.data, 0 ≤ x ∧ x ≤ 255)
def rgChain (c : WChain) : Prop := (0 ≤ c.first ∧ c.first ≤ 4294967295) ∧ (0 ≤ c.more ∧ c.more ≤ 255) ∧ (∀ r ∈ c.rules, okRule r) ∧ (∀ s ∈ c.subs, rgSub s)
theorem WData0.len {w : World} {v : Value} {D : List Int} (h : WData0 w v D) : ∃ a cap, v = .slice a D.length cap := by
 obtain ⟨a, len, cap, zs, rfl, hz, rfl⟩ := h;have : (zs.take len).length = len := by
  rcases hz with ⟨rfl, rfl, rfl, rfl⟩ | ⟨x, rfl, hl, hm, hz, _⟩
  ·rfl
  ·rw [List.length_take]; omega
 exact ⟨a, cap, by rw [this]⟩
instance : Inhabited RuleD := ⟨⟨0, 0, 0, 0⟩⟩
instance : Inhabited WSub := ⟨⟨0, 0, []⟩⟩
instance : Inhabited WChain := ⟨⟨0, [], [], 0⟩⟩
theorem zip_self {α β : Type} (l : List (α × β)) : (l.map Prod.fst).zip (l.map Prod.snd) = l := by
 induction l with
 | nil => rfl
 | cons x l ih => simp [ih]
theorem list3 {c : List Value} (h : c.length = 3) {a b d : Value} (h0 : c[0]? = some a) (h1 : c[1]? = some b) (h2 : c[2]? = some d) : c = [a, b, d] := by
 match c, h with
 | [x, y, z], _ => simp at h0 h1 h2; subst h0 h1 h2; rfl
theorem list4 {c : List Value} (h : c.length = 4) {a b d e : Value} (h0 : c[0]? = some a) (h1 : c[1]? = some b) (h2 : c[2]? = some d) (h3 : c[3]? = some e) : c = [a, b, d, e] := by
 match c, h with
 | [x, y, z, t], _ => simp at h0 h1 h2 h3; subst h0 h1 h2 h3; rfl
section
variable {H : Type} {enc : TypeId × Value → H} {w : World} {base : Nat} {held : Bool}
theorem open_rules {fuel : Nat} {v : Value} {x : DataW H × List MemPlace} (h : DataW.trod enc Tryz.prog w base (fun _ => true) held fuel 28 [v] = some x) :
  ∃ l : List RuleD, Row.Leads w v l.length (l.flatMap wRuleC) ∧ ∀ r ∈ l, okRule r := by
 rcases Go.Deep.open_slice Tryz.underlying28 h with ⟨h0, _⟩ | ⟨a, len, cap, m, n, D, Pl, h0, _, hl, hm, hmm, _, hx⟩
 ·cases h0;exact ⟨[], .inl ⟨rfl, rfl, rfl⟩, fun r hr => by cases hr⟩
 ·cases h0;have hc4 : Tryz.prog.cellsOf 111 = 4 := by kernel_rfl
  rw [hc4] at hx;obtain ⟨l, h1, h2, h3⟩ := Bas.open_elems (f := wRuleC) (good := okRule) (by omega) wRuleC_len (w := w) (base := base) (a := a) (len := len) (cap := cap) (fun i hi => by
   obtain ⟨cs, e1, e2⟩ := hx i (by rw [hmm]; simp; omega)
   refine ⟨cs, e1, ?_⟩;obtain ⟨_, hlen, _⟩ := World.cells?_some e1;obtain ⟨n0, f0, w0⟩ := Bas.open_field_int (kd := .u16) 0 _ Tryz.underlying111 e2 rfl (by kernel_rfl) (by rw [hc4]; decide) (by kernel_rfl)
   obtain ⟨n1, f1, w1⟩ := Bas.open_field_int (kd := .u16) 1 _ Tryz.underlying111 e2 rfl (by kernel_rfl) (by rw [hc4]; decide) (by kernel_rfl)
   obtain ⟨n2, f2, w2⟩ := Bas.open_field_int (kd := .u32) 2 _ Tryz.underlying111 e2 rfl (by kernel_rfl) (by rw [hc4]; decide) (by kernel_rfl)
   obtain ⟨n3, f3, w3⟩ := Bas.open_field_int (kd := .u32) 3 _ Tryz.underlying111 e2 rfl (by kernel_rfl) (by rw [hc4]; decide) (by kernel_rfl)
   exact ⟨⟨n0, n1, n2, n3⟩, list4 hlen f0 f1 f2 f3, Bas.wf_u16 w0, Bas.wf_u16 w1, Bas.wf_u32 w2, Bas.wf_u32 w3⟩)
  subst h1;exact ⟨l, h2, h3⟩
theorem open_subs {fuel : Nat} {v : Value} {x : DataW H × List MemPlace} (h : DataW.trod enc Tryz.prog w base (fun _ => true) held fuel 29 [v] = some x) :
  ∃ l : List WSub, WSubs0 w v l ∧ ∀ s ∈ l, rgSub s := by
 rcases Go.Deep.open_slice Tryz.underlying29 h with ⟨h0, _⟩ | ⟨a, len, cap, m, n, D, Pl, h0, _, hl, hm, hmm, _, hx⟩
 ·cases h0;exact ⟨[], ⟨[], rfl, .inl ⟨rfl, rfl, rfl⟩, fun j s d hs => by simp at hs⟩, fun r hr => by cases hr⟩
 ·cases h0;have hc3 : Tryz.prog.cellsOf 44 = 3 := by kernel_rfl
  rw [hc3] at hx;obtain ⟨l, h1, h2, h3⟩ := Bas.open_elems (f := wSubC) (good := fun x => WData0 w x.2 x.1.data ∧ rgSub x.1) (by omega) wSubC_len (w := w) (base := base) (a := a) (len := len) (cap := cap) (fun i hi => by
   obtain ⟨cs, e1, e2⟩ := hx i (by rw [hmm]; simp; omega)
   refine ⟨cs, e1, ?_⟩;obtain ⟨_, hlen, _⟩ := World.cells?_some e1;obtain ⟨n0, f0, w0⟩ := Bas.open_field_int (kd := .u32) 0 _ Tryz.underlying44 e2 rfl (by kernel_rfl) (by rw [hc3]; decide) (by kernel_rfl)
   obtain ⟨n1, f1, w1⟩ := Bas.open_field_int (kd := .u32) 1 _ Tryz.underlying44 e2 rfl (by kernel_rfl) (by rw [hc3]; decide) (by kernel_rfl)
   obtain ⟨_, v2, y2, m2, f2, t2⟩ := Bas.open_field 2 _ Tryz.underlying44 e2 rfl (by kernel_rfl) (by rw [hc3]; decide)
   obtain ⟨a2, l2, c2, z2, rfl, hz⟩ := Bas.open_bytes (e := 5) (by kernel_rfl) Tryz.underlying5 (by kernel_rfl) t2
   refine ⟨(⟨n0, n1, z2.take l2⟩, .slice a2 l2 c2), list3 hlen f0 f1 f2, ⟨_, _, _, _, rfl, hz, rfl⟩, Bas.wf_u32 w0, Bas.wf_u32 w1, fun y hy => ?_⟩
   rcases hz with ⟨rfl, rfl, rfl, rfl⟩ | ⟨q, rfl, _, _, _, _, hwz⟩
   ·cases hy
   ·exact Bas.wf_u8 (hwz y (List.mem_of_mem_take hy)))
  subst h1;refine ⟨l.map Prod.fst, ⟨l.map Prod.snd, by simp, by rw [zip_self, List.length_map]; exact h2, fun j s d hs hd => ?_⟩, fun s hs => ?_⟩
  ·rw [List.getElem?_map] at hs hd;cases hj : l[j]? with
   | none => rw [hj] at hs; cases hs
   | some y =>
    rw [hj] at hs hd;cases hs; cases hd;exact (h3 y (List.mem_of_getElem? hj)).1
  ·obtain ⟨y, hy, rfl⟩ := List.mem_map.1 hs;exact (h3 y hy).2
end
end Ch
end Go.Proofs.YtoncnjhhdlpliaaGreat
namespace Go.Proofs.YtoncnjhhdlpliaaGreat
open Go.RowKit
namespace Mx
open Vw Ch Lk St Ln Dr Wr
theorem byteT {α : Type} {f : α → List Int} (l : List α) (h : ∀ a ∈ l, ∀ x ∈ f a, 0 ≤ x ∧ x ≤ 255) : ∀ x ∈ l.flatMap f, 0 ≤ x ∧ x ≤ 255 := fun x hx => by
 obtain ⟨a, ha, hx⟩ := List.mem_flatMap.1 hx;exact h a ha x hx
theorem writeT (l : List WChain) (h : ∀ c ∈ l, okChain c) : ∀ x ∈ writeB l, 0 ≤ x ∧ x ≤ 255 := by
 have P := putB_byte;intro x hx;simp only [writeB, headB, List.mem_append] at hx;rcases hx with ((hx | hx) | hx) | hx
 ·exact P _ _ x hx
 ·exact P _ _ x hx
 ·exact P _ _ x hx
 ·refine byteT _ (fun c hc y hy => ?_) x hx
  obtain ⟨_, _, _, h4, _⟩ := h c hc;simp only [chainB, inB, List.mem_append] at hy;rcases hy with (((hy | hy) | hy) | hy) | (hy | hy) | hy
  ·exact P _ _ y hy
  ·exact P _ _ y hy
  ·exact P _ _ y hy
  ·exact P _ _ y hy
  ·refine byteT _ (fun r _ z hz => ?_) y hy
   simp only [ruleB, List.mem_append] at hz;rcases hz with ((hz | hz) | hz) | hz <;> exact P _ _ z hz
  ·refine byteT _ (fun s hs z hz => ?_) y hy
   simp only [subB, List.mem_append] at hz;rcases hz with ((hz | hz) | hz) | hz
   ·exact P _ _ z hz
   ·exact P _ _ z hz
   ·exact P _ _ z hz
   ·exact (h4 s hs).2.2.1 z hz
  ·rw [List.mem_replicate] at hy; omega
theorem writeT_len (l : List WChain) (hl : l.length ≤ 10) (h : ∀ c ∈ l, okChain c) : 8 ≤ (writeB l).length ∧ (writeB l).length ≤ 46238 := by
 have := Row.flat_len_le chainB 4623 l (fun c hc => chainB_len_le c (h c hc))
 simp only [writeB, List.length_append, headB_len];omega
def ChainsP (w : World) (l : List WChain) (e : Ending) (w' : World) : Prop :=
 Below w.heap.size w w' ∧ match mapOpt (pC 40) l with
  | none => e = .returned (.pointer none)
  | some T => ∃ g, e = .returned (.pointer (some ⟨g, 0, none⟩)) ∧ Lives w.heap.size (fun u => MorxAt u (.pointer (some ⟨g, 0, none⟩)) T) w'
set_option maxRecDepth 100000 in
theorem chains_any (v : Value) (l : List WChain) (w : World) (hl : l.length ≤ 10) (hok : ∀ c ∈ l, okChain c) (hin : WChains w v l) :
  Calls Tryz.prog 7 #[v] w (ChainsP w l) := by
 have HW := Bas.hid (write_any v l w hl hok hin);obtain ⟨rs, _, hlead, _⟩ := hin;obtain ⟨ad, cap, rfl⟩ := Row.leads_slice hlead;clear hlead;go_enter Tryz.func7, Tryz.ntmps7
 go_wp2_with (fail);refine HW.out.mono ?_;rintro e w4 ⟨v4, rfl, hown, hb4⟩;have hwl := writeT_len l hl hok;obtain ⟨g4, cg4, rfl, hgb, hgl, hgc, hgm, hvg, -⟩ := owned hown (fun e => by
  rcases Row.owned_parts hown with ⟨_, h0, _⟩ | ⟨_, _, h0, _⟩
  ·omega
  ·rw [h0] at e; cases e) rfl (writeT l hok) (by omega)
 have HB4 := Bas.hid hb4;have HRD := Bas.hid (mread_any (some ⟨g4, 0, none⟩) _ cg4 (writeB l) 40 w4 hgc hgm hvg rfl (by omega) (by simp) (by omega) (by omega))
 clear hown hb4 hvg hgc hgm hgl hgb hwl HW;go_wp2_with (fail);refine HRD.out.mono ?_;rintro e w5 ⟨hb5, h⟩;have HB5 := Bas.hid (HB4.out.trans (hb5.mono HB4.out.size));rw [write_parse 40 l hl hok] at h;clear hb5 HRD;cases hpar : mapOpt (pC 40) l with
 | none =>
  rw [hpar] at h;simp only at h;subst h;have HP : Hid (ChainsP w l (.returned (.pointer none)) w5) := ⟨HB5.out, by rw [hpar]⟩
  clear hpar;go_wp2_with (fail);go_ret;exact HP.out
 | some T =>
  rw [hpar] at h;simp only at h;obtain ⟨p, rfl, hlv⟩ := h;have hat := hlv.now;obtain ⟨gt, _, _, hpe, _⟩ := id hat;cases hpe;have HP : Hid (ChainsP w l (.returned (.pointer (some ⟨gt, 0, none⟩))) w5) := ⟨HB5.out, by rw [hpar]; exact ⟨_, rfl, hlv.mono HB4.out.size⟩⟩
  clear hpar hlv hat;go_wp2_with (fail);go_ret;exact HP.out
def szTop (c : WChain) : Prop := c.rules.length ≤ 20 ∧ c.subs.length ≤ 5 ∧ ∀ s ∈ c.subs, s.data.length ≤ 400
theorem ok_top (c : WChain) (h : rgChain c) (k : szTop c) : okChain c :=
 ⟨h.1, h.2.1, h.2.2.1, fun s hs => ⟨(h.2.2.2 s hs).1, (h.2.2.2 s hs).2.1, (h.2.2.2 s hs).2.2, k.2.2 s hs⟩, Nat.le_trans k.1 (by omega), Nat.le_trans k.2.1 (by omega)⟩
theorem chains0_up {w : World} {v : Value} {l : List WChain} (h : WChains0 w v l) (hs : ∀ c ∈ l, szTop c) : WChains w v l := by
 obtain ⟨rs, h1, h2, h3⟩ := h;refine ⟨rs, h1, h2, fun i c r hc hr => ?_⟩
 obtain ⟨h4, ds, h5, h6, h7⟩ := h3 i c r hc hr;refine ⟨h4, ds, h5, h6, fun j s d hs' hd => ?_⟩
 obtain ⟨a, len, cap, zs, rfl, hz, hD⟩ := h7 j s d hs' hd;have hl := (hs c (List.mem_of_getElem? hc)).2.2 s (List.mem_of_getElem? hs');have hlen : (zs.take len).length = len := by
  rcases hz with ⟨rfl, rfl, rfl, rfl⟩ | ⟨x, rfl, hl, hm, hz, _⟩
  ·rfl
  ·rw [List.length_take]; omega
 rw [hD, hlen] at hl;obtain ⟨q1, q2, q3, q4, q5⟩ := VB_of_row hz (by omega)
 exact ⟨a, cap, by rw [hD, hlen], by rw [hD]; exact q1, by rw [hD, hlen]; exact q3, q4, q5⟩
def BigT (w : World) (l : List WChain) (idn : Nat) (e : Ending) (w' : World) : Prop := ∃ b, e = .returned (.bool b) ∧ Below w.heap.size w w' ∧ (b = false → (l.length ≤ 4 ∧ ∀ c ∈ l, szTop c) ∧ idn ≤ 30)
set_option maxRecDepth 100000 in
set_option maxHeartbeats 8000000 in
theorem tbig_any (v : Value) (l : List WChain) (ida : Option Addr) (idn idc : Nat) (w : World) (hin : WChains0 w v l) (hsm : l.length ≤ 9223372036854775807) (hss : ∀ c ∈ l, c.subs.length ≤ 9223372036854775807 ∧ c.rules.length ≤ 9223372036854775807) :
  Calls Tryz.prog 8 #[v, .slice ida idn idc] w (BigT w l idn) := by
 obtain ⟨rs, hrl, hlead, hel⟩ := hin;obtain ⟨ad, cap, rfl⟩ := Row.leads_slice hlead;obtain ⟨n, hn⟩ : ∃ n, n = l.length := ⟨_, rfl⟩;rw [← hn];have HN := Bas.hid hn;have HEL := Bas.hid hel;have HLD := Bas.hid hlead;have HRL := Bas.hid hrl;have HSS := Bas.hid hss;clear hrl hlead hel hn hss;have hn63 : n ≤ 9223372036854775807 := by rw [HN.out]; exact hsm
 go_enter Tryz.func8, Tryz.ntmps8
 go_wp2_with (fail);have HB0 := Bas.hid (Below.refl w.heap.size w);go_loopw [11] (fun vi wr => ∃ k : Nat, k ≤ n ∧ vi = .int .i64 k ∧ (∀ c ∈ l.take k, szTop c) ∧ Below w.heap.size w wr) (fun vi _ => n - (intOf vi).toNat)
 case atStart => exact ⟨0, Nat.zero_le _, rfl, fun c hc => by simp at hc, HB0.out⟩
 case round =>
  obtain ⟨k, hk, rfl, hsz, hb⟩ := hrel;have HB := Bas.hid hb;have HSZ := Bas.hid hsz;by_cases hkn : k < n
  ·have hlen := HN.out;obtain ⟨c, hc⟩ : ∃ c, l[k]? = some c := ⟨_, List.getElem?_eq_getElem (by omega)⟩
   obtain ⟨r, hr⟩ : ∃ r, rs[k]? = some r := ⟨_, List.getElem?_eq_getElem (by rw [HRL.out]; omega)⟩
   obtain ⟨hru, hsu⟩ := HEL.out k c r hc hr;have hz : (l.zip rs)[k]? = some (c, r) := List.getElem?_zip_eq_some.2 ⟨hc, hr⟩;obtain ⟨B0, O0, cp0, hv0, hcl⟩ := Row.leads_elem wChainC_len HLD.out hz (by omega)
   obtain ⟨vr, vs⟩ := r;obtain ⟨ds, hdl, hsl, hsd⟩ := hsu;obtain ⟨ar, cr, rfl⟩ := Row.leads_slice hru;obtain ⟨as', cs', rfl⟩ := Row.leads_slice hsl;cases hv0;have q0 := (hb.cell (p := ⟨B0, O0 + k * 4, none⟩) (World.block_lt_of_cell? _ _ (hcl 0 _ rfl))).trans (hcl 0 _ rfl);have q1 := (hb.cell (p := ⟨B0, O0 + k * 4 + 1, none⟩) (World.block_lt_of_cell? _ _ (hcl 1 _ rfl))).trans (hcl 1 _ rfl);have q2 := (hb.cell (p := ⟨B0, O0 + k * 4 + 2, none⟩) (World.block_lt_of_cell? _ _ (hcl 2 _ rfl))).trans (hcl 2 _ rfl);have q3 := (hb.cell (p := ⟨B0, O0 + k * 4 + 3, none⟩) (World.block_lt_of_cell? _ _ (hcl 3 _ rfl))).trans (hcl 3 _ rfl);have HSL := Bas.hid hsl;have HSD := Bas.hid hsd;have HDL := Bas.hid hdl;have HCK := Bas.hid hc;obtain ⟨nr, hnr⟩ : ∃ nr, nr = c.rules.length := ⟨_, rfl⟩;obtain ⟨ns, hns⟩ : ∃ ns, ns = c.subs.length := ⟨_, rfl⟩;simp only [← hnr, ← hns] at q0 q1 q2 q3 HSL;have HNR := Bas.hid hnr;have HNS := Bas.hid hns;clear hcl hru hsl hsd hdl hb hr hnr hns hlen hc hsz;have HB1 := Bas.hid (HB.out.trans (((Below.refl wr.heap.size wr).alloc (Nat.le_refl _) (.cells #[.int .u32 c.first, .slice ar nr cr, .slice as' ns cs', .int .u8 c.more] 31)).mono HB.out.size));have k5 := Bas.heap_new wr (.cells #[.int .u32 c.first, .slice ar nr cr, .slice as' ns cs', .int .u8 c.more] 31);have hssk := HSS.out c (List.mem_of_getElem? HCK.out);have hns63 : ns ≤ 9223372036854775807 := by rw [HNS.out]; exact hssk.1
   go_wp2_with (fail);generalize wr.alloc (.cells #[.int .u32 c.first, .slice ar nr cr, .slice as' ns cs', .int .u8 c.more] 31) = Wc at *;generalize wr.heap.size = T5 at k5 ⊢;clear q0 q1 q2 q3 HB;go_loopw [18] (fun vi wr => ∃ j : Nat, j ≤ ns ∧ vi = .int .i64 j ∧ (∀ s ∈ c.subs.take j, s.data.length ≤ 400) ∧ Below Wc.heap.size Wc wr) (fun vi _ => ns - (intOf vi).toNat)
   case atStart => exact ⟨0, Nat.zero_le _, rfl, fun c hc => by simp at hc, Below.refl _ _⟩
   case round =>
    obtain ⟨j, hj, rfl, hsj, hb⟩ := hrel;have HBJ := Bas.hid hb;have HSJ := Bas.hid hsj;by_cases hjn : j < ns
    ·have hlen := HNS.out;obtain ⟨s, hs⟩ : ∃ s, c.subs[j]? = some s := ⟨_, List.getElem?_eq_getElem (by omega)⟩
     obtain ⟨d, hd⟩ : ∃ d, ds[j]? = some d := ⟨_, List.getElem?_eq_getElem (by rw [HDL.out]; omega)⟩
     have hz : (c.subs.zip ds)[j]? = some (s, d) := List.getElem?_zip_eq_some.2 ⟨hs, hd⟩;obtain ⟨B1, O1, cp1, hv1, hcl⟩ := Row.leads_elem wSubC_len HSL.out hz (by omega)
     cases hv1;obtain ⟨da, dcap, rfl⟩ := (HSD.out j s d hs hd).len;have HBw := HB1.out.trans (hb.mono HB1.out.size);have q0 := (HBw.cell (p := ⟨B1, O1 + j * 3, none⟩) (World.block_lt_of_cell? _ _ (hcl 0 _ rfl))).trans (hcl 0 _ rfl);have q1 := (HBw.cell (p := ⟨B1, O1 + j * 3 + 1, none⟩) (World.block_lt_of_cell? _ _ (hcl 1 _ rfl))).trans (hcl 1 _ rfl);have q2 := (HBw.cell (p := ⟨B1, O1 + j * 3 + 2, none⟩) (World.block_lt_of_cell? _ _ (hcl 2 _ rfl))).trans (hcl 2 _ rfl);have HS := Bas.hid hs;obtain ⟨m, hm⟩ : ∃ m, m = s.data.length := ⟨_, rfl⟩;simp only [← hm] at q2;have HM := Bas.hid hm;have HBE := Bas.hid (hb.trans (((Below.refl wr.heap.size wr).alloc (Nat.le_refl _) (.cells #[.int .u32 s.cover, .int .u32 s.flags, .slice da m dcap] 44)).mono hb.size));have HBE1 := Bas.hid (HB1.out.trans (HBE.out.mono HB1.out.size));clear hcl HBw hs hd hz hlen hm hb hsj;by_cases g3 : 400 < m
     ·have d3 : decide ((400 : Int) < (m : Int)) = true := by simp; omega
      go_wp2_with (fail);exact bodyPost_ret (v := .bool true) (by simp [results, Tryz.results8, go_sem]) rfl ⟨_, rfl, HBE1.out, fun h => by cases h⟩
     ·have d3 : decide ((400 : Int) < (m : Int)) = false := by simp; omega
      go_wp2_with (fail);go_roundw
      case rel => exact ⟨j + 1, by omega, by go_num, fun y hy => by
       rw [List.take_add_one, HS.out] at hy;rcases List.mem_append.1 hy with h | h
       ·exact HSJ.out y h
       ·simp at h; subst h; rw [← HM.out]; omega, HBE.out⟩
      case measure => simp [intOf]; omega
    ·have hjn2 : j = ns := by omega
     have hdone : ∀ s ∈ c.subs, s.data.length ≤ 400 := fun s hs => by
      have h := HSJ.out s;rw [hjn2, HNS.out, List.take_length] at h;exact h hs
     have HD := Bas.hid hdone;have HBE1 := Bas.hid (HB1.out.trans (HBJ.out.mono HB1.out.size));have kC := (hb.block _ (heap_lt k5)).trans k5;have t1 := cell_of_heap (i := 1) kC rfl;have t2 := cell_of_heap (i := 2) kC rfl;have lC := heap_lt kC;have f3 : decide ((j : Int) < (ns : Int)) = false := by simp; omega
     clear hb hsj hdone hjn2;by_cases g2 : 5 < ns
     ·have d2 : decide ((5 : Int) < (ns : Int)) = true := by simp; omega
      go_wp2_with (fail);exact bodyPost_ret (v := .bool true) (by simp [results, Tryz.results8, go_sem]) rfl ⟨_, rfl, HBE1.out, fun h => by cases h⟩
     ·have d2 : decide ((5 : Int) < (ns : Int)) = false := by simp; omega
      by_cases g1 : 20 < nr
      ·have d1 : decide ((20 : Int) < (nr : Int)) = true := by simp; omega
       go_wp2_with (fail);exact bodyPost_ret (v := .bool true) (by simp [results, Tryz.results8, go_sem]) rfl ⟨_, rfl, HBE1.out, fun h => by cases h⟩
      ·have d1 : decide ((20 : Int) < (nr : Int)) = false := by simp; omega
       go_wp2_with (fail);go_roundw
       case rel => exact ⟨k + 1, by omega, by go_num, fun y hy => by
        rw [List.take_add_one, HCK.out] at hy;rcases List.mem_append.1 hy with h | h
        ·exact HSZ.out y h
        ·simp at h; subst h; exact ⟨by rw [← HNR.out]; omega, by rw [← HNS.out]; omega, HD.out⟩, HBE1.out⟩
       case measure => simp [intOf]; omega
  ·have hkn2 : k = n := by omega
   have hdone : ∀ c ∈ l, szTop c := fun c hc => by
    have h := HSZ.out c;rw [hkn2, HN.out, List.take_length] at h;exact h hc
   have HD := Bas.hid hdone;have f4 : decide ((k : Int) < (n : Int)) = false := by simp; omega
   clear hb hsz hdone hkn2;by_cases g3 : 4 < n
   ·have d3 : decide ((4 : Int) < (n : Int)) = true := by simp; omega
    go_wp2_with (fail);go_ret;exact ⟨_, rfl, HB.out, fun h => by cases h⟩
   ·have d3 : decide ((4 : Int) < (n : Int)) = false := by simp; omega
    by_cases g4 : 30 < idn
    ·have d4 : decide ((30 : Int) < (idn : Int)) = true := by simp; omega
     go_wp2_with (fail);go_ret;exact ⟨_, rfl, HB.out, fun h => by cases h⟩
    ·have d4 : decide ((30 : Int) < (idn : Int)) = false := by simp; omega
     go_wp2_with (fail);go_ret;exact ⟨_, rfl, HB.out, fun _ => ⟨⟨by have := HN.out; omega, HD.out⟩, by omega⟩⟩
theorem append_blk {P : Program} {w : World} {ops : Array Oper} {rest : List Oper} {o : Oper} {a : Act} {Q : Exit → Act → World → Prop} (hgd : o.guard = none) (s x : Operand) (t e : TypeId)
  (ho : o.op = .call { callee := .builtin .append, args := #[s, x], argTypes := #[t, t] })
  (z : Value) (size bytes : Nat) (ht : P.underlying t = some (.slice e)) (hinfo : (P.info? e).map (fun i => (i.zero, i.size, i.bytes)) = some (some z, size, bytes)) (hzs : z.cells.size = size) (hsz : 0 < size)
  (base g n cap : Nat) (xs : List Value) (hs : a.eval s = .slice (some ⟨g, 0, none⟩) n cap) (hown : w.ownsRow base e size (.slice (some ⟨g, 0, none⟩) n cap) n xs)
  (ad : Addr) (m c : Nat) (news : List Value) (hx : a.eval x = .slice (some ad) m c) (hl : news.length = m * size) (hnews : ∀ j u, news[j]? = some u → w.cell? (ad.add j) = some u) (h1 : ∀ u ∈ news, u.oneCell' = true)
  (h63 : n + m ≤ maxLen) (hbd : (n + m) * bytes ≤ 140737488355328) (hbase : base ≤ w.heap.size)
  (h : ∀ g' cap' w', w'.ownsRow base e size (.slice (some ⟨g', 0, none⟩) (n + m) cap') (n + m) (xs ++ news) → w.grownBy w' (some g) → (g' = g ∨ g' = w.heap.size) → wpList P ops Q rest (a.put o.dst (.slice (some ⟨g', 0, none⟩) (n + m) cap')) w') :
  wpList P ops Q (o :: rest) a w := by
 obtain ⟨i8, hi8, hz1, hz2, hz3⟩ := info_parts hinfo;subst hz2;obtain ⟨v', w', hr, h2, h3, -⟩ := run_append_own (P := P) w base t o.type e i8 z _ bytes ht hi8 hz1 rfl hz3 hzs hsz _ n xs hown ad m c news hl hnews h1 h63 hbd hbase;have key : ∃ g' cap', v' = .slice (some ⟨g', 0, none⟩) (n + m) cap' ∧ (g' = g ∨ g' = w.heap.size) := by
  obtain ⟨hxl, ⟨h0, _⟩ | ⟨g0, cap0, cur, heq, _, hg0, _, _, hcs, _⟩⟩ := hown
  ·cases h0
  ·cases heq;by_cases hroom : n + m ≤ cap
   ·have hr2 := run_append_room (P := P) w t o.type e i8 ht hi8 g n cap cur hg0 ad m c news hl hnews h1 hroom (by rw [hl, hcs, ← Nat.add_mul]; exact Nat.mul_le_mul_right _ hroom)
    rw [hr] at hr2;injection hr2 with e1 _
    exact ⟨g, cap, e1, .inl rfl⟩
   ·have hr2 := run_append_grow (P := P) w t o.type e i8 z ht hi8 hz1 ⟨g, 0, none⟩ n cap xs hxl (World.ownsRow.cells (base := base) (e := e) ⟨hxl, .inr ⟨g, cap, cur, rfl, by assumption, hg0, by assumption, by assumption, hcs, by assumption⟩⟩ rfl) ad m c news hl hnews (by omega) (by unfold maxLen at h63; omega) (growslice_fits (by omega) (by rw [hz3]; exact hbd))
    rw [hr] at hr2;injection hr2 with e1 _
    exact ⟨_, _, e1, .inr rfl⟩
 obtain ⟨g', cap', rfl, hg'⟩ := key;refine wpList_plain hgd fun _ hK => ?_
 unfold Oper.wp execOp;simp only [ho, resolve, invoke, builtin, Sem.run_bind, Sem.run_pure, Result.andThen_ok, List.map_toArray, List.map_cons, List.map_nil, hs, hx, hr];exact hK _ _ (h g' cap' w' h2 h3 hg')
theorem masked_chains {u : World} {v : Value} {l : List WChain} {rs : List (Value × Value)} {k : Nat} {c : WChain} {r : Value × Value} (hrl : rs.length = l.length)
  (hlead : Row.Leads u v l.length (((l.set k ⟨0, [], c.subs, c.more⟩).zip (rs.set k (.slice none 0 0, r.2))).flatMap wChainC))
  (hel : ∀ (i : Nat) (c : WChain) (r : Value × Value), l[i]? = some c → rs[i]? = some r → Row.Leads u r.1 c.rules.length (c.rules.flatMap wRuleC) ∧ WSubs u r.2 c.subs) (hc : l[k]? = some c) (hr : rs[k]? = some r) : WChains u v (l.set k ⟨0, [], c.subs, c.more⟩) := by
 refine ⟨rs.set k (.slice none 0 0, r.2), by simp [hrl], by simpa using hlead, fun i x s hx hs => ?_⟩
 by_cases hik : i = k
 ·subst hik;rw [List.getElem?_set_self (List.getElem?_eq_some_iff.1 hc).1] at hx;rw [List.getElem?_set_self (List.getElem?_eq_some_iff.1 hr).1] at hs;cases hx; cases hs;exact ⟨.inl ⟨rfl, rfl, rfl⟩, (hel _ _ _ hc hr).2⟩
 ·rw [List.getElem?_set_ne (Ne.symm hik)] at hx hs;exact hel i x s hx hs
theorem dropped_chains {u : World} {v : Value} {l : List WChain} {rs : List (Value × Value)} {k : Nat} (hrl : rs.length = l.length) (hk : k < l.length)
  (hlead : Row.Leads u v (k + (l.length - (k + 1))) (((l.zip rs).take k).flatMap wChainC ++ ((l.zip rs).drop (k + 1)).flatMap wChainC))
  (hel : ∀ (i : Nat) (c : WChain) (r : Value × Value), l[i]? = some c → rs[i]? = some r → Row.Leads u r.1 c.rules.length (c.rules.flatMap wRuleC) ∧ WSubs u r.2 c.subs) : WChains u v (l.take k ++ l.drop (k + 1)) := by
 have hz : (l.take k ++ l.drop (k + 1)).zip (rs.take k ++ rs.drop (k + 1)) = (l.zip rs).take k ++ (l.zip rs).drop (k + 1) := by
  rw [List.zip_append (by simp [hrl])]
  unfold List.zip;rw [List.take_zipWith, List.drop_zipWith]
 have hlen : (l.take k ++ l.drop (k + 1)).length = k + (l.length - (k + 1)) := by
  rw [List.length_append, List.length_take, List.length_drop, Nat.min_eq_left (by omega)]
 refine ⟨rs.take k ++ rs.drop (k + 1), by simp [hrl], ?_, fun i x s hx hs => ?_⟩
 ·rw [hz, List.flatMap_append, hlen];exact hlead
 ·have hm : (x, s) ∈ (l.zip rs).take k ++ (l.zip rs).drop (k + 1) := by
   rw [← hz];exact List.mem_of_getElem? (List.getElem?_zip_eq_some.2 ⟨hx, hs⟩)
  have hm2 : (x, s) ∈ l.zip rs := by
   rcases List.mem_append.1 hm with h | h
   ·exact List.mem_of_mem_take h
   ·exact List.mem_of_mem_drop h
  obtain ⟨j, hj⟩ := List.mem_iff_getElem?.1 hm2;obtain ⟨h1, h2⟩ := List.getElem?_zip_eq_some.1 hj;exact hel j x s h1 h2
theorem parts_cells {w : World} {A : Addr} {l : List (WChain × (Value × Value))} (h : ∀ j u, (l.flatMap wChainC)[j]? = some u → w.cell? (A.add j) = some u) (k : Nat) (hk : k ≤ l.length) :
  (∀ j u, ((l.take k).flatMap wChainC)[j]? = some u → w.cell? (A.add j) = some u) ∧ ((l.take k).flatMap wChainC).length = k * 4 ∧ (∀ j u, ((l.drop k).flatMap wChainC)[j]? = some u → w.cell? (A.add (k * 4 + j)) = some u) ∧ ((l.drop k).flatMap wChainC).length = (l.length - k) * 4 := by
 have hf : ∀ m : List (WChain × (Value × Value)), (m.flatMap wChainC).length = m.length * 4 := fun m => by
  induction m with
  | nil => rfl
  | cons x m ih => rw [List.flatMap_cons, List.length_append, ih, wChainC_len, List.length_cons]; omega
 have hs : l.flatMap wChainC = (l.take k).flatMap wChainC ++ (l.drop k).flatMap wChainC := by rw [← List.flatMap_append, List.take_append_drop]
 have h1 : ((l.take k).flatMap wChainC).length = k * 4 := by rw [hf, List.length_take, Nat.min_eq_left hk]
 refine ⟨fun j u hu => h j u ?_, h1, fun j u hu => h _ u ?_, by rw [hf, List.length_drop]⟩
 ·rw [hs, List.getElem?_append_left (List.getElem?_eq_some_iff.1 hu).1];exact hu
 ·rw [hs, List.getElem?_append_right (by omega), h1, Nat.add_sub_cancel_left]
  exact hu
theorem elem_below {w u : World} {l : List WChain} {rs : List (Value × Value)} (hel : ∀ (i : Nat) (c : WChain) (r : Value × Value), l[i]? = some c → rs[i]? = some r → Row.Leads w r.1 c.rules.length (c.rules.flatMap wRuleC) ∧ WSubs w r.2 c.subs) (hb : Below w.heap.size w u) :
  ∀ (i : Nat) (c : WChain) (r : Value × Value), l[i]? = some c → rs[i]? = some r → Row.Leads u r.1 c.rules.length (c.rules.flatMap wRuleC) ∧ WSubs u r.2 c.subs := fun i c r hc hr => by
 obtain ⟨h4, ds, q1, q2, q3⟩ := hel i c r hc hr;refine ⟨Row.leads_below h4 hb, ds, q1, Row.leads_below q2 hb, fun j s d hs hd => ?_⟩
 obtain ⟨a, cap, e, hv, r1, r2, r3⟩ := q3 j s d hs hd;exact ⟨a, cap, e, hv.below hb, r1, r2, r3⟩
theorem win_below1 {w w' : World} {v : Value} {l : List WChain} (hin : WChains w v l) (hb : Below w.heap.size w w') : WChains w' v l := by
 obtain ⟨rs, h1, h2, h3⟩ := hin;exact ⟨rs, h1, Row.leads_below h2 hb, elem_below h3 hb⟩
def TAt (l : List WChain) (tp : Option Addr) (u : World) : Prop := match mapOpt (pC 40) l with
 | none => tp = none
 | some T => (∃ g, tp = some ⟨g, 0, none⟩) ∧ MorxAt u (.pointer tp) T
theorem TAt.below {l : List WChain} {tp : Option Addr} {u u' : World} (h : TAt l tp u) (hb : Below u.heap.size u u') : TAt l tp u' := by
 unfold TAt at *;split <;> rename_i hp <;> rw [hp] at h
 ·exact h
 ·exact ⟨h.1, h.2.below hb⟩
theorem chains_t (v : Value) (l : List WChain) (w : World) (hl : l.length ≤ 10) (hok : ∀ c ∈ l, okChain c) (hin : WChains w v l) :
  Calls Tryz.prog 7 #[v] w fun e w' => Below w.heap.size w w' ∧ ∃ tp, e = .returned (.pointer tp) ∧ Lives w.heap.size (TAt l tp) w' := by
 refine (chains_any v l w hl hok hin).mono ?_;rintro e w' ⟨hb, h⟩;refine ⟨hb, ?_⟩;cases hp : mapOpt (pC 40) l with
 | none =>
  rw [hp] at h;exact ⟨none, h, fun u _ => by unfold TAt; rw [hp]⟩
 | some T =>
  rw [hp] at h;obtain ⟨g, h1, h2⟩ := h;exact ⟨_, h1, fun u hu => by unfold TAt; rw [hp]; exact ⟨⟨g, rfl⟩, h2 u hu⟩⟩
theorem subs_fault (F : WkF) (fl d : Int) : ∀ (l : List MSub) (k : Nat) (xs : List Gl) (left : Int) (e : Int) (i : Nat), (subsRun F fl d l k xs left).2.2 = some (e, i) → e ≠ 0
 | [], _, _, _, _, _, h => by cases h
 | s :: l, k, xs, left, e, i, h => by
  unfold subsRun at h;cases ha : asks fl d s with
  | false => rw [ha] at h; exact subs_fault F fl d l _ _ _ e i h
  | true =>
   rw [ha] at h;simp only at h;split at h
   ·exact subs_fault F fl d l _ _ _ e i h
   ·cases h; assumption
theorem chains_fault (F : WkF) (d : Int) : ∀ (l : List (MChain × Int)) (i : Nat) (xs : List Gl) (left : Int) (e : Int) (q k : Nat), (chainsRun F d l i xs left).2 = some (e, q, k) → e ≠ 0 ∧ q < i + l.length
 | [], _, _, _, _, _, _, h => by cases h
 | (c, fl) :: l, i, xs, left, e, q, k, h => by
  rw [chainsRun_cons] at h;obtain ⟨r, hr⟩ : ∃ r, subsRun F fl d c.subs 0 xs left = r := ⟨_, rfl⟩;rw [hr] at h;obtain ⟨ys, lf, o⟩ := r;cases o with
  | none =>
   have := chains_fault F d l (i + 1) ys lf e q k h;rw [List.length_cons];exact ⟨this.1, by omega⟩
  | some x =>
   obtain ⟨e', k'⟩ := x;cases h;exact ⟨subs_fault F fl d c.subs 0 xs left e k (by rw [hr]), by rw [List.length_cons]; omega⟩
theorem few_top (l : List WChain) (T : List MChain) (hl : l.length ≤ 10) (hok : ∀ c ∈ l, okChain c) (hT : mapOpt (pC 40) l = some T) :
  T.length ≤ 100000 ∧ (∀ c ∈ T, c.rules.length ≤ 100000) ∧ (∀ c ∈ T, c.subs.length ≤ 1000000) ∧ ∀ d fls, RunOk fAll preL d T fls := by
 have hp : morxParse (writeB l) 40 = some T := (write_parse 40 l hl hok).trans hT;have hf := morx_few (writeT l hok) hp;have hw := writeT_len l hl hok;exact ⟨by have := hf.len; omega, fun c hc => by have := hf.rules c hc; omega, fun c hc => by have := hf.subs c hc; omega, fun d fls => runOk_read (writeT l hok) (by omega) (by omega) hp d fls⟩
theorem skip_fault (k n : Nat) (o : Option (Int × Nat × Nat)) (hn : n ≤ 100000) (h : ∀ e q j, o = some (e, q, j) → e ≠ 0 ∧ q < n) :
  ∃ f0 f1 f2 t1 : Int, faultV o = .agg #[.int .i64 f0, .int .i64 f1, .int .i64 f2] ∧ faultV (skipF k o) = .agg #[.int .i64 f0, .int .i64 t1, .int .i64 f2] ∧
   ((f0 = 0 ∧ t1 = f1) ∨ (f0 ≠ 0 ∧ (k : Int) ≤ f1 ∧ t1 = f1 + 1 ∧ 0 ≤ f1 ∧ f1 ≤ 100000) ∨ (f0 ≠ 0 ∧ f1 < (k : Int) ∧ t1 = f1)) := by
 cases o with
 | none => exact ⟨0, 0, 0, 0, rfl, rfl, .inl ⟨rfl, rfl⟩⟩
 | some x =>
  obtain ⟨e, q, j⟩ := x;obtain ⟨h1, h2⟩ := h e q j rfl;by_cases hk : k ≤ q
  ·refine ⟨e, q, j, (q + 1 : Nat), rfl, by show faultV (if k ≤ q then _ else _) = _; rw [if_pos hk]; rfl, .inr (.inl ⟨h1, by omega, by omega, by omega, by omega⟩)⟩
  ·refine ⟨e, q, j, q, rfl, by show faultV (if k ≤ q then _ else _) = _; rw [if_neg hk]; rfl, .inr (.inr ⟨h1, by omega, rfl⟩)⟩
end Mx
namespace Pl
section
variable {P : Program} {ops : Array Oper} {md : Region.Mode} {Q : Exit → Act → World → Prop} {S : World → Prop} {late : List Nat}
def planP (md : Region.Mode) (ops : Array Oper) (late : List Nat) (base : Array Bool → Bool) : List Nat → Array Bool → Bool
 | [], listed => base listed
 | i :: r, listed => (Region.ready md ops listed).contains i && Region.free md ops listed i &&
  (match ops[i]? with
   | none => false
   | some o => (valueOp o || callOp o) && (pureOp o || late.all fun j => waitsT md ops ops.size j i)) && planP md ops late base r (listed.setIfInBounds i true)
def walkK (P : Program) (ops : Array Oper) (S : World → Prop) (K : Act → World → Prop) : List Nat → Act → World → Prop
 | [], a, w => K a w
 | i :: r, a, w => ∃ oi v, ops[i]? = some oi ∧ YieldsC P ops S oi v a ∧ walkK P ops S K r (a.put oi.dst v) w
theorem wpAnyF_prefix (base : Array Bool → Bool) (K : Act → World → Prop) (m : Nat) (hsel : Region.noSelect ops = true) (hQ : ∀ c a d v w, Q (.panic c) (Act.put a d v) w → Q (.panic c) a w) (hne : ∃ w, S w)
  (hb : ∀ (listed : Array Bool) (a : Act) (w : World), Closed md ops listed → base listed = true → ((∀ j ∈ late, listed.getD j true = false) → S w) → K a w → wpAnyF P md ops Q S late m listed a w) :
  ∀ (plan : List Nat) (listed : Array Bool) (a : Act) (w : World), Closed md ops listed → planP md ops late base plan listed = true →
   ((∀ j ∈ late, listed.getD j true = false) → S w) → walkK P ops S K plan a w → wpAnyF P md ops Q S late (plan.length + m) listed a w
 | [], listed, a, w, inv, hB, hS, h => by
  rw [List.length_nil, Nat.zero_add];exact hb listed a w inv hB hS h
 | i :: r, listed, a, w, inv, hB, hS, h => by
  obtain ⟨oi, v, ho, hy, hr⟩ := h;simp only [planP, ho, Bool.and_eq_true, Bool.or_eq_true] at hB;obtain ⟨⟨⟨h1, h2⟩, h3, h4⟩, h5⟩ := hB;have hri : i ∈ Region.ready md ops listed := by simpa using h1
  have hiun := (mem_ready.1 hri).1;have key := wpAnyF_prefix base K m hsel hQ hne hb r (listed.setIfInBounds i true) (a.put oi.dst v) w (inv.set hri) h5 (fun hl => hS (fun j hj => by
   by_cases hji : i = j
   ·subst hji; exact hiun
   ·have := hl j hj; rwa [getD_set_ne true hji] at this)) hr
  have hlen : (i :: r).length + m = (r.length + m) + 1 := by rw [List.length_cons]; omega
  rw [hlen];rcases h4 with h4 | h4
  ·exact wpAnyF_first ho (Region.noSelect_spec hsel) hQ _ _ _ _ inv (Region.free_spec ho h2) hri (yields_pure h4 hne hy) (.inl fun _ => trivial) key
  ·have h6 : ∀ j ∈ late, waitsT md ops ops.size j i = true := by simpa [List.all_eq_true] using h4
   have hSw : S w := hS fun j hj => by
    cases hl : listed.getD j true with
    | false => rfl
    | true =>
     exfalso;have hjs : j < listed.size := by
      rw [inv.1];rcases Nat.lt_or_ge j ops.size with h | h
      ·exact h
      ·exfalso;have := h6 j hj;cases hz : ops.size with
       | zero => rw [hz] at this; cases this
       | succ m =>
        rw [hz] at this;unfold waitsT at this;rw [Array.getElem?_eq_none h] at this;cases this
     have hl' : listed.getD j false = true := by simp [hjs] at hl ⊢; exact hl
     exact not_both hiun (waitsT_listed inv _ j hl' (h6 j hj))
   exact wpAnyF_first ho (Region.noSelect_spec hsel) hQ _ _ _ _ inv (Region.free_spec ho h2) hri hy (.inr ⟨rfl, hSw, h6⟩) key
def baseC (md : Region.Mode) (ops : Array Oper) (i j : Nat) (r : List (Bool × Nat)) (listed : Array Bool) : Bool :=
 decide (Region.ready md ops listed = [i, j]) && planB md ops [] ((false, j) :: r) (listed.setIfInBounds i true) && planB md ops [] ((false, i) :: r) (listed.setIfInBounds j true)
theorem region_choice {id : Nat} {a : Act} {w : World} {l : List Oper} {I : Type} {F : I → World} (i0 : I) (c : List Nat) (i j : Nat) (r : List (Bool × Nat)) (hm : P.follows .mixedOrders = true)
  (hB : (Region.noSelect l.toArray && decide (c.length + (r.length + 1 + 1) = l.length) && planP .any l.toArray [] (baseC .any l.toArray i j r) c (Array.replicate l.toArray.size false)) = true)
  (hQ : ∀ c a a' w, Act.defers a = Act.defers a' → Q (.panic c) a w → Q (.panic c) a' w) (h0 : w.drew = F i0)
  (h : walkK P l.toArray (fun w => ∃ i, w = F i) (fun a w => walkM P l.toArray Q (fun w => ∃ i, w = F i) [] ((false, i) :: (false, j) :: r) a w ∧ walkM P l.toArray Q (fun w => ∃ i, w = F i) [] ((false, j) :: (false, i) :: r) a w) c a (F i0)) : (Code.region id l.toArray true).wp P Q a w := by
 simp only [Bool.and_eq_true, decide_eq_true_eq] at hB;obtain ⟨⟨hs, hl⟩, hB⟩ := hB;have hQ' : ∀ c a d v w, Q (.panic c) (Act.put a d v) w → Q (.panic c) a w := fun c a d v w => hQ c _ _ w (put_defers a d v)
 have hne : ∃ w, (fun w => ∃ i, w = F i) w := ⟨F i0, i0, rfl⟩
 refine wp_region_any hm ?_;change wpAny P .any l.toArray Q _ _ a w.drew;rw [h0];have H := wpAnyF_prefix (md := .any) (late := []) (S := fun w => ∃ i, w = F i) (baseC .any l.toArray i j r) _ (r.length + 1 + 1) hs hQ' hne (fun listed a w inv hb hS hK => by
  simp only [baseC, Bool.and_eq_true, decide_eq_true_eq] at hb;obtain ⟨⟨hr, hb1⟩, hb2⟩ := hb;have hSw := hS (fun _ h => by cases h)
  refine ⟨fun h => (by rw [h] at hr; cases hr), fun q hq => ?_⟩
  have hq' := hq;rw [hr] at hq';simp only [List.mem_cons, List.not_mem_nil, or_false] at hq';rcases hq' with rfl | rfl
  ·refine wpOp_mono (fun a' w' h' => ⟨h'.1, ?_⟩) hK.1
   exact wpAnyF_of_plan hs hQ' hne ((false, j) :: r) _ a' w' (inv.set hq) hb1 (fun _ => h'.1 (by simp) hSw) h'.2
  ·refine wpOp_mono (fun a' w' h' => ⟨h'.1, ?_⟩) hK.2
   exact wpAnyF_of_plan hs hQ' hne ((false, i) :: r) _ a' w' (inv.set hq) hb2 (fun _ => h'.1 (by simp) hSw) h'.2) c (Array.replicate l.toArray.size false) a (F i0)
  ⟨by simp, fun j oj _ hl => (by rw [getD_replicate_false] at hl; cases hl)⟩ hB (fun _ => ⟨i0, rfl⟩) h
 have := wpAny_of_F _ _ _ _ H;rw [hl] at this;simpa using this
end
section
variable {P : Program} {ops : Array Oper}
theorem walkK_quiet {I : Type} {F : I → World} (w0 : World) {K : Act → World → Prop} (c : List Nat) (l : List Oper) (a : Act) (hl : fits ops (c.map fun i => (true, i)) l) (hv : valuesB (c.map fun i => (true, i)) l = true)
  (h : wpQuiet P ops (fun w => ∃ i, w = F i) (fun a' => K a' w0) l a) : walkK P ops (fun w => ∃ i, w = F i) K c a w0 := by
 induction c generalizing l a with
 | nil =>
  cases l with
  | nil => exact h
  | cons o l => exact hl.elim
 | cons n c ih =>
  cases l with
  | nil => exact hl.elim
  | cons o l =>
   obtain ⟨ho, hl⟩ := hl;simp only [List.map_cons, valuesB, Bool.and_eq_true, Bool.or_eq_true, Bool.not_eq_true'] at hv;obtain ⟨hv0, hv⟩ := hv;have hq : qOp P ops (fun w => ∃ i, w = F i) n (wpQuiet P ops (fun w => ∃ i, w = F i) (fun a' => K a' w0) l) a := by unfold qOp; simp only [ho]; exact h
   obtain ⟨v, hy, hk⟩ := yieldsIn_of_qOp ho hq;refine ⟨o, v, ho, ?_, ih l _ hl hv hk⟩;rcases hy with ⟨hw, hy⟩ | hy
   ·refine .inl ⟨hw, fun w hS => ?_⟩
    have h1 := hy w hS;have hvo : valueOp o = true := by simpa using hv0
    unfold Oper.quietAt at h1;generalize hr : (execOp a.eval o).run P w = r at h1;cases r with
    | ok n w' =>
     obtain ⟨u, rfl⟩ := value_run hvo hr;obtain ⟨rfl, rfl⟩ := h1;exact ⟨rfl, rfl⟩
    | halt x w' => exact h1.elim
   ·exact .inr hy
theorem headK {I : Type} {F : I → World} {w0 : World} {K : Act → World → Prop} {l : List Oper} {a : Act} (c : List Nat) (hB : okB l (c.map fun i => (true, i)) = true)
  (h : wpQuiet P l.toArray (fun w => ∃ i, w = F i) (fun a' => K a' w0) (sel l (c.map fun i => (true, i))) a) : walkK P l.toArray (fun w => ∃ i, w = F i) K c a w0 :=
 walkK_quiet w0 c _ a (fits_sel hB).1 (fits_sel hB).2 h
end
end Pl
namespace Mx
open Vw Ch Lk St Ln Dr Wr
theorem infoCh : (Tryz.prog.info? 31).map (fun i => (i.zero, i.size, i.bytes)) = some (some (.agg #[.int .u32 0, .slice none 0 0, .slice none 0 0, .int .u8 0]), 4, 64) := by kernel_rfl
theorem chainC_one1 {w : World} {l : List WChain} {rs : List (Value × Value)} (hel : ∀ (i : Nat) (c : WChain) (r : Value × Value), l[i]? = some c → rs[i]? = some r → Row.Leads w r.1 c.rules.length (c.rules.flatMap wRuleC) ∧ WSubs w r.2 c.subs) : ∀ u ∈ (l.zip rs).flatMap wChainC, u.oneCell' = true := by
 intro u hu;obtain ⟨⟨c, r1, r2⟩, hx, hu⟩ := List.mem_flatMap.1 hu;obtain ⟨i, hi⟩ := List.mem_iff_getElem?.1 hx;obtain ⟨h1, h2⟩ := List.getElem?_zip_eq_some.1 hi;obtain ⟨q1, ds, _, q2, _⟩ := hel i c (r1, r2) h1 h2;obtain ⟨a1, c1, e1⟩ := Row.leads_slice q1;obtain ⟨a2, c2, e2⟩ := Row.leads_slice q2;simp only at e1 e2;subst e1 e2;simp [wChainC] at hu;rcases hu with rfl | rfl | rfl | rfl <;> rfl
theorem win_belowT {w w' : World} {v : Value} {l : List WChain} (hin : WChains0 w v l) (hb : Below w.heap.size w w') : WChains0 w' v l := by
 obtain ⟨rs, h1, h2, h3⟩ := hin;refine ⟨rs, h1, Row.leads_below h2 hb, fun i c r hc hr => ?_⟩
 obtain ⟨h4, ds, h5, h6, h7⟩ := h3 i c r hc hr;refine ⟨Row.leads_below h4 hb, ds, h5, Row.leads_below h6 hb, fun j s d hs hd => ?_⟩
 obtain ⟨a, len, cap, zs, e1, e2, e3⟩ := h7 j s d hs hd;refine ⟨a, len, cap, zs, e1, ?_, e3⟩;rcases e2 with e2 | ⟨x, hx, hl, hm, hz, hc, hw⟩
 ·exact .inl e2
 ·exact .inr ⟨x, hx, hl, hm, hz, fun i hi => (hb.cell (World.block_lt_of_cell? _ _ (hc i hi))).trans (hc i hi), hw⟩
theorem masked_leads {w : World} {b n cap k : Nat} {l : List WChain} {rs : List (Value × Value)} {c : WChain} {r : Value × Value} (hL : Row.Leads w (.slice (some ⟨b, 0, none⟩) n cap) n ((l.zip rs).flatMap wChainC)) (hc : l[k]? = some c) (hr : rs[k]? = some r) :
  Row.Leads ((w.setCell ⟨b, k * 4, none⟩ (.int .u32 0)).setCell ⟨b, k * 4 + 1, none⟩ (.slice none 0 0)) (.slice (some ⟨b, 0, none⟩) n cap) n (((l.set k ⟨0, [], c.subs, c.more⟩).zip (rs.set k (.slice none 0 0, r.2))).flatMap wChainC) := by
 refine .inr ⟨_, _, rfl, fun j u hu => ?_⟩
 obtain ⟨i, q, ⟨x, s⟩, rfl, hx, hq⟩ := Bas.flat_get_inv (by decide) wChainC_len _ j u hu
 obtain ⟨h1, h2⟩ := List.getElem?_zip_eq_some.1 hx;have hql : q < 4 := by have := (List.getElem?_eq_some_iff.1 hq).1; rw [wChainC_len] at this; exact this
 have hold : ∀ (y : WChain) (t : Value × Value), l[i]? = some y → rs[i]? = some t → ∀ q v, (wChainC (y, t))[q]? = some v → w.cell? ⟨b, i * 4 + q, none⟩ = some v := fun y t hy ht q v hv => by
  obtain ⟨b', o', cp, hv', hcl⟩ := Row.leads_elem (x := (y, t)) wChainC_len hL (List.getElem?_zip_eq_some.2 ⟨hy, ht⟩) (by omega)
  cases hv';simpa using hcl q v hv
 rw [Addr.add_lit, Nat.zero_add];by_cases hik : i = k
 ·subst hik;rw [List.getElem?_set_self (List.getElem?_eq_some_iff.1 hc).1] at h1;rw [List.getElem?_set_self (List.getElem?_eq_some_iff.1 hr).1] at h2;cases h1; cases h2;have o0 := hold c r hc hr 0 _ rfl;have o1 := hold c r hc hr 1 _ rfl;have hq4 : q = 0 ∨ q = 1 ∨ q = 2 ∨ q = 3 := by omega
  rcases hq4 with rfl | rfl | rfl | rfl
  ·cases hq;rw [World.cell?_setCell_other _ _ _ _ (by simp)]
   exact World.cell?_setCell_same _ _ _ (by simpa using o0)
  ·cases hq;refine World.cell?_setCell_same (u := r.1) _ _ _ ?_;rw [World.cell?_setCell_other _ _ _ _ (by simp)]
   exact o1
  ·cases hq;rw [World.cell?_setCell_other _ _ _ _ (by simp), World.cell?_setCell_other _ _ _ _ (by simp)]
   exact hold c r hc hr 2 _ rfl
  ·cases hq;rw [World.cell?_setCell_other _ _ _ _ (by simp), World.cell?_setCell_other _ _ _ _ (by simp)]
   exact hold c r hc hr 3 _ rfl
 ·rw [List.getElem?_set_ne (Ne.symm hik)] at h1 h2;rw [World.cell?_setCell_other _ _ _ _ (by simp <;> omega), World.cell?_setCell_other _ _ _ _ (by simp <;> omega)]
  exact hold x s h1 h2 q u hq
set_option maxRecDepth 100000 in
set_option maxHeartbeats 32000000 in
theorem masks_core (ad : Option Addr) (L cap : Nat) (l : List WChain) (ida : Option Addr) (idn idc : Nat) (ids : List Int) (wh : Int) (w : World) (hcm : L ≤ cap ∧ cap ≤ maxLen) (hin : WChains0 w (.slice ad L cap) l) (hLl : l.length = L) (hrg : ∀ c ∈ l, rgChain c) (hss : ∀ c ∈ l, c.subs.length ≤ 9223372036854775807 ∧ c.rules.length ≤ 9223372036854775807)
  (hid : Row.Leads w (.slice ida idn idc) idn (ids.map (Value.int .i64))) (hidl : ids.length = idn) (hwh : 0 ≤ wh ∧ wh ≤ 255) (hidm : idn ≤ 9223372036854775807) :
  Calls Tryz.prog 3 #[.slice ad L cap, .slice ida idn idc, .int .u8 wh] w fun e w' => e = .returned (.bool true) ∧ Below w.heap.size w w' := by
 have hL63 : L ≤ 9223372036854775807 := by have := hcm.2; unfold maxLen at this; omega
 have HIN := Bas.hid hin;have HRG := Bas.hid hrg;have HSS := Bas.hid hss;have HID := Bas.hid hid;have HIDL := Bas.hid hidl;have HLL := Bas.hid hLl;have hnilC : ∀ u, WChains u (.slice none 0 0) [] := fun u => ⟨[], rfl, .inl ⟨rfl, rfl, rfl⟩, fun i c r h => by simp at h⟩
 clear hin hrg hss hid hidl hLl;go_enter Tryz.func3, Tryz.ntmps3
 go_wp2_with (fail);refine (chains_any (.slice none 0 0) [] w (by simp) (fun c h => by cases h) (hnilC w)).mono ?_
 rintro e w1 ⟨hb1, h1⟩;change ∃ g, e = .returned (.pointer (some ⟨g, 0, none⟩)) ∧ Lives w.heap.size (fun u => MorxAt u (.pointer (some ⟨g, 0, none⟩)) []) w1 at h1
 obtain ⟨g0, rfl, -⟩ := h1;have HB1 := Bas.hid hb1;clear hb1 hnilC;go_wp2_with (fail);refine (tbig_any (.slice ad L cap) l ida idn idc w1 (win_belowT HIN.out HB1.out) (by rw [HLL.out]; exact hL63) HSS.out).mono ?_
 rintro e w2 ⟨b, rfl, hb2, hbig⟩;have HB2 := Bas.hid (HB1.out.trans (hb2.mono HB1.out.size));clear hb2;cases b with
 | true =>
  go_wp2_with (fail);go_ret;exact ⟨rfl, HB2.out⟩
 | false =>
  obtain ⟨⟨hl4, hsz⟩, hid30⟩ := hbig rfl;have hL4 : L ≤ 4 := by rw [← HLL.out]; exact hl4
  clear hbig;by_cases hL0 : L = 0
  ·subst hL0;go_wp2_with (fail);go_ret;exact ⟨rfl, HB2.out⟩
  ·have e0 : decide ((L : Int) = 0) = false := by simp; omega
   have e0' : ((L : Int) == 0) = false := by simp; omega
   have hokc : ∀ x ∈ l, okChain x := fun x hx => ok_top x (HRG.out x hx) (hsz x hx)
   have HOC := Bas.hid hokc;have hl10 : l.length ≤ 10 := by omega
   obtain ⟨k, hk⟩ : ∃ k : Nat, wh % (L : Int) = k := ⟨(wh % (L : Int)).toNat, by have := Int.emod_nonneg wh (show (L : Int) ≠ 0 by omega); omega⟩
   have hkL : k < L := by have := Int.emod_lt_of_pos wh (show 0 < (L : Int) by omega); omega
   have HKK := Bas.hid hk;clear hokc;obtain ⟨rs, hrl, hlead, hel⟩ := chains0_up HIN.out hsz;obtain ⟨c, hc⟩ : ∃ c, l[k]? = some c := ⟨_, List.getElem?_eq_getElem (by rw [HLL.out]; exact hkL)⟩
   obtain ⟨r, hr⟩ : ∃ r, rs[k]? = some r := ⟨_, List.getElem?_eq_getElem (by rw [hrl, HLL.out]; exact hkL)⟩
   obtain ⟨bA, oA, pA, heA, -⟩ := Row.leads_elem (x := (c, r)) wChainC_len hlead (List.getElem?_zip_eq_some.2 ⟨hc, hr⟩) (by omega)
   have hA : ad = some ⟨bA, oA, none⟩ := by cases heA; rfl
   subst hA;have hcell : ∀ j u, ((l.zip rs).flatMap wChainC)[j]? = some u → w.cell? ((⟨bA, oA, none⟩ : Addr).add j) = some u := by
    rcases hlead with ⟨_, h0, _⟩ | ⟨A, cp, h0, h1⟩
    ·exact absurd (HLL.out.symm.trans h0) hL0
    ·have : A = ⟨bA, oA, none⟩ := by cases h0; rfl
     exact this ▸ h1
   have hzl : (l.zip rs).length = L := by rw [List.length_zip, hrl, Nat.min_self]; exact HLL.out
   have hone := chainC_one1 hel;have HRL := Bas.hid hrl;have HCE := Bas.hid hcell;have HEL := Bas.hid hel;have HZL := Bas.hid hzl;have HONE := Bas.hid hone;have HC := Bas.hid hc;have HR := Bas.hid hr;clear hrl hlead hel hcell hzl hone hc hr hsz hl4 heA;go_wp2_with (at_builtin; refine Row.fence ?_);refine Row.unfence ?_;have k6 := Bas.heap_new w2 (.cells #[] 31);have hb6 := (Below.refl w2.heap.size w2).alloc (Nat.le_refl _) (.cells #[] 31);generalize w2.alloc (.cells #[] 31) = W6 at *;have HB6 := HB2.out.trans (hb6.mono HB2.out.size);have ho6 := Pk.own_empty (base := w2.heap.size) (e := 31) (size := 4) k6 (Nat.le_refl _);refine append_blk rfl _ _ 22 31 rfl (.agg #[.int .u32 0, .slice none 0 0, .slice none 0 0, .int .u8 0]) 4 64 Tryz.underlying22 infoCh rfl (by decide) w2.heap.size w2.heap.size 0 0 [] rfl ho6 ⟨bA, oA, none⟩ L cap ((l.zip rs).flatMap wChainC) rfl (by have := (parts_cells (l := l.zip rs) HCE.out 0 (Nat.zero_le _)).2.2.2; rw [List.drop_zero, HZL.out] at this; exact this) (fun j u hu => (HB6.cell (World.block_lt_of_cell? _ _ (HCE.out j u hu))).trans (HCE.out j u hu)) HONE.out (by unfold maxLen; omega) (by omega) hb6.size ?_
   intro b7 c7 w7 ho7 hg7 _;rw [List.nil_append, Nat.zero_add] at ho7;have hb27 := (Below.refl w2.heap.size w2).trans (hb6.grown hg7 hb6.size (fun g' hg' => by cases hg'; exact Nat.le_refl _))
   have HB27 := Bas.hid hb27;have HB7 := Bas.hid (HB2.out.trans (hb27.mono HB2.out.size));have hL7 := Row.leads_owned ho7;have HL7 := Bas.hid hL7;obtain ⟨b0, o0, p0, he0, hcl⟩ := Row.leads_elem (x := (c, r)) wChainC_len hL7 (List.getElem?_zip_eq_some.2 ⟨HC.out, HR.out⟩) (by omega)
   cases he0;have hF7 : ∀ i, w7.frozen? ⟨b7, i, none⟩ = false ∧ w2.heap.size ≤ b7 := by
    obtain ⟨_, ⟨h0, _⟩ | ⟨g0, cap0, cur, heq, hge, hg0, _⟩⟩ := ho7
    ·cases h0
    ·cases heq; exact fun i => ⟨free_of_heap hg0, hge⟩
   have HF7 := Bas.hid hF7;have d0 := hcl 0 _ rfl;have d1 := hcl 1 _ rfl;simp only [Nat.add_zero, Nat.zero_add] at d0 d1;have z0 := (HF7.out (k * 4)).1;have z1 := (HF7.out (k * 4 + 1)).1;have lb := World.block_lt_of_cell? _ _ d0;have e1 : decide (k < L) = true := by simp; exact hkL
   have e1' : decide ((k : Int) < (L : Int)) = true := by simp; exact hkL
   clear ho7 hg7 hb27 hL7 hcl hF7 ho6 hb6 k6;go_wp2_with (fail);have hm8 := masked_leads HL7.out HC.out HR.out;have hb28 := (HB27.out.setCell (p := ⟨b7, k * 4, none⟩) (HF7.out 0).2 (.int .u32 0)).setCell (p := ⟨b7, k * 4 + 1, none⟩) (HF7.out 0).2 (.slice none 0 0);generalize (w7.setCell ⟨b7, k * 4, none⟩ (.int .u32 0)).setCell ⟨b7, k * 4 + 1, none⟩ (.slice none 0 0) = W8 at *;have HB8 := Bas.hid (HB2.out.trans (hb28.mono HB2.out.size));have hel8 := elem_below HEL.out HB8.out;have HMW := Bas.hid (masked_chains HRL.out (by rw [HLL.out]; exact hm8) hel8 HC.out HR.out)
   have hcov : okChain c := HOC.out c (List.mem_of_getElem? HC.out);have HOM : Hid (∀ x ∈ l.set k ⟨0, [], c.subs, c.more⟩, okChain x) := fun x hx => by
    rcases List.mem_or_eq_of_mem_set hx with h | rfl
    ·exact HOC.out x h
    ·exact ⟨⟨by show (0 : Int) ≤ 0; omega, by show (0 : Int) ≤ 4294967295; omega⟩, hcov.2.1, (fun _ h => by cases h), hcov.2.2.2.1, Nat.zero_le _, hcov.2.2.2.2.2⟩
   obtain ⟨RI, RF, Ri, RF0, RFk, RFw⟩ := Pl.fam_of W8 (fun _ => True) trivial
   have RFH := Bas.hid RF0;have RhI : Nonempty RI := ⟨Ri⟩;have RFW := Bas.hid RFw;clear hm8 hb28 hel8 hcov d0 d1 z0 z1 lb RF0 RFw RFk HL7 HF7;refine Pl.region_choice Ri [0, 3, 4, 5, 7, 8, 9, 10] 1 2 [(false, 6), (false, 11), (false, 12), (true, 13), (true, 14)] (by kernel_rfl) (by kernel_rfl) (fun _ _ _ _ e h => ⟨e ▸ h.1, h.2⟩) RFH.out ?_
   refine Pl.headK [0, 3, 4, 5, 7, 8, 9, 10] (by kernel_rfl) ?_
   simp only [Pl.sel, List.drop_succ_cons, List.drop_zero, List.map_cons, List.map_nil];repeat (go_big_quiet_step (fail))
   refine wpQuiet_nil ?_;rw [← RFH.out];have HBD := Bas.hid (Bas.below_drewN (Below.refl W8.heap.size W8) 1);have hA2 : ∃ b2 o2, (if cap = k + 1 then some (⟨bA, oA, none⟩ : Addr) else some ⟨bA, oA + (k + 1) * 4, none⟩) = some ⟨b2, o2, none⟩ ∧ ∀ j u, (((l.zip rs).drop (k + 1)).flatMap wChainC)[j]? = some u → w.cell? ((⟨b2, o2, none⟩ : Addr).add j) = some u := by
    have hp := parts_cells (l := l.zip rs) HCE.out (k + 1) (by rw [HZL.out]; exact hkL)
    by_cases hck : cap = k + 1
    ·refine ⟨_, _, if_pos hck, fun j u hu => ?_⟩
     have h1 := (List.getElem?_eq_some_iff.1 hu).1;rw [hp.2.2.2, HZL.out] at h1;omega
    ·refine ⟨_, _, if_neg hck, fun j u hu => ?_⟩
     have := hp.2.2.1 j u hu;rw [Addr.add_lit] at this ⊢;rw [show oA + (k + 1) * 4 + j = oA + ((k + 1) * 4 + j) by omega]
     exact this
   obtain ⟨b2, o2, hA2, hcell2⟩ := hA2;rw [hA2];have HC2 := Bas.hid hcell2;have HCH := Bas.hid (fun (w' : World) (hb : Below W8.heap.size W8 w') => chains_t _ _ w' (by rw [List.length_set]; exact hl10) HOM.out (win_below1 HMW.out hb))
   clear hA2 hcell2;refine ⟨?ord1, ?ord2⟩
   case' ord1 =>
    refine Pl.one_sel (by kernel_rfl) ?_
    intro Q' hQ' hP';simp only [Pl.sel, List.drop_succ_cons, List.drop_zero];go_wp2_with (fail);refine (HCH.out _ HBD.out).mono ?_;rintro e w9 ⟨hb9, tp, rfl, htp⟩;have HB9 := Bas.hid (HB8.out.trans ((HBD.out.trans hb9).mono HB8.out.size));have HTP := Bas.hid htp;clear hb9 htp;go_wp2_with (fail);refine hQ' _ _ (fun _ _ => RFW.out _ trivial) ?_
    clear hQ' hP' Q';refine Pl.one_sel (by kernel_rfl) ?_
    intro Q' hQ' hP';simp only [Pl.sel, List.drop_succ_cons, List.drop_zero];go_wp2_with (fail);refine hQ' _ _ (fun _ _ => RFW.out _ trivial) ?_
    clear hQ' hP' Q';obtain ⟨Tb, hTb⟩ : ∃ Tb, w9.heap.size = Tb := ⟨_, rfl⟩;have HT : Hid ((w9.alloc (.cells #[] 31)).heap[Tb]? = some (.cells #[] 31 (0, 0)) ∧ w.heap.size ≤ Tb) := by rw [← hTb]; exact ⟨Bas.heap_new _ _, HB9.out.size⟩
    have HW : Hid (Below w.heap.size w (w9.alloc (.cells #[] 31)) ∧ ∀ u, (∀ j, j < (w9.alloc (.cells #[] 31)).heap.size → j ≠ Tb → u.heap[j]? = (w9.alloc (.cells #[] 31)).heap[j]?) → TAt (l.set k ⟨0, [], c.subs, c.more⟩) tp u) :=
     ⟨HB9.out.alloc HB9.out.size _, fun u hu => HTP.out u fun j h1 h2 => (hu j (by simp; omega) (by omega)).trans (Below.heap_alloc _ _ _ h2)⟩
    rw [hTb];generalize w9.alloc (.cells #[] 31) = W at *;clear hTb HTP HB9
   case' ord2 =>
    refine Pl.one_sel (by kernel_rfl) ?_
    intro Q' hQ' hP';simp only [Pl.sel, List.drop_succ_cons, List.drop_zero];go_wp2_with (fail);refine hQ' _ _ (fun _ _ => RFW.out _ trivial) ?_
    clear hQ' hP' Q';obtain ⟨Tb, hTb⟩ : ∃ Tb, W8.heap.size = Tb := ⟨_, rfl⟩;have HBE := Bas.hid (((Below.refl W8.heap.size W8).alloc (Nat.le_refl _) (.cells #[] 31)).drew);have hk9 : (W8.alloc (.cells #[] 31)).drew.heap[Tb]? = some (.cells #[] 31 (0, 0)) := by rw [← hTb]; exact Bas.heap_new _ _
    have hs9 : (W8.alloc (.cells #[] 31)).drew.heap.size = Tb + 1 := by rw [← hTb]; simp
    have HK9 := Bas.hid hk9;have HS9 := Bas.hid hs9;have HTL : Hid (w.heap.size ≤ Tb) := by rw [← hTb]; exact HB8.out.size
    clear hk9 hs9;refine Pl.one_sel (by kernel_rfl) ?_
    intro Q' hQ' hP';simp only [Pl.sel, List.drop_succ_cons, List.drop_zero];rw [hTb];generalize (W8.alloc (.cells #[] 31)).drew = W9 at *;clear hTb;go_wp2_with (fail);refine (HCH.out _ HBE.out).mono ?_;rintro e W ⟨hb9, tp, rfl, htp⟩;have HT : Hid (W.heap[Tb]? = some (.cells #[] 31 (0, 0)) ∧ w.heap.size ≤ Tb) := ⟨(hb9.block _ (heap_lt HK9.out)).trans HK9.out, HTL.out⟩;have HW : Hid (Below w.heap.size w W ∧ ∀ u, (∀ j, j < W.heap.size → j ≠ Tb → u.heap[j]? = W.heap[j]?) → TAt (l.set k ⟨0, [], c.subs, c.more⟩) tp u) :=
     ⟨HB8.out.trans ((HBE.out.trans (hb9.mono HBE.out.size)).mono HB8.out.size), fun u hu => htp u fun j h1 h2 => hu j h2 (by have := HS9.out; omega)⟩
    clear hb9 htp HK9 HS9 HTL HBE;go_wp2_with (fail);refine hQ' _ _ (fun _ _ => RFW.out _ trivial) ?_
    clear hQ' hP' Q'
   all_goals
    refine Pl.one_sel (by kernel_rfl) ?_
    intro Q' hQ' hP';simp only [Pl.sel, List.drop_succ_cons, List.drop_zero];have hpk := parts_cells (l := l.zip rs) HCE.out k (by rw [HZL.out]; omega)
    have hpk2 := (parts_cells (l := l.zip rs) HCE.out (k + 1) (by rw [HZL.out]; exact hkL)).2.2.2
    rw [HZL.out] at hpk2;have hwW : ∀ (q : Addr) (v : Value), w.cell? q = some v → W.cell? q = some v := fun _ _ h => (HW.out.1.cell (World.block_lt_of_cell? _ _ h)).trans h
    have HPK := Bas.hid hpk;have HPK2 := Bas.hid hpk2;have HWW := Bas.hid hwW;clear hpk hpk2 hwW;refine append_blk rfl _ _ 22 31 rfl (.agg #[.int .u32 0, .slice none 0 0, .slice none 0 0, .int .u8 0]) 4 64 Tryz.underlying22 infoCh rfl (by decide) w.heap.size Tb 0 0 [] rfl (Pk.own_empty HT.out.1 HT.out.2) ⟨bA, oA, none⟩ k cap (((l.zip rs).take k).flatMap wChainC) rfl HPK.out.2.1 (fun j u hu => HWW.out _ _ (HPK.out.1 j u hu)) (fun u hu => HONE.out u (by
     obtain ⟨x, hx, hu⟩ := List.mem_flatMap.1 hu;exact List.mem_flatMap.2 ⟨x, List.mem_of_mem_take hx, hu⟩)) (by unfold maxLen; omega) (by omega) HW.out.1.size ?_
    intro b11 c11 w11 ho11 hg11 hbk11;rw [List.nil_append, Nat.zero_add] at ho11;have HO11 := Bas.hid ho11;have HG11 := Bas.hid hg11;have HBK11 := Bas.hid hbk11;have HB11 := Bas.hid (HW.out.1.grown hg11 HW.out.1.size (fun g' hg' => by cases hg'; exact HT.out.2))
    clear ho11 hg11 hbk11;rw [Nat.zero_add];go_wp2_with (fail);refine hQ' _ _ (fun _ _ => RFW.out _ trivial) ?_
    clear hQ' hP' Q';refine Pl.one_sel (by kernel_rfl) ?_
    intro Q' hQ' hP';simp only [Pl.sel, List.drop_succ_cons, List.drop_zero];refine append_blk rfl _ _ 22 31 rfl (.agg #[.int .u32 0, .slice none 0 0, .slice none 0 0, .int .u8 0]) 4 64 Tryz.underlying22 infoCh rfl (by decide) w.heap.size b11 k c11 _ rfl HO11.out ⟨b2, o2, none⟩ (L - (k + 1)) (cap - (k + 1)) (((l.zip rs).drop (k + 1)).flatMap wChainC) rfl HPK2.out (fun j u hu => (HB11.out.cell (World.block_lt_of_cell? _ _ (HC2.out j u hu))).trans (HC2.out j u hu)) (fun u hu => HONE.out u (by
     obtain ⟨x, hx, hu⟩ := List.mem_flatMap.1 hu;exact List.mem_flatMap.2 ⟨x, List.mem_of_mem_drop hx, hu⟩)) (by unfold maxLen; omega) (by omega) HB11.out.size ?_
    intro b12 c12 w12 ho12 hg12 hbk12;have hbge : w.heap.size ≤ b11 := (Row.own_block HO11.out rfl).1;have HB12 := Bas.hid (HB11.out.grown hg12 HB11.out.size (fun g' hg' => by cases hg'; exact hbge))
    have HTR : Hid (TAt (l.set k ⟨0, [], c.subs, c.more⟩) tp w12) := HW.out.2 w12 fun j h1 h2 => by
     have hs := HG11.out.size;have hne : j ≠ b11 := by rcases HBK11.out with h | h <;> omega
     exact (hg12.block j (by omega) (fun e => by cases e; exact hne rfl)).trans (HG11.out.block j h1 (fun e => by cases e; exact h2 rfl))
    have hWU := dropped_chains HRL.out (by rw [HLL.out]; exact hkL) (by rw [HLL.out]; exact Row.leads_owned ho12) (elem_below HEL.out HB12.out)
    have HOU : Hid (∀ x ∈ l.take k ++ l.drop (k + 1), okChain x) := fun x hx => by
     rcases List.mem_append.1 hx with h | h
     ·exact HOC.out x (List.mem_of_mem_take h)
     ·exact HOC.out x (List.mem_of_mem_drop h)
    have HUL : Hid ((l.take k ++ l.drop (k + 1)).length ≤ 10) := by unfold Hid; rw [List.length_append, List.length_take, List.length_drop]; omega
    have HCU := Bas.hid (chains_t _ _ w12 HUL.out HOU.out hWU);clear ho12 hg12 hbk12 hbge hWU HO11 HG11 HBK11 HPK HPK2 HWW;go_wp2_with (fail);refine hQ' _ _ (fun _ _ => RFW.out _ trivial) ?_
    clear hQ' hP' Q';refine Pl.one_sel (by kernel_rfl) ?_
    intro Q' hQ' hP';simp only [Pl.sel, List.drop_succ_cons, List.drop_zero];go_wp2_with (fail);refine HCU.out.mono ?_;rintro e w13 ⟨hb13, up, rfl, hup⟩;have HB13 := Bas.hid (HB12.out.trans (hb13.mono HB12.out.size));have HTA := Bas.hid (HTR.out.below hb13);have HUA := Bas.hid hup.now;clear hb13 hup HTR HCU;go_wp2_with (fail);refine hQ' _ _ (fun _ _ => RFW.out _ trivial) ?_
    clear hQ' hP' Q' RFW;refine Pl.head_sel0 (rest := []) [(true, 13), (true, 14)] (by kernel_rfl) (by kernel_rfl) ?_
    simp only [Pl.sel, List.drop_succ_cons, List.drop_zero];repeat (go_big_quiet_step (fail))
    refine wpQuiet_nil ?_;simp only [Pl.walkM];clear HT HW HB11 HB12 HMW HCH HC2 HBD RFH HEL HCE HONE HZL HKK;obtain ⟨lm, hlm⟩ : ∃ m, l.set k ⟨0, [], c.subs, c.more⟩ = m := ⟨_, rfl⟩;have hta := HTA.out;rw [hlm] at hta;unfold TAt at hta;cases hT : mapOpt (pC 40) lm with
    | none =>
     rw [hT] at hta;simp only at hta;subst hta;clear hT hlm HTA;go_wp2_with (fail);go_ret;exact ⟨rfl, HB13.out⟩
    | some T =>
     rw [hT] at hta;simp only at hta;obtain ⟨⟨gt, rfl⟩, hta⟩ := hta;have hset : l.take k ++ ⟨0, [], c.subs, c.more⟩ :: l.drop (k + 1) = lm := by rw [← hlm, List.set_eq_take_append_cons_drop, if_pos (by rw [HLL.out]; exact hkL)]
     obtain ⟨U, hU, hrun⟩ := masks_law fAll 40 (l.take k) (l.drop (k + 1)) c T (by rw [hset]; exact hT)
     rw [List.length_take, Nat.min_eq_left (by rw [HLL.out]; omega)] at hrun
     have hua := HUA.out;unfold TAt at hua;rw [hU] at hua;simp only at hua;obtain ⟨⟨gu, rfl⟩, hua⟩ := hua;obtain ⟨hT1, hT2, hT3, hT4⟩ := few_top lm T (by rw [← hlm, List.length_set]; exact hl10) (by rw [← hlm]; exact HOM.out) hT
     obtain ⟨hU1, hU2, hU3, hU4⟩ := few_top _ U HUL.out HOU.out hU;have HAT := Bas.hid hta;have HAU := Bas.hid hua;have HFT := Bas.hid (And.intro hT2 hT3);have HFU := Bas.hid (And.intro hU2 hU3);have HOT := Bas.hid (hT4 0 (flagsOf T []));have HOV := Bas.hid (hU4 0 (flagsOf U []));have HRN := Bas.hid (hrun 0 (lnNew ids) 200);clear hset hrun hta hua hT2 hT3 hT4 hU2 hU3 hU4 hT hU hlm HTA HUA HOM HOU HUL HC HR;go_wp2_with (fail);refine (new_any _ ids idn w13 (Row.leads_below HID.out HB13.out) HIDL.out (by omega)).mono ?_
     rintro e w8 ⟨rfl, hb8, sv1, hL1⟩;obtain ⟨G1, hG1⟩ : ∃ G, w13.heap.size = G := ⟨_, rfl⟩;have HG1 := Bas.hid hG1;have HB78 := Bas.hid hb8;have HB8' := Bas.hid (HB13.out.trans (hb8.mono HB13.out.size));have HL1 := Bas.hid hL1;rw [hG1] at HL1 ⊢;clear hb8 hL1 hG1;go_wp2_with (fail);refine (new_any _ ids idn w8 (Row.leads_below HID.out HB8'.out) HIDL.out (by omega)).mono ?_
     rintro e w9 ⟨rfl, hb9, sv2, hL2⟩;obtain ⟨G2, hG2⟩ : ∃ G, w8.heap.size = G := ⟨_, rfl⟩;have HG2 := Bas.hid hG2;have HB79 := Bas.hid (HB78.out.trans (hb9.mono HB78.out.size));have HB9 := Bas.hid (HB8'.out.trans (hb9.mono HB8'.out.size));have HL19 := Bas.hid (HL1.out.below hb9);have HL2 := Bas.hid hL2;rw [hG2] at HL2 ⊢;clear hb9 hL2 hG2;go_wp2_with (fail);have hnil : ∀ u : World, Row.Leads u (.slice none 0 0) ([] : List (Int × Int)).length (([] : List (Int × Int)).flatMap Pk.setC) := fun u => .inl ⟨rfl, rfl, rfl⟩
     have hln : (lnNew ids).length = idn := by unfold lnNew; rw [lnPre_len]; exact HIDL.out
     have hpre : preL (lnNew ids) 200 := ⟨by omega, by rw [hln]; omega⟩
     have hG12 : w13.heap.size ≤ G1 := Nat.le_of_eq HG1.out;have hG22 : G1 < G2 := by rw [← HG2.out]; exact HL1.out.lt
     have hG29 : G2 < w9.heap.size := HL2.out.lt;obtain ⟨RR, hRR⟩ : ∃ r, chainsRun fAll 0 (U.zip (flagsOf U [])) 0 (lnNew ids) 200 = r := ⟨_, rfl⟩;have HRL : Hid (RR.1.length ≤ 1000000) := by unfold Hid; rw [← hRR]; exact chainsRun_len 0 _ 0 _ 200 hpre
     obtain ⟨f0, f1, f2, t1, hfu, hft, hrel⟩ := skip_fault k _ RR.2 hU1 (fun e q j h => by
      have := chains_fault fAll 0 (U.zip (flagsOf U [])) 0 (lnNew ids) 200 e q j (by rw [hRR]; exact h)
      rw [List.length_zip] at this;exact ⟨this.1, by omega⟩)
     have hrun1 := mrun_any fAll preL preL_len _ _ T [] 0 200 G1 G1 sv1 (lnNew ids) w13 w9 HAT.out HFT.out.1 hT1 HFT.out.2 (hnil w9) List.Pairwise.nil (by decide) HB79.out hG12 HL19.out hpre HOT.out
     rw [HRN.out, hRR] at hrun1;simp only at hrun1;rw [hft] at hrun1;have HR1 := Bas.hid hrun1;clear hrun1;refine HR1.out.mono ?_;rintro e w10 ⟨rfl, hto1⟩;obtain ⟨svx, hLx, hmx, hox⟩ := id hto1;have hbl1 := HL19.out.blk_low;have hsv1 : ∀ k, blk G1 sv1 k → k < w8.heap.size := fun k hk => (HL1.out.blk_low k hk).2
     have hg2w : w8.heap.size = G2 := HG2.out;have hL210 : LineAt w10 G2 G2 sv2 (lnNew ids) := HL2.out.mod hmx (fun k hk hb => by
      have h1 := (HL2.out.blk_low k hk).1;have h2 := hsv1 k hb;omega)
     have HB710 := Bas.hid (hmx.below HB79.out (fun k hk => Nat.le_trans hG12 (hbl1 k hk).1) HB79.out.size)
     have hrun2 := mrun_any fAll preL preL_len _ _ U [] 0 200 G2 G2 sv2 (lnNew ids) w13 w10 HAU.out HFU.out.1 hU1 HFU.out.2 (hnil w10) List.Pairwise.nil (by decide) HB710.out (by omega) hL210 hpre HOV.out
     rw [hRR, hfu] at hrun2;have HR2 := Bas.hid hrun2;have HLx := Bas.hid hLx;have HMX := Bas.hid hmx;have HOX := Bas.hid hox;have HL210 := Bas.hid hL210;have HB10 := Bas.hid (HB13.out.trans (HB710.out.mono HB13.out.size));have HSV1 := Bas.hid hsv1;clear hto1 hLx hmx hox hbl1 hsv1 hL210 hrun2 hfu hft HR1 hnil hRR;go_wp2_with (fail);refine HR2.out.mono ?_;rintro e w11 ⟨rfl, hto2⟩;obtain ⟨svy, hLy, hmy, -⟩ := id hto2;have hLx11 : LineAt w11 G1 G1 svx RR.1 := HLx.out.mod hmy (fun k hk hb => by
      have h1 := HL210.out.blk_low k hb;have hs9 := HMX.out.size;rcases hk with rfl | hk
      ·rcases hb with h | h
       ·omega
       ·have := (HL2.out.blk_low _ (.inr h)).1; omega
      ·rcases HOX.out k hk with h | h
       ·have := HSV1.out k (.inr h); omega
       ·have h2 := (HL2.out.blk_low k hb).2; omega)
     have HLX := Bas.hid hLx11;have HLY := Bas.hid hLy;have HB11 := Bas.hid (hmy.below HB10.out (fun k hk => Nat.le_trans (Nat.le_trans HB13.out.size (by omega)) (HL210.out.blk_low k hk).1) HB10.out.size)
     have HREL := Bas.hid hrel;clear hto2 hLy hmy hLx11 HR2 hrel;have hrl := HRL.out;rcases HREL.out with ⟨rfl, rfl⟩ | ⟨hq0, hq1, rfl, hq2, hq3⟩ | ⟨hq0, hq1, rfl⟩
     all_goals
      try have q0 : (f0 == 0) = false := by simpa using hq0
      try have q1 : decide ((k : Int) ≤ f1) = true := by simpa using hq1
      try have q1' : decide ((k : Int) ≤ f1) = false := by simpa using hq1
      clear HREL;go_wp2_with (fail);refine Calls.mono (glyphs_any G1 G1 svx RR.1 _ (HLX.out.below ?_) (by omega)) ?_
      ·exact ((Below.refl _ _).alloc (Nat.le_refl _) _).alloc (by simp) _
      rintro e w12 ⟨hb12, v12, rfl, ho12⟩;have hb112 : Below w11.heap.size w11 w12 := Below.trans (((Below.refl w11.heap.size w11).alloc (Nat.le_refl _) _).alloc (by simp) _) (hb12.mono (by simp; omega))
      have HB12 := Bas.hid (HB11.out.trans (hb112.mono HB11.out.size));have HO12 := Bas.hid (Row.leads_owned ho12);have HLY12 := Bas.hid (HLY.out.below hb112);obtain ⟨a12, c12', rfl⟩ := own_slice ho12;clear hb12 ho12 hb112;go_wp2_with (fail);refine (glyphs_any G2 G2 svy RR.1 w12 HLY12.out (by omega)).mono ?_
      rintro e w14 ⟨hb14, v14, rfl, ho14⟩;have HB14 := Bas.hid (HB12.out.trans (hb14.mono HB12.out.size));have HO14 := Bas.hid (Row.leads_owned ho14);have HO124 := Bas.hid (Row.leads_below HO12.out hb14);obtain ⟨a14, c14, rfl⟩ := own_slice ho14;clear hb14 ho14;go_wp2_with (fail);refine (rsame_any _ _ RR.1 _ w14 HO124.out HO14.out rfl (by omega)).mono ?_
      rintro e w15 ⟨rfl, hb15⟩;have HB15 := Bas.hid (HB14.out.trans (hb15.mono HB14.out.size));clear hb15;go_wp2_with (fail);go_ret;exact ⟨rfl, HB15.out⟩
end Mx
end Go.Proofs.YtoncnjhhdlpliaaGreat
namespace Go.Proofs.YtoncnjhhdlpliaaGreat
open Go.RowKit Go.ChangeShapes Go.WideShapes Go.ChangeAt
namespace Mx
open Vw Ch Lk St Ln Dr Wr
section
variable {H : Type} {enc : TypeId × Value → H} {w : World} {base : Nat} {held : Bool}
theorem len_bd {t e : TypeId} {fuel : Nat} {v : Value} {x : DataW H × List MemPlace} (ht : Tryz.prog.underlying t = some (.slice e)) (h : DataW.trod enc Tryz.prog w base (fun _ => true) held fuel t [v] = some x) {n : Nat} {xs : List Value} (hL : Row.Leads w v n xs) : n ≤ 9223372036854775807 := by
 obtain ⟨ad, cp, rfl⟩ := Row.leads_slice hL;rcases Go.Deep.open_slice ht h with ⟨h0, _⟩ | ⟨a, len, cap, m, n', D, Pl, h0, _, hl, hm, _⟩
 ·cases h0; omega
 ·cases h0; unfold maxLen at hm; omega
theorem open_chainsM {fuel : Nat} {v : Value} {x : DataW H × List MemPlace} (h : DataW.trod enc Tryz.prog w base (fun _ => true) held fuel 22 [v] = some x) :
  ∃ l : List WChain, WChains0 w v l ∧ ∀ c ∈ l, rgChain c ∧ c.subs.length ≤ 9223372036854775807 ∧ c.rules.length ≤ 9223372036854775807 := by
 rcases Go.Deep.open_slice Tryz.underlying22 h with ⟨h0, _⟩ | ⟨a, len, cap, m, n, D, Pl, h0, _, hl, hm, hmm, _, hx⟩
 ·cases h0;exact ⟨[], ⟨[], rfl, .inl ⟨rfl, rfl, rfl⟩, fun j s d hs => by simp at hs⟩, fun r hr => by cases hr⟩
 ·cases h0;have hc4 : Tryz.prog.cellsOf 31 = 4 := by kernel_rfl
  rw [hc4] at hx;obtain ⟨l, h1, h2, h3⟩ := Bas.open_elems (f := wChainC) (good := fun x => (Row.Leads w x.2.1 x.1.rules.length (x.1.rules.flatMap wRuleC) ∧ WSubs0 w x.2.2 x.1.subs) ∧ rgChain x.1 ∧ x.1.subs.length ≤ 9223372036854775807 ∧ x.1.rules.length ≤ 9223372036854775807) (by omega) wChainC_len (w := w) (base := base) (a := a) (len := len) (cap := cap) (fun i hi => by
   obtain ⟨cs, e1, e2⟩ := hx i (by rw [hmm]; simp; omega)
   refine ⟨cs, e1, ?_⟩;obtain ⟨_, hlen, _⟩ := World.cells?_some e1;obtain ⟨n0, f0, w0⟩ := Bas.open_field_int (kd := .u32) 0 _ Tryz.underlying31 e2 rfl (by kernel_rfl) (by rw [hc4]; decide) (by kernel_rfl)
   obtain ⟨_, v1, y1, m1, f1, t1⟩ := Bas.open_field 1 _ Tryz.underlying31 e2 rfl (by kernel_rfl) (by rw [hc4]; decide)
   obtain ⟨_, v2, y2, m2, f2, t2⟩ := Bas.open_field 2 _ Tryz.underlying31 e2 rfl (by kernel_rfl) (by rw [hc4]; decide)
   obtain ⟨n3, f3, w3⟩ := Bas.open_field_int (kd := .u8) 3 _ Tryz.underlying31 e2 rfl (by kernel_rfl) (by rw [hc4]; decide) (by kernel_rfl)
   obtain ⟨lr, hr1, hr2⟩ := open_rules t1;obtain ⟨ls, hs1, hs2⟩ := open_subs t2;have bR := len_bd Tryz.underlying28 t1 hr1;have bS : ls.length ≤ 9223372036854775807 := by
    obtain ⟨_, _, hld, _⟩ := id hs1;exact len_bd Tryz.underlying29 t2 hld
   exact ⟨(⟨n0, lr, ls, n3⟩, (v1, v2)), list4 hlen f0 f1 f2 f3, ⟨hr1, hs1⟩, ⟨Bas.wf_u32 w0, Bas.wf_u8 w3, hr2, hs2⟩, bS, bR⟩)
  subst h1;refine ⟨l.map Prod.fst, ⟨l.map Prod.snd, by simp, by rw [zip_self, List.length_map]; exact h2, fun j s d hs hd => ?_⟩, fun s hs => ?_⟩
  ·rw [List.getElem?_map] at hs hd;cases hj : l[j]? with
   | none => rw [hj] at hs; cases hs
   | some y =>
    rw [hj] at hs hd;cases hs; cases hd;exact (h3 y (List.mem_of_getElem? hj)).1
  ·obtain ⟨y, hy, rfl⟩ := List.mem_map.1 hs;exact (h3 y hy).2
end
set_option maxRecDepth 100000 in
theorem masks_walk {H : Type} {enc : TypeId × Value → H} (v : Value) (d : DataW H) (p : List MemPlace) (ida : Option Addr) (idn idc : Nat) (idz : List Int) (wh : Int) (W : World) {base : Nat} (hv : Value.okWide Tryz.prog W .any base 22 v) (ht : DataW.Trod enc Tryz.prog W 0 (fun _ => true) true 22 v d p) (hidz : Bas.IsRow .i64 W ida idn idc idz) (hwh : (Lit.int .u8 wh).wf = true) :
  Calls Tryz.prog 3 #[v, .slice ida idn idc, .int .u8 wh] W fun e w' => e = .returned (.bool true) ∧ Below W.heap.size W w' := by
 obtain ⟨a0, len0, cap0, rfl⟩ := okWide_slice Tryz.underlying22 hv;obtain ⟨fuel, hf⟩ := ht;obtain ⟨l, h1, h2⟩ := open_chainsM (v := .slice a0 len0 cap0) hf;have hcm : len0 ≤ cap0 ∧ cap0 ≤ maxLen := by
  rcases Go.Deep.open_slice Tryz.underlying22 hf with ⟨h0, _⟩ | ⟨a, len, cap, m, n', D, Pl, h0, _, hl, hm, _⟩
  ·cases h0; exact ⟨Nat.le_refl _, Nat.zero_le _⟩
  ·cases h0; exact ⟨hl, hm⟩
 have hLl : l.length = len0 := by
  obtain ⟨_, _, hld, _⟩ := id h1;obtain ⟨_, _, e⟩ := Row.leads_slice hld;cases e; rfl
 obtain ⟨hid, hidl, hidm⟩ : Row.Leads W (.slice ida idn idc) idn ((idz.take idn).map (Value.int .i64)) ∧ (idz.take idn).length = idn ∧ idn ≤ 9223372036854775807 := by
  rcases hidz with ⟨rfl, rfl, rfl, rfl⟩ | ⟨x, rfl, hl, hm, hlz, hcell, _⟩
  ·exact ⟨.inl ⟨rfl, rfl, rfl⟩, rfl, by omega⟩
  ·refine ⟨.inr ⟨_, _, rfl, fun j u hu => ?_⟩, by rw [List.length_take]; omega, by unfold maxLen at hm; omega⟩
   rw [List.getElem?_map] at hu;cases hj : (idz.take idn)[j]? with
   | none => rw [hj] at hu; cases hu
   | some y =>
    rw [hj] at hu;cases hu;have hjl := (List.getElem?_eq_some_iff.1 hj).1;rw [List.length_take] at hjl;rw [List.getElem?_take_of_lt (by omega)] at hj
    have := hcell j (by omega)
    rw [List.getD_eq_getElem?_getD, hj] at this;exact this
 exact masks_core a0 len0 cap0 l ida idn idc _ wh W hcm h1 hLl (fun c hc => (h2 c hc).1) (fun c hc => (h2 c hc).2) hid hidl (Bas.wf_u8 hwh) hidm
end Mx
end Go.Proofs.YtoncnjhhdlpliaaGreat
