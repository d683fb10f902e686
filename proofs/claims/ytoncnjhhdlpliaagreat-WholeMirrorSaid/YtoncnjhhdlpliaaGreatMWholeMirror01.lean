/- Parts of a proof: texts Base, Own, LnD, PickMap, NumB, ChainBackM, Open, TopD, ChainOpen, TopW1, MasksB, MasksW, MirD, MirB, MirC, MirW. -/
import Derived.Test.YtoncnjhhdlpliaaGreatMQ02
import Derived.Test.YtoncnjhhdlpliaaGreatRows
import Derived.WalkKit
import Derived.WalkSpells
import Derived.WalkLawsBesides
import Derived.Deep.QuietTactic
import Derived.BigQuiet
import Derived.Laws.AppendOwnNone
import Derived.Maps.RangeWalk
import Derived.Maps.Ext
import Derived.DeepKeys4
import Derived.ProofKit
import Derived.OpenShut
import Derived.Deep.Slices
import Derived.Laws.BitsAllLaws
namespace Go.Proofs.YtoncnjhhdlpliaaGreat
open Go.RowKit
namespace Bas
theorem wf_u16 {x : Int} (h : (Lit.int .u16 x).wf = true) : 0 ≤ x ∧ x ≤ 65535 := by
 simpa [Lit.wf, IntKind.min, IntKind.max, IntKind.bits, IntKind.signed] using h
theorem wf_u32 {x : Int} (h : (Lit.int .u32 x).wf = true) : 0 ≤ x ∧ x ≤ 4294967295 := by
 simpa [Lit.wf, IntKind.min, IntKind.max, IntKind.bits, IntKind.signed] using h
end Bas
namespace Vw
theorem VB.block {w : World} {b o : Nat} {bs : List Int} {u : World} (h : VB w (some ⟨b, o, none⟩) bs) (hh : u.heap[b]? = w.heap[b]?) : VB u (some ⟨b, o, none⟩) bs :=
 ⟨h.len, h.byte, fun i hi => by
  obtain ⟨b', o', hab, hc⟩ := h.cell i hi;simp only [Option.some.injEq, Addr.mk.injEq, and_true] at hab;obtain ⟨rfl, rfl⟩ := hab;exact ⟨b, o, rfl, (World.cell?_of_block (w := w) hh).trans hc⟩⟩
theorem OwnB.block {w u : World} {g n : Nat} (h : OwnB w g n) (hh : u.heap[g]? = w.heap[g]?) : OwnB u g n := by
 obtain ⟨cur, h1, h2⟩ := h;exact ⟨cur, hh.trans h1, h2⟩
end Vw
namespace Ln
open Ch
theorem LineAt.base {w : World} {base base' g : Nat} {sv : Value} {xs : List Gl} (h : LineAt w base g sv xs) (hb : base' ≤ base) : LineAt w base' g sv xs :=
 ⟨h.head, Row.owned_base h.own hb, Nat.le_trans hb h.low⟩
end Ln
namespace Pk
open Ch Ft Go.Maps
theorem laidOut : laidOutB Tryz.prog = true := by kernel_rfl
end Pk
namespace Wr
open Vw
theorem num_cons (x : Int) (l : List Int) : num (x :: l) = x * 256 ^ l.length + num l := by
 have key : ∀ (l : List Int) (a : Int), l.foldl (fun n b => 256 * n + b) a = a * 256 ^ l.length + l.foldl (fun n b => 256 * n + b) 0 := by
  intro l;induction l with
  | nil => intro a; simp
  | cons y l ih =>
   intro a;simp only [List.foldl_cons, List.length_cons];rw [ih (256 * a + y), ih (256 * 0 + y)];rw [Int.pow_succ, Int.add_mul, Int.add_mul];have : 256 * a * 256 ^ l.length = a * (256 ^ l.length * 256) := by rw [Int.mul_comm 256 a, Int.mul_assoc, Int.mul_comm 256]
   omega
 unfold num;simp only [List.foldl_cons];rw [key];simp
theorem num_putB (n : Int) (hn : 0 ≤ n) : ∀ k : Nat, num (putB n k) = n % 256 ^ k
 | 0 => by simp [putB, num]
 | k + 1 => by
  have ih := num_putB n hn k;have hp : (0 : Int) < 256 ^ k := Int.pow_pos (by omega)
  rw [putB, num_cons, ih, putB_len, Int.pow_succ];have h1 := Int.mul_ediv_add_emod n (256 ^ k);have h2 := Int.mul_ediv_add_emod (n / 256 ^ k) 256;have h3 := Int.emod_nonneg n (Int.ne_of_gt hp);have h4 := Int.emod_lt_of_pos n hp;have h5 := Int.emod_nonneg (n / 256 ^ k) (show (256 : Int) ≠ 0 by omega)
  have h6 := Int.emod_lt_of_pos (n / 256 ^ k) (show (0 : Int) < 256 by omega)
  generalize n / 256 ^ k % 256 = r at *;generalize n / 256 ^ k / 256 = q at *;generalize n / 256 ^ k = d at *;generalize n % 256 ^ k = t at *;generalize (256 : Int) ^ k = P at *;have e : n = (P * 256) * q + (r * P + t) := by
   rw [← h1, ← h2, Int.mul_add, ← Int.mul_assoc, Int.mul_comm P r]; omega
  have b1 : 0 ≤ r * P + t := Int.add_nonneg (Int.mul_nonneg h5 (Int.le_of_lt hp)) h3;have b2 : r * P + t < P * 256 := by
   have h8 : r * P ≤ 255 * P := Int.mul_le_mul_of_nonneg_right (by omega) (Int.le_of_lt hp)
   omega
  rw [e, Int.mul_add_emod_self_left, Int.emod_eq_of_lt b1 b2]
theorem be_mid (pre post : List Int) (n : Int) (k p : Nat) (hp : p = pre.length) (h0 : 0 ≤ n) (h1 : n < 256 ^ k) : be (pre ++ (putB n k ++ post)) p k = n := by
 subst hp;unfold be;rw [List.drop_left];have : (putB n k ++ post).take k = putB n k := by
  rw [List.take_append_of_le_length (by rw [putB_len]; exact Nat.le_refl _), List.take_of_length_le (by rw [putB_len]; exact Nat.le_refl _)]
 rw [this, num_putB n h0, Int.emod_eq_of_lt h0 h1]
end Wr
namespace Ch
open Vw Wr
theorem rules_back : ∀ (l : List RuleD) (pre post : List Int), (∀ r ∈ l, okRule r) →
  (List.range l.length).map (fun i => (⟨be (pre ++ (l.flatMap ruleB ++ post)) (pre.length + 12 * i) 2, be (pre ++ (l.flatMap ruleB ++ post)) (pre.length + 12 * i + 2) 2, be (pre ++ (l.flatMap ruleB ++ post)) (pre.length + 12 * i + 4) 4, be (pre ++ (l.flatMap ruleB ++ post)) (pre.length + 12 * i + 8) 4⟩ : RuleD)) = l
 | [], pre, post, _ => rfl
 | r :: l, pre, post, h => by
  obtain ⟨h1, h2, h3, h4⟩ := h r (by simp)
  have ih := rules_back l (pre ++ ruleB r) post (fun x hx => h x (by simp [hx]))
  have e : pre ++ ((r :: l).flatMap ruleB ++ post) = pre ++ ruleB r ++ (l.flatMap ruleB ++ post) := by simp [List.flatMap_cons, List.append_assoc]
  rw [List.length_cons, List.range_succ_eq_map, List.map_cons, List.map_map, e]
  congr 1
  ·have a1 := be_mid pre (putB r.value 2 ++ (putB r.enable 4 ++ (putB r.disable 4 ++ (l.flatMap ruleB ++ post)))) r.type 2 (pre.length + 12 * 0) (by omega) h1.1 (by omega)
   have a2 := be_mid (pre ++ putB r.type 2) (putB r.enable 4 ++ (putB r.disable 4 ++ (l.flatMap ruleB ++ post))) r.value 2 (pre.length + 12 * 0 + 2) (by simp [putB_len]) h2.1 (by omega)
   have a3 := be_mid (pre ++ putB r.type 2 ++ putB r.value 2) (putB r.disable 4 ++ (l.flatMap ruleB ++ post)) r.enable 4 (pre.length + 12 * 0 + 4) (by simp [putB_len]) h3.1 (by omega)
   have a4 := be_mid (pre ++ putB r.type 2 ++ putB r.value 2 ++ putB r.enable 4) (l.flatMap ruleB ++ post) r.disable 4 (pre.length + 12 * 0 + 8) (by simp [putB_len]) h4.1 (by omega)
   simp only [List.append_assoc, ruleB] at a1 a2 a3 a4 ⊢;rw [a1, a2, a3, a4]
  ·refine Eq.trans ?_ ih;apply List.map_congr_left;intro i _;have hl : (pre ++ ruleB r).length + 12 * i = pre.length + 12 * (i + 1) := by rw [List.length_append, ruleB_len]; omega
   simp only [Function.comp, hl, List.append_assoc, Nat.succ_eq_add_one]
def subsPos : Nat → List WSub → List SubD
 | _, [] => []
 | p, s :: l => ⟨s.cover, s.flags, p, 12 + s.data.length⟩ :: subsPos (p + (12 + s.data.length)) l
theorem subs_back : ∀ (l : List WSub) (pre post : List Int) (p : Nat), p = pre.length → (∀ s ∈ l, okSub s) → subsAt (pre ++ (l.flatMap subB ++ post)) l.length p = some (subsPos p l)
 | [], pre, post, p, _, _ => rfl
 | s :: l, pre, post, p, hp, h => by
  obtain ⟨h1, h2, _, h4⟩ := h s (by simp)
  have ih := subs_back l (pre ++ subB s) post (p + (12 + s.data.length)) (by rw [List.length_append, subB_len]; omega) (fun x hx => h x (by simp [hx]))
  have e : pre ++ ((s :: l).flatMap subB ++ post) = pre ++ subB s ++ (l.flatMap subB ++ post) := by simp [List.flatMap_cons, List.append_assoc]
  have a1 := be_mid pre (putB s.cover 4 ++ (putB s.flags 4 ++ (s.data ++ (l.flatMap subB ++ post)))) (12 + (s.data.length : Int)) 4 p hp (by omega) (by omega)
  have a2 := be_mid (pre ++ putB (12 + (s.data.length : Int)) 4) (putB s.flags 4 ++ (s.data ++ (l.flatMap subB ++ post))) s.cover 4 (p + 4) (by simp [putB_len, hp]) h1.1 (by omega)
  have a3 := be_mid (pre ++ putB (12 + (s.data.length : Int)) 4 ++ putB s.cover 4) (s.data ++ (l.flatMap subB ++ post)) s.flags 4 (p + 8) (by simp [putB_len, hp]) h2.1 (by omega)
  rw [List.length_cons, e, subsAt];have hlen : (pre ++ subB s ++ (l.flatMap subB ++ post)).length = p + (12 + s.data.length) + (l.flatMap subB ++ post).length := by rw [List.length_append, List.length_append, subB_len, hp]
  simp only [List.append_assoc, subB] at a1 a2 a3 ih hlen ⊢;have ht : (12 + (s.data.length : Int)).toNat = 12 + s.data.length := by omega
  rw [a1, a2, a3, ht, if_pos ⟨by rw [hlen]; omega, by omega, by rw [hlen]; omega⟩, ih]
  rfl
theorem one_back (c : WChain) (h : okChain c) : parseOne (chainB c) = some ⟨c.first, c.rules, subsPos (16 + 12 * c.rules.length) c.subs⟩ := by
 have hil := inB_len_le c h;obtain ⟨h1, h2, h3, h4, h5, h6⟩ := h;have a0 := be_mid [] (putB (16 + ((inB c).length : Int)) 4 ++ (putB (c.rules.length : Int) 4 ++ (putB (c.subs.length : Int) 4 ++ inB c))) c.first 4 0 rfl h1.1 (by omega)
 have a8 := be_mid (putB c.first 4 ++ putB (16 + ((inB c).length : Int)) 4) (putB (c.subs.length : Int) 4 ++ inB c) (c.rules.length : Int) 4 8 (by simp [putB_len]) (by omega) (by omega)
 have a12 := be_mid (putB c.first 4 ++ putB (16 + ((inB c).length : Int)) 4 ++ putB (c.rules.length : Int) 4) (inB c) (c.subs.length : Int) 4 12 (by simp [putB_len]) (by omega) (by omega)
 have hr := rules_back c.rules (putB c.first 4 ++ putB (16 + ((inB c).length : Int)) 4 ++ putB (c.rules.length : Int) 4 ++ putB (c.subs.length : Int) 4) (c.subs.flatMap subB ++ List.replicate (c.more % 8).toNat 0) h3;have hs := subs_back c.subs (putB c.first 4 ++ putB (16 + ((inB c).length : Int)) 4 ++ putB (c.rules.length : Int) 4 ++ putB (c.subs.length : Int) 4 ++ c.rules.flatMap ruleB) (List.replicate (c.more % 8).toNat 0) (16 + 12 * c.rules.length) (by
  have : (c.rules.flatMap ruleB).length = 12 * c.rules.length := by
   clear a0 a8 a12 hr;generalize c.rules = l;induction l with
   | nil => rfl
   | cons x l ih => rw [List.flatMap_cons, List.length_append, ruleB_len, ih, List.length_cons]; omega
  simp only [List.length_append, putB_len, this]) h4
 have hl16 : (putB c.first 4 ++ putB (16 + ((inB c).length : Int)) 4 ++ putB (c.rules.length : Int) 4 ++ putB (c.subs.length : Int) 4).length = 16 := by simp [putB_len]
 have hcl : (chainB c).length = 16 + (inB c).length := by unfold chainB; rw [List.length_append, hl16]
 have hri : 12 * c.rules.length ≤ (inB c).length := by
  have : (c.rules.flatMap ruleB).length = 12 * c.rules.length := by
   clear a0 a8 a12 hr hs hl16 hcl hil;generalize c.rules = l;induction l with
   | nil => rfl
   | cons x l ih => rw [List.flatMap_cons, List.length_append, ruleB_len, ih, List.length_cons]; omega
  unfold inB; simp only [List.length_append, this]; omega
 rw [hl16] at hr;have e1 : chainB c = [] ++ (putB c.first 4 ++ (putB (16 + ((inB c).length : Int)) 4 ++ (putB (c.rules.length : Int) 4 ++ (putB (c.subs.length : Int) 4 ++ inB c)))) := by simp [chainB, List.append_assoc]
 have e2 : chainB c = putB c.first 4 ++ putB (16 + ((inB c).length : Int)) 4 ++ (putB (c.rules.length : Int) 4 ++ (putB (c.subs.length : Int) 4 ++ inB c)) := by simp [chainB, List.append_assoc]
 have e3 : chainB c = putB c.first 4 ++ putB (16 + ((inB c).length : Int)) 4 ++ putB (c.rules.length : Int) 4 ++ (putB (c.subs.length : Int) 4 ++ inB c) := by simp [chainB, List.append_assoc]
 have e4 : chainB c = putB c.first 4 ++ putB (16 + ((inB c).length : Int)) 4 ++ putB (c.rules.length : Int) 4 ++ putB (c.subs.length : Int) 4 ++ (c.rules.flatMap ruleB ++ (c.subs.flatMap subB ++ List.replicate (c.more % 8).toNat 0)) := by simp [chainB, inB, List.append_assoc]
 have e5 : chainB c = putB c.first 4 ++ putB (16 + ((inB c).length : Int)) 4 ++ putB (c.rules.length : Int) 4 ++ putB (c.subs.length : Int) 4 ++ c.rules.flatMap ruleB ++ (c.subs.flatMap subB ++ List.replicate (c.more % 8).toNat 0) := by simp [chainB, inB, List.append_assoc]
 rw [← e1] at a0;rw [← e2] at a8;rw [← e3] at a12;rw [← e4] at hr;rw [← e5] at hs;unfold parseOne;rw [a8, a12, a0, Int.toNat_natCast, Int.toNat_natCast, if_pos ⟨by omega, by omega⟩, hs]
 unfold rulesAt ruleAt;rw [hr];rfl
def chainsPos : Nat → List WChain → List PlaceD
 | _, [] => []
 | p, c :: l => ⟨⟨c.first, c.rules, subsPos (16 + 12 * c.rules.length) c.subs⟩, p, (chainB c).length⟩ :: chainsPos (p + (chainB c).length) l
theorem chainB_size (c : WChain) (h : okChain c) (pre post : List Int) (p : Nat) (hp : p = pre.length) : be (pre ++ (chainB c ++ post)) (p + 4) 4 = ((chainB c).length : Int) ∧ 16 ≤ (chainB c).length := by
 have hil := inB_len_le c h;have a := be_mid (pre ++ putB c.first 4) (putB (c.rules.length : Int) 4 ++ (putB (c.subs.length : Int) 4 ++ (inB c ++ post))) (16 + ((inB c).length : Int)) 4 (p + 4) (by simp [putB_len, hp]) (by omega) (by omega)
 have e : pre ++ (chainB c ++ post) = pre ++ putB c.first 4 ++ (putB (16 + ((inB c).length : Int)) 4 ++ (putB (c.rules.length : Int) 4 ++ (putB (c.subs.length : Int) 4 ++ (inB c ++ post)))) := by simp [chainB, List.append_assoc]
 have hl : (chainB c).length = 16 + (inB c).length := by simp [chainB, putB_len]; omega
 rw [e, a];omega
theorem chains_back : ∀ (l : List WChain) (pre post : List Int) (p : Nat), p = pre.length → (∀ c ∈ l, okChain c) → chainsAt (pre ++ (l.flatMap chainB ++ post)) l.length p = some (chainsPos p l)
 | [], pre, post, p, _, _ => rfl
 | c :: l, pre, post, p, hp, h => by
  have hc := h c (by simp)
  have ih := chains_back l (pre ++ chainB c) post (p + (chainB c).length) (by rw [List.length_append]; omega) (fun x hx => h x (by simp [hx]))
  have e : pre ++ ((c :: l).flatMap chainB ++ post) = pre ++ (chainB c ++ (l.flatMap chainB ++ post)) := by simp [List.flatMap_cons, List.append_assoc]
  obtain ⟨a1, a2⟩ := chainB_size c hc pre (l.flatMap chainB ++ post) p hp;rw [List.append_assoc] at ih;rw [List.length_cons, e, chainsAt, a1, Int.toNat_natCast];have hlen : (pre ++ (chainB c ++ (l.flatMap chainB ++ post))).length = p + (chainB c).length + (l.flatMap chainB ++ post).length := by simp only [List.length_append, hp]; omega
  have hpc : ((pre ++ (chainB c ++ (l.flatMap chainB ++ post))).drop p).take (chainB c).length = chainB c := by
   rw [hp, List.drop_left, List.take_append_of_le_length (Nat.le_refl _), List.take_length]
  rw [if_pos ⟨by rw [hlen]; omega, a2, by rw [hlen]; omega⟩, hpc, one_back c hc, ih]
  rfl
theorem head_parse (n : Nat) (hn : n ≤ 10) (post : List Int) : parseAll (headB n ++ post) = chainsAt (headB n ++ post) n 8 := by
 have a0 := be_mid [] (putB 0 2 ++ (putB (n : Int) 4 ++ post)) 2 2 0 rfl (by omega) (by omega)
 have a4 := be_mid (putB 2 2 ++ putB 0 2) post (n : Int) 4 4 (by simp [putB_len]) (by omega) (by omega)
 have e0 : headB n ++ post = [] ++ (putB 2 2 ++ (putB 0 2 ++ (putB (n : Int) 4 ++ post))) := by simp [headB, List.append_assoc]
 have e4 : headB n ++ post = putB 2 2 ++ putB 0 2 ++ (putB (n : Int) 4 ++ post) := by simp [headB, List.append_assoc]
 unfold parseAll;rw [← e0] at a0;rw [← e4] at a4;rw [a0, a4, Int.toNat_natCast, if_pos ⟨by rw [List.length_append, headB_len]; omega, .inl rfl⟩]
theorem all_back (l : List WChain) (more : List Int) (hl : l.length ≤ 10) (h : ∀ c ∈ l, okChain c) : parseAll (writeB l ++ more) = some (chainsPos 8 l) := by
 unfold writeB;rw [List.append_assoc, head_parse _ hl];exact chains_back l (headB l.length) more 8 (by rw [headB_len]) h
end Ch
end Go.Proofs.YtoncnjhhdlpliaaGreat
namespace Go.Proofs.YtoncnjhhdlpliaaGreat
open Go.RowKit Go.ChangeShapes Go.WideShapes Go.ChangeAt
namespace Bas
theorem flat_get_inv {α : Type} {f : α → List Value} {m : Nat} (hm : 0 < m) (hf : ∀ x, (f x).length = m) : ∀ (l : List α) (j : Nat) (u : Value), (l.flatMap f)[j]? = some u → ∃ i k x, j = i * m + k ∧ l[i]? = some x ∧ (f x)[k]? = some u
 | [], j, u, h => by simp at h
 | y :: l, j, u, h => by
  rw [List.flatMap_cons] at h;by_cases hj : j < m
  ·rw [List.getElem?_append_left (by rw [hf]; exact hj)] at h
   exact ⟨0, j, y, by simp, rfl, h⟩
  ·rw [List.getElem?_append_right (by rw [hf]; omega), hf] at h
   obtain ⟨i, k, x, h1, h2, h3⟩ := flat_get_inv hm hf l (j - m) u h;exact ⟨i + 1, k, x, by rw [Nat.add_mul]; omega, h2, h3⟩
theorem open_elems {α : Type} [Inhabited α] {f : α → List Value} {m : Nat} {good : α → Prop} (hm : 0 < m) (hf : ∀ x, (f x).length = m) {w : World} {base : Nat} {a : Addr} {len cap : Nat}
  (h : ∀ i, i < len → ∃ cs, w.cells? base (a.add (i * m)) m = some cs ∧ ∃ x, cs = f x ∧ good x) :
  ∃ l : List α, l.length = len ∧ Row.Leads w (.slice (some a) len cap) len (l.flatMap f) ∧ ∀ x ∈ l, good x := by
 obtain ⟨g, hg⟩ := Go.Deep.choose_lt (α := α) (n := len) (p := fun i x => w.cells? base (a.add (i * m)) m = some (f x) ∧ good x) (fun i hi => by
  obtain ⟨cs, h1, x, rfl, h3⟩ := h i hi;exact ⟨x, h1, h3⟩)
 refine ⟨(List.range len).map g, by simp, .inr ⟨a, cap, rfl, fun j u hu => ?_⟩, fun x hx => ?_⟩
 ·obtain ⟨i, k, x, rfl, h2, h3⟩ := flat_get_inv hm hf _ j u hu;have hi : i < len := by have := (List.getElem?_eq_some_iff.1 h2).1; simpa using this
  rw [List.getElem?_map, List.getElem?_range hi] at h2;cases h2;obtain ⟨_, _, hc⟩ := World.cells?_some (hg i hi).1;have hk : k < m := by have := (List.getElem?_eq_some_iff.1 h3).1; rw [hf] at this; exact this
  have := hc k hk;rw [Go.Deep.add_add] at this;rw [this, h3]
 ·obtain ⟨i, hi, rfl⟩ := List.mem_map.1 hx;exact (hg i (by simpa using hi)).2
section
variable {H : Type} {enc : TypeId × Value → H} {P : Program} {w : World} {base : Nat} {spare : Nat → Bool} {held : Bool}
theorem open_field {t : TypeId} {fs : Array Field} {fuel : Nat} {cs : List Value} {x : DataW H × List MemPlace} (k : Nat) (f : Field) (ht : P.underlying t = some (.struct fs)) (h : DataW.trod enc P w base spare held fuel t cs = some x) (hk : fs[k]? = some f) (hc : P.cellsOf f.type = 1) (ho : f.offset < P.cellsOf t) :
  cs.length = P.cellsOf t ∧ ∃ v y n, cs[f.offset]? = some v ∧ DataW.trod enc P w base spare held n f.type [v] = some y := by
 obtain ⟨xs, n, _, rfl, hl, hlen, hf⟩ := DataW.trod_struct ht h;refine ⟨hl, ?_⟩;have h1 := hf k f hk;rw [hc] at h1;have ho' : f.offset < cs.length := by rw [hl]; exact ho
 have e : (cs.drop f.offset).take 1 = [cs[f.offset]] := by
  rw [List.drop_eq_getElem_cons ho', List.take_succ_cons, List.take_zero]
 rw [e] at h1;have hkx : k < xs.length := by
  have := (Array.getElem?_eq_some_iff.1 hk).1;omega
 rw [List.getElem?_eq_getElem hkx] at h1;exact ⟨_, _, _, List.getElem?_eq_getElem ho', h1⟩
theorem open_field_int {t : TypeId} {fs : Array Field} {fuel : Nat} {cs : List Value} {x : DataW H × List MemPlace} {kd : IntKind} (k : Nat) (f : Field) (ht : P.underlying t = some (.struct fs)) (h : DataW.trod enc P w base spare held fuel t cs = some x) (hk : fs[k]? = some f) (hc : P.cellsOf f.type = 1) (ho : f.offset < P.cellsOf t) (hi : P.underlying f.type = some (.int kd)) :
  ∃ n, cs[f.offset]? = some (.int kd n) ∧ (Lit.int kd n).wf = true := by
 obtain ⟨_, v, y, m, h1, h2⟩ := open_field k f ht h hk hc ho;obtain ⟨n, e, _, hw⟩ := DataW.trod_int hi h2;cases e;exact ⟨n, h1, hw⟩
theorem open_bytes {t e : TypeId} {fuel : Nat} {v : Value} {x : DataW H × List MemPlace} (ht : P.underlying t = some (.slice e)) (he : P.underlying e = some (.int .u8)) (hc : P.cellsOf e = 1) (h : DataW.trod enc P w base (fun _ => true) held fuel t [v] = some x) :
  ∃ a len cap zs, v = .slice a len cap ∧ Bas.IsRow .u8 w a len cap zs := by
 rcases open_ints ht he hc h with ⟨hcs, _⟩ | ⟨x, l, c, zs, hcs, _, hl, hm, hz, _, hcell, hwz⟩
 ·cases hcs;exact ⟨none, 0, 0, [], rfl, .inl ⟨rfl, rfl, rfl, rfl⟩⟩
 ·cases hcs;exact ⟨_, _, _, zs, rfl, .inr ⟨_, rfl, hl, hm, by simpa using hz, hcell, hwz⟩⟩
end
end Bas
end Go.Proofs.YtoncnjhhdlpliaaGreat
namespace Go.Proofs.YtoncnjhhdlpliaaGreat
open Go.RowKit
namespace Mx
open Vw Ch Lk St Ln Dr
def pC (gl : Nat) (x : WChain) : Option MChain := (mapOpt (subOf (chainB x) gl) (subsPos (16 + 12 * x.rules.length) x.subs)).map fun ss => ⟨x.first, x.rules, ss⟩
theorem chains_parse (gl : Nat) : ∀ (l : List WChain) (pre post : List Int), mapOpt (chainOf (pre ++ (l.flatMap chainB ++ post)) gl) (chainsPos pre.length l) = mapOpt (pC gl) l
 | [], pre, post => rfl
 | c :: l, pre, post => by
  have e : pre ++ ((c :: l).flatMap chainB ++ post) = pre ++ (chainB c ++ (l.flatMap chainB ++ post)) := by simp [List.flatMap_cons, List.append_assoc]
  have ih := chains_parse gl l (pre ++ chainB c) post;rw [List.length_append, List.append_assoc] at ih;have hpc : ((pre ++ (chainB c ++ (l.flatMap chainB ++ post))).drop pre.length).take (chainB c).length = chainB c := by
   rw [List.drop_left, List.take_append_of_le_length (Nat.le_refl _), List.take_length]
  rw [e, chainsPos, mapOpt, mapOpt, ih];have h1 : chainOf (pre ++ (chainB c ++ (l.flatMap chainB ++ post))) gl ⟨⟨c.first, c.rules, subsPos (16 + 12 * c.rules.length) c.subs⟩, pre.length, (chainB c).length⟩ = pC gl c := by
   unfold chainOf pC;rw [hpc]
  rw [h1]
theorem write_parse (gl : Nat) (l : List WChain) (hl : l.length ≤ 10) (hok : ∀ c ∈ l, okChain c) : morxParse (writeB l) gl = mapOpt (pC gl) l := by
 have hb := all_back l [] hl hok;rw [List.append_nil] at hb;unfold morxParse;rw [hb, Option.bind_some];have h := chains_parse gl l (headB l.length) [];rw [headB_len, List.append_nil] at h;exact h
end Mx
end Go.Proofs.YtoncnjhhdlpliaaGreat
namespace Go.Proofs.YtoncnjhhdlpliaaGreat
open Go.RowKit Go.ChangeShapes Go.WideShapes Go.ChangeAt
namespace Ch
open Vw Wr
def WData0 (w : World) (v : Value) (D : List Int) : Prop := ∃ a len cap zs, v = .slice a len cap ∧ Bas.IsRow .u8 w a len cap zs ∧ D = zs.take len
def WSubs0 (w : World) (v : Value) (l : List WSub) : Prop := ∃ ds : List Value, ds.length = l.length ∧ Row.Leads w v l.length ((l.zip ds).flatMap wSubC) ∧ ∀ (j : Nat) (s : WSub) (d : Value), l[j]? = some s → ds[j]? = some d → WData0 w d s.data
def WChains0 (w : World) (v : Value) (l : List WChain) : Prop := ∃ rs : List (Value × Value), rs.length = l.length ∧ Row.Leads w v l.length ((l.zip rs).flatMap wChainC) ∧
 ∀ (i : Nat) (c : WChain) (r : Value × Value), l[i]? = some c → rs[i]? = some r → Row.Leads w r.1 c.rules.length (c.rules.flatMap wRuleC) ∧ WSubs0 w r.2 c.subs
def rgSub (s : WSub) : Prop := (0 ≤ s.cover ∧ s.cover ≤ 4294967295) ∧ (0 ≤ s.flags ∧ s.flags ≤ 4294967295) ∧ (∀ x ∈ s.data, 0 ≤ x ∧ x ≤ 255)
def rgChain (c : WChain) : Prop := (0 ≤ c.first ∧ c.first ≤ 4294967295) ∧ (0 ≤ c.more ∧ c.more ≤ 255) ∧ (∀ r ∈ c.rules, okRule r) ∧ (∀ s ∈ c.subs, rgSub s)
theorem WData0.len {w : World} {v : Value} {D : List Int} (h : WData0 w v D) : ∃ a cap, v = .slice a D.length cap := by
 obtain ⟨a, len, cap, zs, rfl, hz, rfl⟩ := h;have : (zs.take len).length = len := by
  rcases hz with ⟨rfl, rfl, rfl, rfl⟩ | ⟨x, rfl, hl, hm, hz, _⟩
  ·rfl
  ·rw [List.length_take]; omega
 exact ⟨a, cap, by rw [this]⟩
instance : Inhabited RuleD := ⟨⟨0, 0, 0, 0⟩⟩
instance : Inhabited WSub := ⟨⟨0, 0, []⟩⟩
instance : Inhabited WChain := ⟨⟨0, [], [], 0⟩⟩
theorem zip_self {α β : Type} (l : List (α × β)) : (l.map Prod.fst).zip (l.map Prod.snd) = l := by
 induction l with
 | nil => rfl
 | cons x l ih => simp [ih]
theorem list3 {c : List Value} (h : c.length = 3) {a b d : Value} (h0 : c[0]? = some a) (h1 : c[1]? = some b) (h2 : c[2]? = some d) : c = [a, b, d] := by
 match c, h with
 | [x, y, z], _ => simp at h0 h1 h2; subst h0 h1 h2; rfl
theorem list4 {c : List Value} (h : c.length = 4) {a b d e : Value} (h0 : c[0]? = some a) (h1 : c[1]? = some b) (h2 : c[2]? = some d) (h3 : c[3]? = some e) : c = [a, b, d, e] := by
 match c, h with
 | [x, y, z, t], _ => simp at h0 h1 h2 h3; subst h0 h1 h2 h3; rfl
section
variable {H : Type} {enc : TypeId × Value → H} {w : World} {base : Nat} {held : Bool}
theorem open_rules {fuel : Nat} {v : Value} {x : DataW H × List MemPlace} (h : DataW.trod enc Tryz.prog w base (fun _ => true) held fuel 28 [v] = some x) :
  ∃ l : List RuleD, Row.Leads w v l.length (l.flatMap wRuleC) ∧ ∀ r ∈ l, okRule r := by
 rcases Go.Deep.open_slice Tryz.underlying28 h with ⟨h0, _⟩ | ⟨a, len, cap, m, n, D, Pl, h0, _, hl, hm, hmm, _, hx⟩
 ·cases h0;exact ⟨[], .inl ⟨rfl, rfl, rfl⟩, fun r hr => by cases hr⟩
 ·cases h0;have hc4 : Tryz.prog.cellsOf 111 = 4 := by kernel_rfl
  rw [hc4] at hx;obtain ⟨l, h1, h2, h3⟩ := Bas.open_elems (f := wRuleC) (good := okRule) (by omega) wRuleC_len (w := w) (base := base) (a := a) (len := len) (cap := cap) (fun i hi => by
   obtain ⟨cs, e1, e2⟩ := hx i (by rw [hmm]; simp; omega)
   refine ⟨cs, e1, ?_⟩;obtain ⟨_, hlen, _⟩ := World.cells?_some e1;obtain ⟨n0, f0, w0⟩ := Bas.open_field_int (kd := .u16) 0 _ Tryz.underlying111 e2 rfl (by kernel_rfl) (by rw [hc4]; decide) (by kernel_rfl)
   obtain ⟨n1, f1, w1⟩ := Bas.open_field_int (kd := .u16) 1 _ Tryz.underlying111 e2 rfl (by kernel_rfl) (by rw [hc4]; decide) (by kernel_rfl)
   obtain ⟨n2, f2, w2⟩ := Bas.open_field_int (kd := .u32) 2 _ Tryz.underlying111 e2 rfl (by kernel_rfl) (by rw [hc4]; decide) (by kernel_rfl)
   obtain ⟨n3, f3, w3⟩ := Bas.open_field_int (kd := .u32) 3 _ Tryz.underlying111 e2 rfl (by kernel_rfl) (by rw [hc4]; decide) (by kernel_rfl)
   exact ⟨⟨n0, n1, n2, n3⟩, list4 hlen f0 f1 f2 f3, Bas.wf_u16 w0, Bas.wf_u16 w1, Bas.wf_u32 w2, Bas.wf_u32 w3⟩)
  subst h1;exact ⟨l, h2, h3⟩
theorem open_subs {fuel : Nat} {v : Value} {x : DataW H × List MemPlace} (h : DataW.trod enc Tryz.prog w base (fun _ => true) held fuel 29 [v] = some x) :
  ∃ l : List WSub, WSubs0 w v l ∧ ∀ s ∈ l, rgSub s := by
 rcases Go.Deep.open_slice Tryz.underlying29 h with ⟨h0, _⟩ | ⟨a, len, cap, m, n, D, Pl, h0, _, hl, hm, hmm, _, hx⟩
 ·cases h0;exact ⟨[], ⟨[], rfl, .inl ⟨rfl, rfl, rfl⟩, fun j s d hs => by simp at hs⟩, fun r hr => by cases hr⟩
 ·cases h0;have hc3 : Tryz.prog.cellsOf 44 = 3 := by kernel_rfl
  rw [hc3] at hx;obtain ⟨l, h1, h2, h3⟩ := Bas.open_elems (f := wSubC) (good := fun x => WData0 w x.2 x.1.data ∧ rgSub x.1) (by omega) wSubC_len (w := w) (base := base) (a := a) (len := len) (cap := cap) (fun i hi => by
   obtain ⟨cs, e1, e2⟩ := hx i (by rw [hmm]; simp; omega)
   refine ⟨cs, e1, ?_⟩;obtain ⟨_, hlen, _⟩ := World.cells?_some e1;obtain ⟨n0, f0, w0⟩ := Bas.open_field_int (kd := .u32) 0 _ Tryz.underlying44 e2 rfl (by kernel_rfl) (by rw [hc3]; decide) (by kernel_rfl)
   obtain ⟨n1, f1, w1⟩ := Bas.open_field_int (kd := .u32) 1 _ Tryz.underlying44 e2 rfl (by kernel_rfl) (by rw [hc3]; decide) (by kernel_rfl)
   obtain ⟨_, v2, y2, m2, f2, t2⟩ := Bas.open_field 2 _ Tryz.underlying44 e2 rfl (by kernel_rfl) (by rw [hc3]; decide)
   obtain ⟨a2, l2, c2, z2, rfl, hz⟩ := Bas.open_bytes (e := 5) (by kernel_rfl) Tryz.underlying5 (by kernel_rfl) t2
   refine ⟨(⟨n0, n1, z2.take l2⟩, .slice a2 l2 c2), list3 hlen f0 f1 f2, ⟨_, _, _, _, rfl, hz, rfl⟩, Bas.wf_u32 w0, Bas.wf_u32 w1, fun y hy => ?_⟩
   rcases hz with ⟨rfl, rfl, rfl, rfl⟩ | ⟨q, rfl, _, _, _, _, hwz⟩
   ·cases hy
   ·exact Bas.wf_u8 (hwz y (List.mem_of_mem_take hy)))
  subst h1;refine ⟨l.map Prod.fst, ⟨l.map Prod.snd, by simp, by rw [zip_self, List.length_map]; exact h2, fun j s d hs hd => ?_⟩, fun s hs => ?_⟩
  ·rw [List.getElem?_map] at hs hd;cases hj : l[j]? with
   | none => rw [hj] at hs; cases hs
   | some y =>
    rw [hj] at hs hd;cases hs; cases hd;exact (h3 y (List.mem_of_getElem? hj)).1
  ·obtain ⟨y, hy, rfl⟩ := List.mem_map.1 hs;exact (h3 y hy).2
end
end Ch
end Go.Proofs.YtoncnjhhdlpliaaGreat
namespace Go.Proofs.YtoncnjhhdlpliaaGreat
open Go.RowKit
namespace Mx
open Vw Ch Lk St Ln Dr Wr
theorem byteT {α : Type} {f : α → List Int} (l : List α) (h : ∀ a ∈ l, ∀ x ∈ f a, 0 ≤ x ∧ x ≤ 255) : ∀ x ∈ l.flatMap f, 0 ≤ x ∧ x ≤ 255 := fun x hx => by
 obtain ⟨a, ha, hx⟩ := List.mem_flatMap.1 hx;exact h a ha x hx
theorem writeT (l : List WChain) (h : ∀ c ∈ l, okChain c) : ∀ x ∈ writeB l, 0 ≤ x ∧ x ≤ 255 := by
 have P := putB_byte;intro x hx;simp only [writeB, headB, List.mem_append] at hx;rcases hx with ((hx | hx) | hx) | hx
 ·exact P _ _ x hx
 ·exact P _ _ x hx
 ·exact P _ _ x hx
 ·refine byteT _ (fun c hc y hy => ?_) x hx
  obtain ⟨_, _, _, h4, _⟩ := h c hc;simp only [chainB, inB, List.mem_append] at hy;rcases hy with (((hy | hy) | hy) | hy) | (hy | hy) | hy
  ·exact P _ _ y hy
  ·exact P _ _ y hy
  ·exact P _ _ y hy
  ·exact P _ _ y hy
  ·refine byteT _ (fun r _ z hz => ?_) y hy
   simp only [ruleB, List.mem_append] at hz;rcases hz with ((hz | hz) | hz) | hz <;> exact P _ _ z hz
  ·refine byteT _ (fun s hs z hz => ?_) y hy
   simp only [subB, List.mem_append] at hz;rcases hz with ((hz | hz) | hz) | hz
   ·exact P _ _ z hz
   ·exact P _ _ z hz
   ·exact P _ _ z hz
   ·exact (h4 s hs).2.2.1 z hz
  ·rw [List.mem_replicate] at hy; omega
theorem writeT_len (l : List WChain) (hl : l.length ≤ 10) (h : ∀ c ∈ l, okChain c) : 8 ≤ (writeB l).length ∧ (writeB l).length ≤ 46238 := by
 have := Row.flat_len_le chainB 4623 l (fun c hc => chainB_len_le c (h c hc))
 simp only [writeB, List.length_append, headB_len];omega
def ChainsP (w : World) (l : List WChain) (e : Ending) (w' : World) : Prop :=
 Below w.heap.size w w' ∧ match mapOpt (pC 40) l with
  | none => e = .returned (.pointer none)
  | some T => ∃ g, e = .returned (.pointer (some ⟨g, 0, none⟩)) ∧ Lives w.heap.size (fun u => MorxAt u (.pointer (some ⟨g, 0, none⟩)) T) w'
set_option maxRecDepth 100000 in
theorem chains_any (v : Value) (l : List WChain) (w : World) (hl : l.length ≤ 10) (hok : ∀ c ∈ l, okChain c) (hin : WChains w v l) :
  Calls Tryz.prog 7 #[v] w (ChainsP w l) := by
 have HW := Bas.hid (write_any v l w hl hok hin);obtain ⟨rs, _, hlead, _⟩ := hin;obtain ⟨ad, cap, rfl⟩ := Row.leads_slice hlead;clear hlead;go_enter Tryz.func7, Tryz.ntmps7
 go_wp2_with (fail);refine HW.out.mono ?_;rintro e w4 ⟨v4, rfl, hown, hb4⟩;have hwl := writeT_len l hl hok;obtain ⟨g4, cg4, rfl, hgb, hgl, hgc, hgm, hvg, -⟩ := owned hown (fun e => by
  rcases Row.owned_parts hown with ⟨_, h0, _⟩ | ⟨_, _, h0, _⟩
  ·omega
  ·rw [h0] at e; cases e) rfl (writeT l hok) (by omega)
 have HB4 := Bas.hid hb4;have HRD := Bas.hid (mread_any (some ⟨g4, 0, none⟩) _ cg4 (writeB l) 40 w4 hgc hgm hvg rfl (by omega) (by simp) (by omega) (by omega))
 clear hown hb4 hvg hgc hgm hgl hgb hwl HW;go_wp2_with (fail);refine HRD.out.mono ?_;rintro e w5 ⟨hb5, h⟩;have HB5 := Bas.hid (HB4.out.trans (hb5.mono HB4.out.size));rw [write_parse 40 l hl hok] at h;clear hb5 HRD;cases hpar : mapOpt (pC 40) l with
 | none =>
  rw [hpar] at h;simp only at h;subst h;have HP : Hid (ChainsP w l (.returned (.pointer none)) w5) := ⟨HB5.out, by rw [hpar]⟩
  clear hpar;go_wp2_with (fail);go_ret;exact HP.out
 | some T =>
  rw [hpar] at h;simp only at h;obtain ⟨p, rfl, hlv⟩ := h;have hat := hlv.now;obtain ⟨gt, _, _, hpe, _⟩ := id hat;cases hpe;have HP : Hid (ChainsP w l (.returned (.pointer (some ⟨gt, 0, none⟩))) w5) := ⟨HB5.out, by rw [hpar]; exact ⟨_, rfl, hlv.mono HB4.out.size⟩⟩
  clear hpar hlv hat;go_wp2_with (fail);go_ret;exact HP.out
def szTop (c : WChain) : Prop := c.rules.length ≤ 20 ∧ c.subs.length ≤ 5 ∧ ∀ s ∈ c.subs, s.data.length ≤ 400
theorem ok_top (c : WChain) (h : rgChain c) (k : szTop c) : okChain c :=
 ⟨h.1, h.2.1, h.2.2.1, fun s hs => ⟨(h.2.2.2 s hs).1, (h.2.2.2 s hs).2.1, (h.2.2.2 s hs).2.2, k.2.2 s hs⟩, Nat.le_trans k.1 (by omega), Nat.le_trans k.2.1 (by omega)⟩
theorem chains0_up {w : World} {v : Value} {l : List WChain} (h : WChains0 w v l) (hs : ∀ c ∈ l, szTop c) : WChains w v l := by
 obtain ⟨rs, h1, h2, h3⟩ := h;refine ⟨rs, h1, h2, fun i c r hc hr => ?_⟩
 obtain ⟨h4, ds, h5, h6, h7⟩ := h3 i c r hc hr;refine ⟨h4, ds, h5, h6, fun j s d hs' hd => ?_⟩
 obtain ⟨a, len, cap, zs, rfl, hz, hD⟩ := h7 j s d hs' hd;have hl := (hs c (List.mem_of_getElem? hc)).2.2 s (List.mem_of_getElem? hs');have hlen : (zs.take len).length = len := by
  rcases hz with ⟨rfl, rfl, rfl, rfl⟩ | ⟨x, rfl, hl, hm, hz, _⟩
  ·rfl
  ·rw [List.length_take]; omega
 rw [hD, hlen] at hl;obtain ⟨q1, q2, q3, q4, q5⟩ := VB_of_row hz (by omega)
 exact ⟨a, cap, by rw [hD, hlen], by rw [hD]; exact q1, by rw [hD, hlen]; exact q3, q4, q5⟩
def BigT (w : World) (l : List WChain) (idn : Nat) (e : Ending) (w' : World) : Prop := ∃ b, e = .returned (.bool b) ∧ Below w.heap.size w w' ∧ (b = false → (l.length ≤ 4 ∧ ∀ c ∈ l, szTop c) ∧ idn ≤ 30)
set_option maxRecDepth 100000 in
set_option maxHeartbeats 8000000 in
theorem tbig_any (v : Value) (l : List WChain) (ida : Option Addr) (idn idc : Nat) (w : World) (hin : WChains0 w v l) (hsm : l.length ≤ 9223372036854775807) (hss : ∀ c ∈ l, c.subs.length ≤ 9223372036854775807 ∧ c.rules.length ≤ 9223372036854775807) :
  Calls Tryz.prog 8 #[v, .slice ida idn idc] w (BigT w l idn) := by
 obtain ⟨rs, hrl, hlead, hel⟩ := hin;obtain ⟨ad, cap, rfl⟩ := Row.leads_slice hlead;obtain ⟨n, hn⟩ : ∃ n, n = l.length := ⟨_, rfl⟩;rw [← hn];have HN := Bas.hid hn;have HEL := Bas.hid hel;have HLD := Bas.hid hlead;have HRL := Bas.hid hrl;have HSS := Bas.hid hss;clear hrl hlead hel hn hss;have hn63 : n ≤ 9223372036854775807 := by rw [HN.out]; exact hsm
 go_enter Tryz.func8, Tryz.ntmps8
 go_wp2_with (fail);have HB0 := Bas.hid (Below.refl w.heap.size w);go_loopw [11] (fun vi wr => ∃ k : Nat, k ≤ n ∧ vi = .int .i64 k ∧ (∀ c ∈ l.take k, szTop c) ∧ Below w.heap.size w wr) (fun vi _ => n - (intOf vi).toNat)
 case atStart => exact ⟨0, Nat.zero_le _, rfl, fun c hc => by simp at hc, HB0.out⟩
 case round =>
  obtain ⟨k, hk, rfl, hsz, hb⟩ := hrel;have HB := Bas.hid hb;have HSZ := Bas.hid hsz;by_cases hkn : k < n
  ·have hlen := HN.out;obtain ⟨c, hc⟩ : ∃ c, l[k]? = some c := ⟨_, List.getElem?_eq_getElem (by omega)⟩
   obtain ⟨r, hr⟩ : ∃ r, rs[k]? = some r := ⟨_, List.getElem?_eq_getElem (by rw [HRL.out]; omega)⟩
   obtain ⟨hru, hsu⟩ := HEL.out k c r hc hr;have hz : (l.zip rs)[k]? = some (c, r) := List.getElem?_zip_eq_some.2 ⟨hc, hr⟩;obtain ⟨B0, O0, cp0, hv0, hcl⟩ := Row.leads_elem wChainC_len HLD.out hz (by omega)
   obtain ⟨vr, vs⟩ := r;obtain ⟨ds, hdl, hsl, hsd⟩ := hsu;obtain ⟨ar, cr, rfl⟩ := Row.leads_slice hru;obtain ⟨as', cs', rfl⟩ := Row.leads_slice hsl;cases hv0;have q0 := (hb.cell (p := ⟨B0, O0 + k * 4, none⟩) (World.block_lt_of_cell? _ _ (hcl 0 _ rfl))).trans (hcl 0 _ rfl);have q1 := (hb.cell (p := ⟨B0, O0 + k * 4 + 1, none⟩) (World.block_lt_of_cell? _ _ (hcl 1 _ rfl))).trans (hcl 1 _ rfl);have q2 := (hb.cell (p := ⟨B0, O0 + k * 4 + 2, none⟩) (World.block_lt_of_cell? _ _ (hcl 2 _ rfl))).trans (hcl 2 _ rfl);have q3 := (hb.cell (p := ⟨B0, O0 + k * 4 + 3, none⟩) (World.block_lt_of_cell? _ _ (hcl 3 _ rfl))).trans (hcl 3 _ rfl);have HSL := Bas.hid hsl;have HSD := Bas.hid hsd;have HDL := Bas.hid hdl;have HCK := Bas.hid hc;obtain ⟨nr, hnr⟩ : ∃ nr, nr = c.rules.length := ⟨_, rfl⟩;obtain ⟨ns, hns⟩ : ∃ ns, ns = c.subs.length := ⟨_, rfl⟩;simp only [← hnr, ← hns] at q0 q1 q2 q3 HSL;have HNR := Bas.hid hnr;have HNS := Bas.hid hns;clear hcl hru hsl hsd hdl hb hr hnr hns hlen hc hsz;have HB1 := Bas.hid (HB.out.trans (((Below.refl wr.heap.size wr).alloc (Nat.le_refl _) (.cells #[.int .u32 c.first, .slice ar nr cr, .slice as' ns cs', .int .u8 c.more] 31)).mono HB.out.size));have k5 := Bas.heap_new wr (.cells #[.int .u32 c.first, .slice ar nr cr, .slice as' ns cs', .int .u8 c.more] 31);have hssk := HSS.out c (List.mem_of_getElem? HCK.out);have hns63 : ns ≤ 9223372036854775807 := by rw [HNS.out]; exact hssk.1
   go_wp2_with (fail);generalize wr.alloc (.cells #[.int .u32 c.first, .slice ar nr cr, .slice as' ns cs', .int .u8 c.more] 31) = Wc at *;generalize wr.heap.size = T5 at k5 ⊢;clear q0 q1 q2 q3 HB;go_loopw [18] (fun vi wr => ∃ j : Nat, j ≤ ns ∧ vi = .int .i64 j ∧ (∀ s ∈ c.subs.take j, s.data.length ≤ 400) ∧ Below Wc.heap.size Wc wr) (fun vi _ => ns - (intOf vi).toNat)
   case atStart => exact ⟨0, Nat.zero_le _, rfl, fun c hc => by simp at hc, Below.refl _ _⟩
   case round =>
    obtain ⟨j, hj, rfl, hsj, hb⟩ := hrel;have HBJ := Bas.hid hb;have HSJ := Bas.hid hsj;by_cases hjn : j < ns
    ·have hlen := HNS.out;obtain ⟨s, hs⟩ : ∃ s, c.subs[j]? = some s := ⟨_, List.getElem?_eq_getElem (by omega)⟩
     obtain ⟨d, hd⟩ : ∃ d, ds[j]? = some d := ⟨_, List.getElem?_eq_getElem (by rw [HDL.out]; omega)⟩
     have hz : (c.subs.zip ds)[j]? = some (s, d) := List.getElem?_zip_eq_some.2 ⟨hs, hd⟩;obtain ⟨B1, O1, cp1, hv1, hcl⟩ := Row.leads_elem wSubC_len HSL.out hz (by omega)
     cases hv1;obtain ⟨da, dcap, rfl⟩ := (HSD.out j s d hs hd).len;have HBw := HB1.out.trans (hb.mono HB1.out.size);have q0 := (HBw.cell (p := ⟨B1, O1 + j * 3, none⟩) (World.block_lt_of_cell? _ _ (hcl 0 _ rfl))).trans (hcl 0 _ rfl);have q1 := (HBw.cell (p := ⟨B1, O1 + j * 3 + 1, none⟩) (World.block_lt_of_cell? _ _ (hcl 1 _ rfl))).trans (hcl 1 _ rfl);have q2 := (HBw.cell (p := ⟨B1, O1 + j * 3 + 2, none⟩) (World.block_lt_of_cell? _ _ (hcl 2 _ rfl))).trans (hcl 2 _ rfl);have HS := Bas.hid hs;obtain ⟨m, hm⟩ : ∃ m, m = s.data.length := ⟨_, rfl⟩;simp only [← hm] at q2;have HM := Bas.hid hm;have HBE := Bas.hid (hb.trans (((Below.refl wr.heap.size wr).alloc (Nat.le_refl _) (.cells #[.int .u32 s.cover, .int .u32 s.flags, .slice da m dcap] 44)).mono hb.size));have HBE1 := Bas.hid (HB1.out.trans (HBE.out.mono HB1.out.size));clear hcl HBw hs hd hz hlen hm hb hsj;by_cases g3 : 400 < m
     ·have d3 : decide ((400 : Int) < (m : Int)) = true := by simp; omega
      go_wp2_with (fail);exact bodyPost_ret (v := .bool true) (by simp [results, Tryz.results8, go_sem]) rfl ⟨_, rfl, HBE1.out, fun h => by cases h⟩
     ·have d3 : decide ((400 : Int) < (m : Int)) = false := by simp; omega
      go_wp2_with (fail);go_roundw
      case rel => exact ⟨j + 1, by omega, by go_num, fun y hy => by
       rw [List.take_add_one, HS.out] at hy;rcases List.mem_append.1 hy with h | h
       ·exact HSJ.out y h
       ·simp at h; subst h; rw [← HM.out]; omega, HBE.out⟩
      case measure => simp [intOf]; omega
    ·have hjn2 : j = ns := by omega
     have hdone : ∀ s ∈ c.subs, s.data.length ≤ 400 := fun s hs => by
      have h := HSJ.out s;rw [hjn2, HNS.out, List.take_length] at h;exact h hs
     have HD := Bas.hid hdone;have HBE1 := Bas.hid (HB1.out.trans (HBJ.out.mono HB1.out.size));have kC := (hb.block _ (heap_lt k5)).trans k5;have t1 := cell_of_heap (i := 1) kC rfl;have t2 := cell_of_heap (i := 2) kC rfl;have lC := heap_lt kC;have f3 : decide ((j : Int) < (ns : Int)) = false := by simp; omega
     clear hb hsj hdone hjn2;by_cases g2 : 5 < ns
     ·have d2 : decide ((5 : Int) < (ns : Int)) = true := by simp; omega
      go_wp2_with (fail);exact bodyPost_ret (v := .bool true) (by simp [results, Tryz.results8, go_sem]) rfl ⟨_, rfl, HBE1.out, fun h => by cases h⟩
     ·have d2 : decide ((5 : Int) < (ns : Int)) = false := by simp; omega
      by_cases g1 : 20 < nr
      ·have d1 : decide ((20 : Int) < (nr : Int)) = true := by simp; omega
       go_wp2_with (fail);exact bodyPost_ret (v := .bool true) (by simp [results, Tryz.results8, go_sem]) rfl ⟨_, rfl, HBE1.out, fun h => by cases h⟩
      ·have d1 : decide ((20 : Int) < (nr : Int)) = false := by simp; omega
       go_wp2_with (fail);go_roundw
       case rel => exact ⟨k + 1, by omega, by go_num, fun y hy => by
        rw [List.take_add_one, HCK.out] at hy;rcases List.mem_append.1 hy with h | h
        ·exact HSZ.out y h
        ·simp at h; subst h; exact ⟨by rw [← HNR.out]; omega, by rw [← HNS.out]; omega, HD.out⟩, HBE1.out⟩
       case measure => simp [intOf]; omega
  ·have hkn2 : k = n := by omega
   have hdone : ∀ c ∈ l, szTop c := fun c hc => by
    have h := HSZ.out c;rw [hkn2, HN.out, List.take_length] at h;exact h hc
   have HD := Bas.hid hdone;have f4 : decide ((k : Int) < (n : Int)) = false := by simp; omega
   clear hb hsz hdone hkn2;by_cases g3 : 4 < n
   ·have d3 : decide ((4 : Int) < (n : Int)) = true := by simp; omega
    go_wp2_with (fail);go_ret;exact ⟨_, rfl, HB.out, fun h => by cases h⟩
   ·have d3 : decide ((4 : Int) < (n : Int)) = false := by simp; omega
    by_cases g4 : 30 < idn
    ·have d4 : decide ((30 : Int) < (idn : Int)) = true := by simp; omega
     go_wp2_with (fail);go_ret;exact ⟨_, rfl, HB.out, fun h => by cases h⟩
    ·have d4 : decide ((30 : Int) < (idn : Int)) = false := by simp; omega
     go_wp2_with (fail);go_ret;exact ⟨_, rfl, HB.out, fun _ => ⟨⟨by have := HN.out; omega, HD.out⟩, by omega⟩⟩
theorem elem_below {w u : World} {l : List WChain} {rs : List (Value × Value)} (hel : ∀ (i : Nat) (c : WChain) (r : Value × Value), l[i]? = some c → rs[i]? = some r → Row.Leads w r.1 c.rules.length (c.rules.flatMap wRuleC) ∧ WSubs w r.2 c.subs) (hb : Below w.heap.size w u) :
  ∀ (i : Nat) (c : WChain) (r : Value × Value), l[i]? = some c → rs[i]? = some r → Row.Leads u r.1 c.rules.length (c.rules.flatMap wRuleC) ∧ WSubs u r.2 c.subs := fun i c r hc hr => by
 obtain ⟨h4, ds, q1, q2, q3⟩ := hel i c r hc hr;refine ⟨Row.leads_below h4 hb, ds, q1, Row.leads_below q2 hb, fun j s d hs hd => ?_⟩
 obtain ⟨a, cap, e, hv, r1, r2, r3⟩ := q3 j s d hs hd;exact ⟨a, cap, e, hv.below hb, r1, r2, r3⟩
def TAt (l : List WChain) (tp : Option Addr) (u : World) : Prop := match mapOpt (pC 40) l with
 | none => tp = none
 | some T => (∃ g, tp = some ⟨g, 0, none⟩) ∧ MorxAt u (.pointer tp) T
theorem chains_t (v : Value) (l : List WChain) (w : World) (hl : l.length ≤ 10) (hok : ∀ c ∈ l, okChain c) (hin : WChains w v l) :
  Calls Tryz.prog 7 #[v] w fun e w' => Below w.heap.size w w' ∧ ∃ tp, e = .returned (.pointer tp) ∧ Lives w.heap.size (TAt l tp) w' := by
 refine (chains_any v l w hl hok hin).mono ?_;rintro e w' ⟨hb, h⟩;refine ⟨hb, ?_⟩;cases hp : mapOpt (pC 40) l with
 | none =>
  rw [hp] at h;exact ⟨none, h, fun u _ => by unfold TAt; rw [hp]⟩
 | some T =>
  rw [hp] at h;obtain ⟨g, h1, h2⟩ := h;exact ⟨_, h1, fun u hu => by unfold TAt; rw [hp]; exact ⟨⟨g, rfl⟩, h2 u hu⟩⟩
theorem few_top (l : List WChain) (T : List MChain) (hl : l.length ≤ 10) (hok : ∀ c ∈ l, okChain c) (hT : mapOpt (pC 40) l = some T) :
  T.length ≤ 100000 ∧ (∀ c ∈ T, c.rules.length ≤ 100000) ∧ (∀ c ∈ T, c.subs.length ≤ 1000000) ∧ ∀ d fls, RunOk fAll preL d T fls := by
 have hp : morxParse (writeB l) 40 = some T := (write_parse 40 l hl hok).trans hT;have hf := morx_few (writeT l hok) hp;have hw := writeT_len l hl hok;exact ⟨by have := hf.len; omega, fun c hc => by have := hf.rules c hc; omega, fun c hc => by have := hf.subs c hc; omega, fun d fls => runOk_read (writeT l hok) (by omega) (by omega) hp d fls⟩
end Mx
end Go.Proofs.YtoncnjhhdlpliaaGreat
namespace Go.Proofs.YtoncnjhhdlpliaaGreat
open Go.RowKit Go.ChangeShapes Go.WideShapes Go.ChangeAt
namespace Mx
open Vw Ch Lk St Ln Dr Wr
section
variable {H : Type} {enc : TypeId × Value → H} {w : World} {base : Nat} {held : Bool}
theorem len_bd {t e : TypeId} {fuel : Nat} {v : Value} {x : DataW H × List MemPlace} (ht : Tryz.prog.underlying t = some (.slice e)) (h : DataW.trod enc Tryz.prog w base (fun _ => true) held fuel t [v] = some x) {n : Nat} {xs : List Value} (hL : Row.Leads w v n xs) : n ≤ 9223372036854775807 := by
 obtain ⟨ad, cp, rfl⟩ := Row.leads_slice hL;rcases Go.Deep.open_slice ht h with ⟨h0, _⟩ | ⟨a, len, cap, m, n', D, Pl, h0, _, hl, hm, _⟩
 ·cases h0; omega
 ·cases h0; unfold maxLen at hm; omega
theorem open_chainsM {fuel : Nat} {v : Value} {x : DataW H × List MemPlace} (h : DataW.trod enc Tryz.prog w base (fun _ => true) held fuel 22 [v] = some x) :
  ∃ l : List WChain, WChains0 w v l ∧ ∀ c ∈ l, rgChain c ∧ c.subs.length ≤ 9223372036854775807 ∧ c.rules.length ≤ 9223372036854775807 := by
 rcases Go.Deep.open_slice Tryz.underlying22 h with ⟨h0, _⟩ | ⟨a, len, cap, m, n, D, Pl, h0, _, hl, hm, hmm, _, hx⟩
 ·cases h0;exact ⟨[], ⟨[], rfl, .inl ⟨rfl, rfl, rfl⟩, fun j s d hs => by simp at hs⟩, fun r hr => by cases hr⟩
 ·cases h0;have hc4 : Tryz.prog.cellsOf 31 = 4 := by kernel_rfl
  rw [hc4] at hx;obtain ⟨l, h1, h2, h3⟩ := Bas.open_elems (f := wChainC) (good := fun x => (Row.Leads w x.2.1 x.1.rules.length (x.1.rules.flatMap wRuleC) ∧ WSubs0 w x.2.2 x.1.subs) ∧ rgChain x.1 ∧ x.1.subs.length ≤ 9223372036854775807 ∧ x.1.rules.length ≤ 9223372036854775807) (by omega) wChainC_len (w := w) (base := base) (a := a) (len := len) (cap := cap) (fun i hi => by
   obtain ⟨cs, e1, e2⟩ := hx i (by rw [hmm]; simp; omega)
   refine ⟨cs, e1, ?_⟩;obtain ⟨_, hlen, _⟩ := World.cells?_some e1;obtain ⟨n0, f0, w0⟩ := Bas.open_field_int (kd := .u32) 0 _ Tryz.underlying31 e2 rfl (by kernel_rfl) (by rw [hc4]; decide) (by kernel_rfl)
   obtain ⟨_, v1, y1, m1, f1, t1⟩ := Bas.open_field 1 _ Tryz.underlying31 e2 rfl (by kernel_rfl) (by rw [hc4]; decide)
   obtain ⟨_, v2, y2, m2, f2, t2⟩ := Bas.open_field 2 _ Tryz.underlying31 e2 rfl (by kernel_rfl) (by rw [hc4]; decide)
   obtain ⟨n3, f3, w3⟩ := Bas.open_field_int (kd := .u8) 3 _ Tryz.underlying31 e2 rfl (by kernel_rfl) (by rw [hc4]; decide) (by kernel_rfl)
   obtain ⟨lr, hr1, hr2⟩ := open_rules t1;obtain ⟨ls, hs1, hs2⟩ := open_subs t2;have bR := len_bd Tryz.underlying28 t1 hr1;have bS : ls.length ≤ 9223372036854775807 := by
    obtain ⟨_, _, hld, _⟩ := id hs1;exact len_bd Tryz.underlying29 t2 hld
   exact ⟨(⟨n0, lr, ls, n3⟩, (v1, v2)), list4 hlen f0 f1 f2 f3, ⟨hr1, hs1⟩, ⟨Bas.wf_u32 w0, Bas.wf_u8 w3, hr2, hs2⟩, bS, bR⟩)
  subst h1;refine ⟨l.map Prod.fst, ⟨l.map Prod.snd, by simp, by rw [zip_self, List.length_map]; exact h2, fun j s d hs hd => ?_⟩, fun s hs => ?_⟩
  ·rw [List.getElem?_map] at hs hd;cases hj : l[j]? with
   | none => rw [hj] at hs; cases hs
   | some y =>
    rw [hj] at hs hd;cases hs; cases hd;exact (h3 y (List.mem_of_getElem? hj)).1
  ·obtain ⟨y, hy, rfl⟩ := List.mem_map.1 hs;exact (h3 y hy).2
end
end Mx
end Go.Proofs.YtoncnjhhdlpliaaGreat
namespace Go.Proofs.YtoncnjhhdlpliaaGreat
open Go.RowKit
namespace Mx
open Vw Ch Lk St Ln Dr Rr Sw Cx In Lg
def Sm (xs ys : List Gl) : Prop := xs.map (fun g => g.1) = ys.map (fun g => g.1)
theorem Sm.len {xs ys : List Gl} (h : Sm xs ys) : xs.length = ys.length := by simpa using congrArg List.length h
theorem Sm.get {xs ys : List Gl} (h : Sm xs ys) (i : Int) : (glAt xs i).map (fun g => g.1) = (glAt ys i).map (fun g => g.1) := by
 unfold glAt;split
 ·rw [← List.getElem?_map, ← List.getElem?_map, h]
 ·rfl
theorem Sm.cases {xs ys : List Gl} (h : Sm xs ys) (i : Int) : (glAt xs i = none ∧ glAt ys i = none) ∨ ∃ a c d, glAt xs i = some (a, c) ∧ glAt ys i = some (a, d) := by
 have := h.get i;cases h1 : glAt xs i with
 | none =>
  rw [h1] at this;cases h2 : glAt ys i with
  | none => exact .inl ⟨rfl, rfl⟩
  | some q => rw [h2] at this; cases this
 | some p =>
  rw [h1] at this;cases h2 : glAt ys i with
  | none => rw [h2] at this; cases this
  | some q =>
   rw [h2] at this;obtain ⟨a, c⟩ := p;obtain ⟨b, d⟩ := q;cases this;exact .inr ⟨a, c, d, rfl, rfl⟩
theorem Sm.set {xs ys : List Gl} (h : Sm xs ys) (i n : Int) : Sm (setId xs i n) (setId ys i n) := by
 unfold setId;rcases h.cases i with ⟨e1, e2⟩ | ⟨a, c, d, e1, e2⟩ <;> rw [e1, e2]
 ·exact h
 ·unfold Sm;rw [List.map_set, List.map_set, h]
theorem cl_ids (xs : List Gl) (i c : Int) : (setCl xs i c).map (fun g => g.1) = xs.map (fun g => g.1) := by
 unfold setCl;cases hg : glAt xs i with
 | none => rfl
 | some g =>
  unfold glAt at hg;split at hg
  ·refine List.ext_getElem? fun j => ?_
   rw [List.getElem?_map, List.getElem?_map, List.getElem?_set];split
   ·rename_i e
    subst e;have := (List.getElem?_eq_some_iff.1 hg).1;rw [if_pos this, hg]; rfl
   ·rfl
  ·cases hg
theorem join_ids (xs : List Gl) (i : Int) (ks : List Int) : (joinL xs i ks).map (fun g => g.1) = xs.map (fun g => g.1) := by
 unfold joinL;split
 ·rfl
 ·have : ∀ (ks : List Int) (xs : List Gl), (ks.foldl (fun xs k => match glAt xs k, glAt xs i with
    | some g, some h => setCl xs i (min h.2 g.2)
    | _, _ => xs) xs).map (fun g => g.1) = xs.map (fun g => g.1) := fun ks => by
   induction ks with
   | nil => intro xs; rfl
   | cons k ks ih =>
    intro xs;rw [List.foldl_cons, ih];split
    ·exact cl_ids _ _ _
    ·rfl
  exact this ks xs
theorem Sm.join {xs ys : List Gl} (h : Sm xs ys) (i : Int) (ks : List Int) : Sm (joinL xs i ks) (joinL ys i ks) := (join_ids xs i ks).trans (h.trans (join_ids ys i ks).symm)
theorem ins_ids (xs : List Gl) (i : Int) (ids : List Int) : (insL xs i ids).map (fun g => g.1) = if i < 0 ∨ ((xs.map (fun g => g.1)).length : Int) < i then xs.map (fun g => g.1) else (xs.map (fun g => g.1)).take i.toNat ++ ids ++ (xs.map (fun g => g.1)).drop i.toNat := by
 unfold insL;rw [List.length_map];split
 ·rfl
 ·simp only [List.map_append, List.map_map, List.map_take, List.map_drop]
  congr 2
  exact List.map_id' _ ▸ (by simp [])
theorem Sm.ins {xs ys : List Gl} (h : Sm xs ys) (i : Int) (ids : List Int) : Sm (insL xs i ids) (insL ys i ids) := by
 unfold Sm;rw [ins_ids, ins_ids, h]
theorem getD_ids (l : List Gl) (n : Nat) : (l.getD n (0, 0)).1 = (l.map (fun g => g.1)).getD n 0 := by
 rw [List.getD_eq_getElem?_getD, List.getD_eq_getElem?_getD, List.getElem?_map];cases l[n]? <;> rfl
theorem Sm.ord {xs ys : List Gl} (h : Sm xs ys) (f : Nat) (order : List Int) : Sm (ordP xs f order) (ordP ys f order) := by
 have e : ∀ zs : List Gl, (ordP zs f order).map (fun g => g.1) = (zs.map (fun g => g.1)).take f ++ order.map (fun k => ((zs.map (fun g => g.1)).drop f).getD k.toNat 0) ++ (zs.map (fun g => g.1)).drop (f + order.length) := fun zs => by
  unfold ordP;simp only [List.map_append, List.map_map, List.map_take, List.map_drop]
  congr 2
  refine List.map_congr_left fun k _ => ?_
  simp only [Function.comp_apply, getD_ids, List.map_drop]
 unfold Sm;rw [e, e, h]
theorem Sm.clean {xs ys : List Gl} (h : Sm xs ys) : Sm (cleanL xs) (cleanL ys) := by
 have e : ∀ zs : List Gl, (cleanL zs).map (fun g => g.1) = (zs.map (fun g => g.1)).filter fun a => decide (a ≠ 65535) := fun zs => by
  unfold cleanL;rw [List.filter_map];rfl
 unfold Sm;rw [e, e, h]
theorem Sm.rev {xs ys : List Gl} (h : Sm xs ys) : Sm xs.reverse ys.reverse := by
 unfold Sm;rw [List.map_reverse, List.map_reverse, h]
section
variable {σ : Type}
def ActS (F : ActF σ) : Prop := ∀ s xs ys pl e, Sm xs ys → (F s xs pl e).1 = (F s ys pl e).1 ∧ Sm (F s xs pl e).2.1 (F s ys pl e).2.1 ∧ (F s xs pl e).2.2 = (F s ys pl e).2.2
def DvS (d d' : Dv σ) : Prop := d.st = d'.st ∧ Sm d.xs d'.xs ∧ d.state = d'.state ∧ d.place = d'.place ∧ d.steps = d'.steps ∧ d.rest = d'.rest
theorem dstep_same (M : MachD) {F : ActF σ} (hF : ActS F) {d d' : Dv σ} (h : DvS d d') : DvS (dstep M F d).1 (dstep M F d').1 ∧ (dstep M F d).2 = (dstep M F d').2 := by
 obtain ⟨st, xs, state, place, steps, rest⟩ := d;obtain ⟨st', ys, state', place', steps', rest'⟩ := d';obtain ⟨h1, hs, h2, h3, h4, h5⟩ := h;simp only at h1 hs h2 h3 h4 h5;subst h1 h2 h3 h4 h5;have hc : classAt M xs place = classAt M ys place := by
  unfold classAt;rcases hs.cases place with ⟨e1, e2⟩ | ⟨a, c, d, e1, e2⟩ <;> rw [e1, e2]
 obtain ⟨q1, q2, q3⟩ := hF st xs ys place (stepM M state (classAt M ys place).1) hs;unfold dstep;simp only [hc];split
 ·exact ⟨⟨q1, q2, rfl, by rw [q3], rfl, rfl⟩, rfl⟩
 ·exact ⟨⟨q1, q2, rfl, by rw [q3], rfl, rfl⟩, rfl⟩
theorem drun_same (M : MachD) {F : ActF σ} (hF : ActS F) : ∀ (f : Nat) (d d' : Dv σ), DvS d d' → DvS (drun M F f d).1 (drun M F f d').1 ∧ (drun M F f d).2 = (drun M F f d').2
 | 0, d, d', h => ⟨h, rfl⟩
 | f + 1, d, d', h => by
  obtain ⟨h1, h2⟩ := dstep_same M hF h;unfold drun;simp only [h2, h1.2.2.2.2.2];split
  ·exact ⟨h1, rfl⟩
  ·split
   ·exact ⟨h1, rfl⟩
   ·exact drun_same M hF f _ _ h1
theorem dall_same (M : MachD) {F : ActF σ} (hF : ActS F) (st : σ) {xs ys : List Gl} (h : Sm xs ys) : DvS (dall M F st xs).1 (dall M F st ys).1 ∧ (dall M F st xs).2 = (dall M F st ys).2 := by
 unfold dall;rw [h.len];exact drun_same M hF _ _ _ ⟨rfl, h, rfl, rfl, rfl, rfl⟩
def PlS (F : PlF σ) : Prop := ∀ s xs ys i e, Sm xs ys → (F s xs i e).1 = (F s ys i e).1 ∧ Sm (F s xs i e).2 (F s ys i e).2
theorem plF_same {F : PlF σ} (h : PlS F) : ActS (plF F) := fun s xs ys pl e hs => ⟨(h s xs ys pl e hs).1, (h s xs ys pl e hs).2, rfl⟩
end
theorem rear_same : PlS rearF := fun s xs ys i e h => by
 unfold rearF rearX;rw [h.len];refine ⟨rfl, ?_⟩;simp only;split
 ·exact h.ord _ _
 ·exact h
theorem swapC_same {xs ys : List Gl} (h : Sm xs ys) (subs : List (List PartD)) (i which : Int) : Sm (ctxSwap subs xs i which) (ctxSwap subs ys i which) := by
 unfold ctxSwap;split
 ·exact h
 ·rcases h.cases i with ⟨e1, e2⟩ | ⟨a, c, d, e1, e2⟩ <;> rw [e1, e2]
  ·exact h
  ·simp only;split
   ·exact h.set _ _
   ·exact h
theorem ctx_same (T : CtxD) : PlS (ctxF T) := fun s xs ys i e h => by
 unfold ctxF;rw [h.len];exact ⟨rfl, swapC_same (swapC_same h _ _ _) _ _ _⟩
theorem swapG_same (ps : List PartD) (a c d : Int) : (swapG ps (a, c)).1 = (swapG ps (a, d)).1 := by
 unfold swapG;simp only;split
 ·rfl
 ·split <;> rfl
theorem swap_same (ps : List PartD) : ∀ {xs ys : List Gl}, Sm xs ys → Sm (xs.map (swapG ps)) (ys.map (swapG ps))
 | [], [], _ => rfl
 | [], y :: ys, h => by simp [Sm] at h
 | x :: xs, [], h => by simp [Sm] at h
 | (a, c) :: xs, (b, d) :: ys, h => by
  simp only [Sm, List.map_cons, List.cons.injEq] at h;obtain ⟨rfl, h⟩ := h;have ih := swap_same ps (xs := xs) (ys := ys) h;unfold Sm at ih ⊢;rw [List.map_cons, List.map_cons, List.map_cons, List.map_cons, ih, swapG_same ps a c d]
theorem store_same {xs ys : List Gl} (h : Sm xs ys) (lig : List Int) (i s : Int) (gone : List Int) : (storeL lig xs i s gone = none ∧ storeL lig ys i s gone = none) ∨ ∃ x' y', storeL lig xs i s gone = some x' ∧ storeL lig ys i s gone = some y' ∧ Sm x' y' := by
 unfold storeL;cases entL lig s with
 | none => exact .inl ⟨rfl, rfl⟩
 | some n =>
  refine .inr ⟨_, _, rfl, rfl, ?_⟩;have : ∀ (ks : List Int) (xs ys : List Gl), Sm xs ys → Sm (ks.foldl (fun xs k => setId xs k 65535) xs) (ks.foldl (fun xs k => setId xs k 65535) ys) := fun ks => by
   induction ks with
   | nil => intro xs ys h; exact h
   | cons k ks ih => intro xs ys h; exact ih _ _ (h.set k 65535)
  exact this gone _ _ ((h.set i n).join i gone)
theorem actL_same {xs ys : List Gl} (h : Sm xs ys) (T : LigD) (i a s : Int) (gone : List Int) : (actL T xs i a s gone = none ∧ actL T ys i a s gone = none) ∨ ∃ x' y' g, actL T xs i a s gone = some (x', g) ∧ actL T ys i a s gone = some (y', g) ∧ Sm x' y' := by
 unfold actL;split
 ·exact .inr ⟨_, _, _, rfl, rfl, h⟩
 ·rcases store_same h T.lig i s gone with ⟨e1, e2⟩ | ⟨x', y', e1, e2, e3⟩ <;> rw [e1, e2]
  ·exact .inl ⟨rfl, rfl⟩
  ·exact .inr ⟨_, _, _, rfl, rfl, e3⟩
theorem perform_same (T : LigD) : ∀ (f : Nat) (ps : List Int) (xs ys : List Gl) (k : Nat) (sum : Int) (gone : List Int), Sm xs ys → (performL T f ps xs k sum gone).1 = (performL T f ps ys k sum gone).1 ∧ Sm (performL T f ps xs k sum gone).2 (performL T f ps ys k sum gone).2
 | 0, _, _, _, _, _, _, h => ⟨rfl, h⟩
 | f + 1, ps, xs, ys, k, sum, gone, h => by
  unfold performL;cases popL ps with
  | none => exact ⟨rfl, h⟩
  | some q =>
   obtain ⟨i, ps'⟩ := q;have hg : gidL xs i = gidL ys i := by
    unfold gidL;rcases h.cases i with ⟨e1, e2⟩ | ⟨a, c, d, e1, e2⟩ <;> rw [e1, e2]
   simp only [hg];cases entL T.comp (wrap64 (gidL ys i + offA (be T.act (4 * k) 4))) with
   | none => exact ⟨rfl, h⟩
   | some part =>
    simp only;rcases actL_same h T i (be T.act (4 * k) 4) (wrap64 (sum + part)) gone with ⟨e1, e2⟩ | ⟨x', y', g, e1, e2, e3⟩ <;> rw [e1, e2]
    ·exact ⟨rfl, h⟩
    ·simp only;split
     ·exact ⟨rfl, e3⟩
     ·exact perform_same T f _ _ _ _ _ _ e3
theorem lig_same (T : LigD) : PlS (ligF T) := fun s xs ys i e h => by
 unfold ligF;rw [h.len];split
 ·exact perform_same T _ _ _ _ _ _ _ h
 ·exact ⟨rfl, h⟩
theorem put_same (T : InsD) (s : InsS) {xs ys : List Gl} (h : Sm xs ys) (p : Int) (a n : Nat) : (putI T s xs p a n).1 = (putI T s ys p a n).1 ∧ Sm (putI T s xs p a n).2.1 (putI T s ys p a n).2.1 ∧ (putI T s xs p a n).2.2 = (putI T s ys p a n).2.2 := by
 unfold putI;rw [h.len];split
 ·exact ⟨rfl, h, rfl⟩
 ·exact ⟨rfl, h.ins _ _, rfl⟩
theorem ins2_same (T : InsD) (e : EntD) (s : InsS) {xs ys : List Gl} (h : Sm xs ys) (i : Int) : (ins2 T e s xs i).1 = (ins2 T e s ys i).1 ∧ Sm (ins2 T e s xs i).2.1 (ins2 T e s ys i).2.1 ∧ (ins2 T e s xs i).2.2 = (ins2 T e s ys i).2.2 := by
 unfold ins2;rw [h.len];have P := fun p => put_same T s h p e.a.toNat (hereOf e).toNat
 simp only [fun p => (P p).1, fun p => (P p).2.2]
 repeat' split
 all_goals first | exact ⟨rfl, (P _).2.1, rfl⟩ | exact ⟨rfl, h, rfl⟩
theorem ins_same (T : InsD) : ActS (insF T) := fun s xs ys i e h => by
 unfold insF;have P := fun p => put_same T s h p e.b.toNat (markOf e).toNat
 simp only [fun p => (P p).1, fun p => (P p).2.2]
 split
 ·exact ⟨rfl, h, rfl⟩
 ·split
  ·split
   ·exact ⟨rfl, (P _).2.1, rfl⟩
   ·exact ins2_same T e _ (P _).2.1 _
  ·exact ins2_same T e s h i
theorem work_same (k : WkD) (left : Int) {xs ys : List Gl} (h : Sm xs ys) : Sm (fAll k left xs).1 (fAll k left ys).1 ∧ (fAll k left xs).2 = (fAll k left ys).2 := by
 cases k with
 | rear M =>
  have := dall_same M (plF_same rear_same) (0, 0) h;exact ⟨this.1.2.1, by show ((0 : Int), (dall M (plF rearF) (0, 0) xs).2) = _; rw [this.2]; rfl⟩
 | ctx T =>
  have := dall_same T.m (plF_same (ctx_same T)) (-1) h;exact ⟨this.1.2.1, by show ((0 : Int), (dall T.m (plF (ctxF T)) (-1) xs).2) = _; rw [this.2]; rfl⟩
 | lig T =>
  have := dall_same T.m (plF_same (lig_same T)) [] h;exact ⟨this.1.2.1, by show ((0 : Int), (dall T.m (plF (ligF T)) [] xs).2) = _; rw [this.2]; rfl⟩
 | swap ps => exact ⟨swap_same ps h, rfl⟩
 | ins T =>
  have := dall_same T.m (ins_same T) ⟨-1, left, 0, false⟩ h;refine ⟨this.1.2.1, ?_⟩;show ((dall T.m (insF T) ⟨-1, left, 0, false⟩ xs).1.st.done, if (dall T.m (insF T) ⟨-1, left, 0, false⟩ xs).1.st.broke = true then (4 : Int) else (dall T.m (insF T) ⟨-1, left, 0, false⟩ xs).2) = _
  rw [this.1.1, this.2];rfl
 | none => exact ⟨h, rfl⟩
theorem sub_mirror (s : MSub) (hs : Cov.bitB s.cover 28 = false) (left : Int) {xs ys : List Gl} (h : Sm xs ys.reverse) : Sm (runSub fAll 1 s left xs).1 (runSub fAll 0 s left ys).1.reverse ∧ (runSub fAll 1 s left xs).2 = (runSub fAll 0 s left ys).2 := by
 unfold runSub turnedOf Cov.turnedM;rw [hs];cases Cov.bitB s.cover 30 with
 | false =>
  have hr : Sm xs.reverse ys := by have := h.rev; rwa [List.reverse_reverse] at this
  have := work_same s.wk left hr;exact ⟨this.1.rev, this.2⟩
 | true =>
  have := work_same s.wk left h;refine ⟨?_, this.2⟩;show Sm (fAll s.wk left xs).1 (fAll s.wk left ys.reverse).1.reverse.reverse
  rw [List.reverse_reverse];exact this.1
theorem asks_side (fl : Int) (s : MSub) : asks fl 1 s = asks fl 0 s := by
 unfold asks Cov.runsM Cov.fits;rfl
theorem subs_mirror (fl : Int) : ∀ (l : List MSub) (k : Nat) (xs ys : List Gl) (left : Int), (∀ s ∈ l, Cov.bitB s.cover 28 = false) → Sm xs ys.reverse →
  Sm (subsRun fAll fl 1 l k xs left).1 (subsRun fAll fl 0 l k ys left).1.reverse ∧ (subsRun fAll fl 1 l k xs left).2 = (subsRun fAll fl 0 l k ys left).2
 | [], _, _, _, _, _, h => ⟨h, rfl⟩
 | s :: l, k, xs, ys, left, hl, h => by
  have hl' : ∀ x ∈ l, Cov.bitB x.cover 28 = false := fun x hx => hl x (List.mem_cons_of_mem _ hx)
  cases ha : asks fl 0 s with
  | false =>
   rw [subsRun_no ha, subsRun_no ((asks_side fl s).trans ha)];exact subs_mirror fl l _ _ _ _ hl' h
  | true =>
   rw [subsRun_yes ha, subsRun_yes ((asks_side fl s).trans ha)];obtain ⟨h1, h2⟩ := sub_mirror s (hl s (List.mem_cons_self ..)) left h;rw [h2];split
   ·exact subs_mirror fl l _ _ _ _ hl' h1
   ·exact ⟨h1, rfl⟩
theorem chains_mirror : ∀ (l : List (MChain × Int)) (i : Nat) (xs ys : List Gl) (left : Int), (∀ c ∈ l, ∀ s ∈ c.1.subs, Cov.bitB s.cover 28 = false) → Sm xs ys.reverse →
  Sm (chainsRun fAll 1 l i xs left).1 (chainsRun fAll 0 l i ys left).1.reverse ∧ (chainsRun fAll 1 l i xs left).2 = (chainsRun fAll 0 l i ys left).2
 | [], _, xs, ys, _, _, h => by
  refine ⟨?_, rfl⟩;have := h.clean;show Sm (cleanL xs) (cleanL ys).reverse
  unfold cleanL at this ⊢
  rwa [List.filter_reverse] at this
 | (c, fl) :: l, i, xs, ys, left, hl, h => by
  obtain ⟨h1, h2⟩ := subs_mirror fl c.subs 0 xs ys left (hl (c, fl) (List.mem_cons_self ..)) h;rw [chainsRun_cons, chainsRun_cons];obtain ⟨r, hr⟩ : ∃ r, subsRun fAll fl 1 c.subs 0 xs left = r := ⟨_, rfl⟩;obtain ⟨q, hq⟩ : ∃ q, subsRun fAll fl 0 c.subs 0 ys left = q := ⟨_, rfl⟩;rw [hr, hq] at h1 h2;rw [hr, hq];obtain ⟨x', r2⟩ := r;obtain ⟨y', lf, o⟩ := q;simp only at h1 h2;subst h2;cases o with
  | none => exact chains_mirror l (i + 1) _ _ lf (fun x hx => hl x (List.mem_cons_of_mem _ hx)) h1
  | some q => exact ⟨h1, rfl⟩
theorem lnNew_ids (ids : List Int) : (lnNew ids).map (fun g => g.1) = ids := by
 unfold lnNew lnPre;rw [List.map_map];refine List.ext_getElem? fun j => ?_
 rw [List.getElem?_map];by_cases hj : j < ids.length
 ·rw [List.getElem?_range hj, List.getElem?_eq_getElem hj];simp [List.getD_eq_getElem?_getD, List.getElem?_eq_getElem hj]
 ·rw [List.getElem?_eq_none (by simpa using hj), List.getElem?_eq_none (by omega)]
  rfl
theorem lnNew_mirror (ids : List Int) : Sm (lnNew ids) (lnNew ids.reverse).reverse := by
 unfold Sm;rw [List.map_reverse, lnNew_ids, lnNew_ids, List.reverse_reverse]
end Mx
namespace Mx
open Vw Ch Lk St Ln Dr Wr
def clrS (s : WSub) : WSub := ⟨bits .andNot .u32 s.cover 268435456, s.flags, s.data⟩
def clr (c : WChain) : WChain := ⟨c.first, c.rules, c.subs.map clrS, c.more⟩
theorem clr_bits (x : Int) (h0 : 0 ≤ x) (h1 : x ≤ 4294967295) : (0 ≤ bits .andNot .u32 x 268435456 ∧ bits .andNot .u32 x 268435456 ≤ 4294967295) ∧ Cov.bitB (bits .andNot .u32 x 268435456) 28 = false := by
 rw [u32_andNot x 268435456 h0 (by omega) (by omega) (by omega)]
 have e : (4294967295 - (268435456 : Int).toNat : Nat) = 4026531839 := by decide
 rw [e];have hle : x.toNat &&& 4026531839 ≤ 4026531839 := Nat.and_le_right;refine ⟨⟨by omega, by omega⟩, ?_⟩
 have ht : (x.toNat &&& 4026531839).testBit 28 = false := by
  rw [Nat.testBit_and];have : (4026531839 : Nat).testBit 28 = false := by decide
  rw [this, Bool.and_false]
 rw [Nat.testBit_eq_decide_div_mod_eq] at ht;unfold Cov.bitB;simp only [decide_eq_false_iff_not] at ht;simp only [beq_eq_false_iff_ne, ne_eq];intro h;apply ht;omega
theorem clr_ok {c : WChain} (h : okChain c) : okChain (clr c) := by
 obtain ⟨h1, h2, h3, h4, h5, h6⟩ := h;refine ⟨h1, h2, h3, fun s hs => ?_, h5, by show (c.subs.map clrS).length ≤ 10; rw [List.length_map]; exact h6⟩
 obtain ⟨t, ht, rfl⟩ := List.mem_map.1 hs;obtain ⟨q1, q2, q3, q4⟩ := h4 t ht;exact ⟨(clr_bits t.cover q1.1 q1.2).1, q2, q3, q4⟩
theorem pos_cover : ∀ (l : List WSub) (p : Nat), ∀ d ∈ subsPos p l, ∃ s ∈ l, d.cover = s.cover
 | [], _, d, h => by cases h
 | s :: l, p, d, h => by
  rcases List.mem_cons.1 h with rfl | h
  ·exact ⟨s, List.mem_cons_self .., rfl⟩
  ·obtain ⟨t, h1, h2⟩ := pos_cover l _ d h;exact ⟨t, List.mem_cons_of_mem _ h1, h2⟩
theorem clr_cover {gl : Nat} {l : List WChain} {T : List MChain} (hok : ∀ c ∈ l, okChain c) (h : mapOpt (pC gl) (l.map clr) = some T) : ∀ c ∈ T, ∀ s ∈ c.subs, Cov.bitB s.cover 28 = false := by
 intro c hc s hs;obtain ⟨x, hx, hp⟩ := mapOpt_mem _ _ _ h c hc;obtain ⟨y, hy, rfl⟩ := List.mem_map.1 hx;unfold pC at hp;cases hm : mapOpt (subOf (chainB (clr y)) gl) (subsPos (16 + 12 * (clr y).rules.length) (clr y).subs) with
 | none => rw [hm] at hp; cases hp
 | some ss =>
  rw [hm] at hp;cases hp;obtain ⟨d, hd, hp2⟩ := mapOpt_mem _ _ _ hm s hs;obtain ⟨t, ht, he⟩ := pos_cover _ _ d hd;obtain ⟨t', ht', rfl⟩ := List.mem_map.1 (show t ∈ y.subs.map clrS from ht)
  unfold subOf at hp2;cases hw : wkParse (d.cover % 256) (((chainB (clr y)).drop (d.at' + 12)).take (d.len - 12)) gl with
  | none => rw [hw] at hp2; cases hp2
  | some k =>
   rw [hw] at hp2;cases hp2;show Cov.bitB d.cover 28 = false
   rw [he];obtain ⟨q1, _⟩ := (hok y hy).2.2.2.1 t' ht';exact (clr_bits t'.cover q1.1 q1.2).2
theorem infoWS : (Tryz.prog.info? 44).map (fun i => (i.zero, i.size, i.bytes)) = some (some (.agg #[.int .u32 0, .int .u32 0, .slice none 0 0]), 3, 32) := by kernel_rfl
theorem infoIn8 : (Tryz.prog.info? 3).map (fun i => (i.zero, i.size, i.bytes)) = some (some (.int .i64 0), 1, 8) := by kernel_rfl
theorem flat_set {α : Type} (f : α → List Value) (n : Nat) (hf : ∀ x, (f x).length = n) : ∀ (l : List α) (i q : Nat) (x y : α) (v : Value), l[i]? = some x → (f x).set q v = f y → q < n → (l.flatMap f).set (i * n + q) v = (l.set i y).flatMap f
 | [], _, _, _, _, _, h, _, _ => by simp at h
 | z :: l, 0, q, x, y, v, h, e, hq => by
  obtain rfl : z = x := by simpa using h
  rw [List.flatMap_cons, Nat.zero_mul, Nat.zero_add, List.set_append_left _ _ (by rw [hf]; exact hq), e]
  rfl
 | z :: l, i + 1, q, x, y, v, h, e, hq => by
  have ih := flat_set f n hf l i q x y v (by simpa using h) e hq
  have hm : (i + 1) * n + q = n + (i * n + q) := by rw [Nat.add_mul]; omega
  rw [List.flatMap_cons, List.set_append_right _ _ (by rw [hf]; omega), hf, hm, Nat.add_sub_cancel_left, ih]
  rfl
theorem zip_set2 {α β : Type} (l : List α) (m : List β) (i : Nat) (x : α) (y : β) : (l.set i x).zip (m.set i y) = (l.zip m).set i (x, y) := by
 refine List.ext_getElem? fun j => ?_
 rw [List.getElem?_set];by_cases hj : i = j
 ·subst hj;rw [if_pos rfl, List.length_zip];by_cases h : i < l.length ∧ i < m.length
  ·rw [if_pos (by omega)]
   exact List.getElem?_zip_eq_some.2 ⟨List.getElem?_set_self h.1, List.getElem?_set_self h.2⟩
  ·rw [if_neg (by omega), List.getElem?_eq_none (by rw [List.length_zip, List.length_set, List.length_set]; omega)]
 ·unfold List.zip;rw [if_neg hj, List.getElem?_zipWith, List.getElem?_zipWith, List.getElem?_set_ne hj, List.getElem?_set_ne hj]
def upTo {α : Type} (f : α → α) (l m : List α) (i : Nat) : Prop := m.length = l.length ∧ ∀ (j : Nat) (c : α), l[j]? = some c → m[j]? = some (if j < i then f c else c)
theorem upTo.zero {α : Type} (f : α → α) (l : List α) : upTo f l l 0 := ⟨rfl, fun j c h => by rw [if_neg (by omega)]; exact h⟩
theorem upTo.succ {α : Type} {f : α → α} {l m : List α} {i : Nat} (h : upTo f l m i) {c : α} (hc : l[i]? = some c) : upTo f l (m.set i (f c)) (i + 1) := by
 refine ⟨by rw [List.length_set]; exact h.1, fun j x hx => ?_⟩
 by_cases hj : i = j
 ·subst hj;rw [hc] at hx;cases hx;rw [List.getElem?_set_self (by rw [h.1]; exact (List.getElem?_eq_some_iff.1 hc).1), if_pos (by omega)]
 ·rw [List.getElem?_set_ne hj, h.2 j x hx];by_cases hji : j < i
  ·rw [if_pos hji, if_pos (by omega)]
  ·rw [if_neg hji, if_neg (by omega)]
theorem upTo.all {α : Type} {f : α → α} {l m : List α} (h : upTo f l m l.length) : m = l.map f := by
 refine List.ext_getElem? fun j => ?_
 rw [List.getElem?_map];by_cases hj : j < l.length
 ·rw [h.2 j _ (List.getElem?_eq_getElem hj), if_pos hj, List.getElem?_eq_getElem hj];rfl
 ·rw [List.getElem?_eq_none (by rw [h.1]; omega), List.getElem?_eq_none (by omega)]
  rfl
theorem chainRow_set {m : List WChain} {rs : List (Value × Value)} {i : Nat} {c : WChain} {r : Value × Value} (hm : m[i]? = some c) (hr : rs[i]? = some r) (v : Value) :
  ((m.zip rs).flatMap wChainC).set (i * 4 + 2) v = ((m.set i (clr c)).zip (rs.set i (r.1, v))).flatMap wChainC := by
 rw [zip_set2];exact flat_set wChainC 4 wChainC_len _ i 2 (c, r) (clr c, (r.1, v)) v (List.getElem?_zip_eq_some.2 ⟨hm, hr⟩) rfl (by omega)
theorem subRow_set {m : List WSub} {ds : List Value} {k : Nat} {s : WSub} (hm : m[k]? = some s) {d : Value} (hd : ds[k]? = some d) :
  ((m.zip ds).flatMap wSubC).set (k * 3) (.int .u32 (bits .andNot .u32 s.cover 268435456)) = ((m.set k (clrS s)).zip ds).flatMap wSubC := by
 have e : (m.set k (clrS s)).zip ds = (m.zip ds).set k (clrS s, d) := by
  rw [← zip_set2]
  congr 1
  refine List.ext_getElem? fun j => ?_
  by_cases hj : k = j
  ·subst hj;rw [hd, List.getElem?_set_self (List.getElem?_eq_some_iff.1 hd).1]
  ·rw [List.getElem?_set_ne hj]
 rw [e];exact flat_set wSubC 3 wSubC_len _ k 0 (s, d) (clrS s, d) _ (List.getElem?_zip_eq_some.2 ⟨hm, hd⟩) rfl (by omega)
def NL (w u : World) (b : Nat) (c : WChain) (r : Value × Value) : Prop := ∀ u', Below w.heap.size w u' → (∀ k, k ≠ b → k < u.heap.size → u'.heap[k]? = u.heap[k]?) → Row.Leads u' r.1 c.rules.length (c.rules.flatMap wRuleC) ∧ WSubs u' r.2 c.subs
theorem NL.on {w u u' : World} {b : Nat} {c : WChain} {r : Value × Value} (h : NL w u b c r) (hs : u.heap.size ≤ u'.heap.size) (hk : ∀ k, k ≠ b → k < u.heap.size → u'.heap[k]? = u.heap[k]?) : NL w u' b c r :=
 fun u2 hb ha => h u2 hb fun k h1 h2 => (ha k h1 (Nat.lt_of_lt_of_le h2 hs)).trans (hk k h1 h2)
theorem NL.put {w u u' : World} {b g n cp base : Nat} {e : TypeId} {c : WChain} {r : Value × Value} {ds : List Value} (h : NL w u b c r) (hs : u.heap.size ≤ u'.heap.size) (hk : ∀ k, k ≠ b → k < u.heap.size → u'.heap[k]? = u.heap[k]?)
  (hdl : ds.length = c.subs.length) (hd : ∀ (j : Nat) (s : WSub) (d : Value), c.subs[j]? = some s → ds[j]? = some d → WData w d s.data) (ho : u'.ownsRow base e 3 (.slice (some ⟨g, 0, none⟩) n cp) n (((c.subs.map clrS).zip ds).flatMap wSubC)) (hn : n = c.subs.length) (hg : g ≠ b) :
  NL w u' b (clr c) (r.1, .slice (some ⟨g, 0, none⟩) n cp) := by
 intro u2 hb ha;have h1 := (h.on hs hk u2 hb ha).1;have hgl : g < u'.heap.size := (Row.own_block ho rfl).2;have ho2 := Row.owned_keep (w' := u2) ho (fun g' hg' => by cases hg'; exact ha g hg hgl)
 refine ⟨h1, ds, by show ds.length = (c.subs.map clrS).length; rw [List.length_map]; exact hdl, ?_, fun j s d hs' hd' => ?_⟩
 ·show Row.Leads u2 _ (c.subs.map clrS).length _
  rw [List.length_map, ← hn];exact Row.leads_owned ho2
 ·have hs2 : (c.subs.map clrS)[j]? = some s := hs';rw [List.getElem?_map] at hs2;cases hj : c.subs[j]? with
  | none => rw [hj] at hs2; cases hs2
  | some t =>
   rw [hj] at hs2;cases hs2;obtain ⟨a, cap, q0, q1, q2, q3, q4⟩ := hd j t d hj hd';exact ⟨a, cap, q0, q1.below hb, q2, q3, q4⟩
theorem infoCh2 : (Tryz.prog.info? 31).map (fun i => (i.zero, i.size, i.bytes)) = some (some (.agg #[.int .u32 0, .slice none 0 0, .slice none 0 0, .int .u8 0]), 4, 64) := by kernel_rfl
theorem chain_one2 {w : World} {l : List WChain} {rs : List (Value × Value)} (hel : ∀ (i : Nat) (c : WChain) (r : Value × Value), l[i]? = some c → rs[i]? = some r → Row.Leads w r.1 c.rules.length (c.rules.flatMap wRuleC) ∧ WSubs w r.2 c.subs) : ∀ u ∈ (l.zip rs).flatMap wChainC, u.oneCell' = true := by
 intro u hu;obtain ⟨⟨c, r1, r2⟩, hx, hu⟩ := List.mem_flatMap.1 hu;obtain ⟨i, hi⟩ := List.mem_iff_getElem?.1 hx;obtain ⟨h1, h2⟩ := List.getElem?_zip_eq_some.1 hi;obtain ⟨q1, ds, _, q2, _⟩ := hel i c (r1, r2) h1 h2;obtain ⟨a1, c1, e1⟩ := Row.leads_slice q1;obtain ⟨a2, c2, e2⟩ := Row.leads_slice q2;simp only at e1 e2;subst e1 e2;simp [wChainC] at hu;rcases hu with rfl | rfl | rfl | rfl <;> rfl
theorem sub_one2 {w : World} {l : List WSub} {ds : List Value} (hd : ∀ (j : Nat) (s : WSub) (d : Value), l[j]? = some s → ds[j]? = some d → WData w d s.data) : ∀ u ∈ (l.zip ds).flatMap wSubC, u.oneCell' = true := by
 intro u hu;obtain ⟨⟨s, d⟩, hx, hu⟩ := List.mem_flatMap.1 hu;obtain ⟨i, hi⟩ := List.mem_iff_getElem?.1 hx;obtain ⟨h1, h2⟩ := List.getElem?_zip_eq_some.1 hi;obtain ⟨a, cap, rfl, _⟩ := hd i s d h1 h2;simp [wSubC] at hu;rcases hu with rfl | rfl | rfl <;> rfl
theorem flat3_len (l : List (WSub × Value)) : (l.flatMap wSubC).length = l.length * 3 := by
 induction l with
 | nil => rfl
 | cons x m ih => rw [List.flatMap_cons, List.length_append, ih, wSubC_len, List.length_cons]; omega
theorem flat4_len (l : List (WChain × (Value × Value))) : (l.flatMap wChainC).length = l.length * 4 := by
 induction l with
 | nil => rfl
 | cons x m ih => rw [List.flatMap_cons, List.length_append, ih, wChainC_len, List.length_cons]; omega
theorem own_some {w : World} {base size n : Nat} {e : TypeId} {v : Value} {xs : List Value} (h : w.ownsRow base e size v n xs) (hv : v ≠ .slice none 0 0) : ∃ g cp, v = .slice (some ⟨g, 0, none⟩) n cp ∧ base ≤ g := by
 rcases Row.owned_parts h with ⟨h0, _⟩ | ⟨g, cp, h0, h1, _⟩
 ·exact absurd h0 hv
 ·exact ⟨g, cp, h0, h1⟩
theorem win_below0 {w w' : World} {v : Value} {l : List WChain} (hin : WChains0 w v l) (hb : Below w.heap.size w w') : WChains0 w' v l := by
 obtain ⟨rs, h1, h2, h3⟩ := hin;refine ⟨rs, h1, Row.leads_below h2 hb, fun i c r hc hr => ?_⟩
 obtain ⟨h4, ds, h5, h6, h7⟩ := h3 i c r hc hr;refine ⟨Row.leads_below h4 hb, ds, h5, Row.leads_below h6 hb, fun j s d hs hd => ?_⟩
 obtain ⟨a, len, cap, zs, e1, e2, e3⟩ := h7 j s d hs hd;refine ⟨a, len, cap, zs, e1, ?_, e3⟩;rcases e2 with e2 | ⟨x, hx, hl, hm, hz, hc, hw⟩
 ·exact .inl e2
 ·exact .inr ⟨x, hx, hl, hm, hz, fun i hi => (hb.cell (World.block_lt_of_cell? _ _ (hc i hi))).trans (hc i hi), hw⟩
set_option maxRecDepth 100000 in
set_option maxHeartbeats 32000000 in
theorem mirror_core (ad : Option Addr) (L cap : Nat) (l : List WChain) (ida : Option Addr) (idn idc : Nat) (ids : List Int) (w : World) (hcm : L ≤ cap ∧ cap ≤ maxLen) (hin : WChains0 w (.slice ad L cap) l) (hLl : l.length = L) (hrg : ∀ c ∈ l, rgChain c) (hss : ∀ c ∈ l, c.subs.length ≤ 9223372036854775807 ∧ c.rules.length ≤ 9223372036854775807)
  (hid : Row.Leads w (.slice ida idn idc) idn (ids.map (Value.int .i64))) (hidl : ids.length = idn) (hidm : idn ≤ 9223372036854775807) :
  Calls Tryz.prog 4 #[.slice ad L cap, .slice ida idn idc] w fun e w' => e = .returned (.bool true) ∧ Below w.heap.size w w' := by
 have hL63 : L ≤ 9223372036854775807 := by have := hcm.2; unfold maxLen at this; omega
 have HIN := Bas.hid hin;have HRG := Bas.hid hrg;have HSS := Bas.hid hss;have HID := Bas.hid hid;have HIDL := Bas.hid hidl;have HLL := Bas.hid hLl;have hnilC : ∀ u, WChains u (.slice none 0 0) [] := fun u => ⟨[], rfl, .inl ⟨rfl, rfl, rfl⟩, fun i c r h => by simp at h⟩
 clear hin hrg hss hid hidl hLl;go_enter Tryz.func4, Tryz.ntmps4
 go_wp2_with (fail);refine (chains_any (.slice none 0 0) [] w (by simp) (fun c h => by cases h) (hnilC w)).mono ?_
 rintro e w1 ⟨hb1, h1⟩;change ∃ g, e = .returned (.pointer (some ⟨g, 0, none⟩)) ∧ Lives w.heap.size (fun u => MorxAt u (.pointer (some ⟨g, 0, none⟩)) []) w1 at h1
 obtain ⟨g0, rfl, -⟩ := h1;have HB1 := Bas.hid hb1;clear hb1 hnilC;go_wp2_with (fail);refine (tbig_any (.slice ad L cap) l ida idn idc w1 (win_below0 HIN.out HB1.out) (by rw [HLL.out]; exact hL63) HSS.out).mono ?_
 rintro e w2 ⟨b, rfl, hb2, hbig⟩;have HB2 := Bas.hid (HB1.out.trans (hb2.mono HB1.out.size));clear hb2;cases b with
 | true =>
  go_wp2_with (fail);go_ret;exact ⟨rfl, HB2.out⟩
 | false =>
  obtain ⟨⟨hl4, hsz⟩, hid30⟩ := hbig rfl;have hL4 : L ≤ 4 := by rw [← HLL.out]; exact hl4
  clear hbig;have hokc : ∀ x ∈ l, okChain x := fun x hx => ok_top x (HRG.out x hx) (hsz x hx)
  have HOC := Bas.hid hokc;have hl10 : l.length ≤ 10 := by omega
  obtain ⟨rs, hrl, hlead, hel⟩ := chains0_up HIN.out hsz;have hone := chain_one2 hel;have hzl : (l.zip rs).length = L := by rw [List.length_zip, hrl, Nat.min_self]; exact HLL.out
  have HRL := Bas.hid hrl;have HLD := Bas.hid hlead;have HEL := Bas.hid hel;have HZL := Bas.hid hzl;have HONE := Bas.hid hone;clear hrl hlead hel hzl hone hsz hl4 hokc;go_wp2_with (at_builtin; refine Row.fence ?_);refine Row.unfence ?_;have k6 := Bas.heap_new w2 (.cells #[] 31);have hb6 := (Below.refl w2.heap.size w2).alloc (Nat.le_refl _) (.cells #[] 31);generalize w2.alloc (.cells #[] 31) = W6 at *;have HB6 := HB2.out.trans (hb6.mono HB2.out.size);have ho6 := Pk.own_empty (base := w2.heap.size) (e := 31) (size := 4) k6 (Nat.le_refl _);refine Row.append_any rfl _ _ 22 31 rfl (.agg #[.int .u32 0, .slice none 0 0, .slice none 0 0, .int .u8 0]) 4 64 Tryz.underlying22 infoCh2 rfl (by decide) w2.heap.size (.slice (some ⟨w2.heap.size, 0, none⟩) 0 0) 0 [] rfl ho6 (.slice ad L cap) L ((l.zip rs).flatMap wChainC) rfl (by have h := Row.leads_below HLD.out HB6; rw [HLL.out] at h; exact h) (by rw [flat4_len, HZL.out]) HONE.out (by unfold maxLen; omega) (by omega) hb6.size ?_
  intro v7 w7 ho7 hg7 hv7;rw [List.nil_append, Nat.zero_add] at ho7;obtain ⟨b5, c5, rfl, hb5⟩ := own_some ho7 (fun e => by cases hv7 e)
  have hb27 := hb6.grown hg7 hb6.size (fun g' hg' => by cases hg'; exact Nat.le_refl _)
  have HB7 := Bas.hid (HB2.out.trans (hb27.mono HB2.out.size));have hwb5 : w.heap.size ≤ b5 := Nat.le_trans HB2.out.size hb5;have HO7 := Bas.hid (Row.owned_base ho7 HB2.out.size);have HNL7 : Hid (∀ (j : Nat) (c : WChain) (r : Value × Value), l[j]? = some c → rs[j]? = some r → NL w w7 b5 c r) := fun j c r hc hr u' hb _ => elem_below HEL.out hb j c r hc hr
  clear ho7 hg7 hv7 hb27 ho6 hb6 k6 hb5;go_wp2_with (fail);go_loopw [28] (fun vi wr => ∃ (i : Nat) (m : List WChain) (rs' : List (Value × Value)), i ≤ L ∧ vi = .int .i64 i ∧ upTo clr l m i ∧ rs'.length = L ∧ wr.ownsRow w.heap.size 31 4 (.slice (some ⟨b5, 0, none⟩) L c5) L ((m.zip rs').flatMap wChainC) ∧
   (∀ (j : Nat) (c : WChain) (r : Value × Value), m[j]? = some c → rs'[j]? = some r → NL w wr b5 c r) ∧ Below w.heap.size w wr) (fun vi _ => L - (intOf vi).toNat)
  case atStart => exact ⟨0, l, rs, Nat.zero_le _, rfl, upTo.zero _ _, HRL.out.trans HLL.out, HO7.out, HNL7.out, HB7.out⟩
  case round =>
   rename World => wo
   obtain ⟨i, m, rs', hi, rfl, hup, hrl', ho, hnl, hb⟩ := hrel;have HUP := Bas.hid hup;have HO := Bas.hid ho;have HNL := Bas.hid hnl;have HB := Bas.hid hb;have HRL' := Bas.hid hrl';clear hup ho hnl hb hrl' HO7 HNL7 HB7;by_cases hiL : i < L
   ·have e1 : decide ((i : Int) < (L : Int)) = true := by simp; omega
    have e2 : decide (i < L) = true := by simp; omega
    obtain ⟨c, hc⟩ : ∃ c, l[i]? = some c := ⟨_, List.getElem?_eq_getElem (by rw [HLL.out]; exact hiL)⟩
    obtain ⟨r, hr⟩ : ∃ r, rs[i]? = some r := ⟨_, List.getElem?_eq_getElem (by rw [HRL.out, HLL.out]; exact hiL)⟩
    obtain ⟨r', hr'⟩ : ∃ r, rs'[i]? = some r := ⟨_, List.getElem?_eq_getElem (by rw [HRL'.out]; exact hiL)⟩
    have hmc : m[i]? = some c := by rw [HUP.out.2 i c hc, if_neg (by omega)]
    obtain ⟨hru, ds, hdl, hsl, hsd⟩ := HEL.out i c r hc hr;obtain ⟨B0, O0, cp0, hv0, hcl⟩ := Row.leads_elem (x := (c, r)) wChainC_len HLD.out (List.getElem?_zip_eq_some.2 ⟨hc, hr⟩) (by omega)
    obtain ⟨vr, vs⟩ := r;obtain ⟨as', cs', hvs⟩ := Row.leads_slice hsl;simp only at hvs;subst hvs;have hA : ad = some ⟨B0, O0, none⟩ := by cases hv0; rfl
    subst hA;have q2 := (HB.out.cell (p := ⟨B0, O0 + i * 4 + 2, none⟩) (World.block_lt_of_cell? _ _ (hcl 2 _ rfl))).trans (hcl 2 _ rfl);obtain ⟨n, hn⟩ : ∃ n, n = c.subs.length := ⟨_, rfl⟩;have hn10 : n ≤ 10 := by rw [hn]; exact (HOC.out c (List.mem_of_getElem? hc)).2.2.2.2.2
    simp only [← hn] at q2;have lb0 := World.block_lt_of_cell? _ _ q2;have hsl' := Row.leads_below hsl HB.out;simp only [← hn] at hsl';obtain ⟨bX, oX, cpX, heX, hclm⟩ := Row.leads_elem (x := (c, r')) wChainC_len (Row.leads_owned HO.out) (List.getElem?_zip_eq_some.2 ⟨hmc, hr'⟩) (by omega)
    cases heX;have d2 := hclm 2 _ rfl;simp only [Nat.zero_add] at d2;have HSL := Bas.hid hsl';have HSD := Bas.hid hsd;have HDL := Bas.hid hdl;have HN := Bas.hid hn;have HMC := Bas.hid hmc;have HR' := Bas.hid hr';have HC := Bas.hid hc;have HD2 := Bas.hid d2;clear hru hdl hsl hsd hsl' hcl hclm hn hmc hr' hc hr hv0;go_wp2_with (at_builtin; refine Row.fence ?_);refine Row.unfence ?_;have k9 := Bas.heap_new wo (.cells #[] 44);have hb9 := (Below.refl wo.heap.size wo).alloc (Nat.le_refl _) (.cells #[] 44);generalize wo.alloc (.cells #[] 44) = W9 at *;have ho9 := Pk.own_empty (base := wo.heap.size) (e := 44) (size := 3) k9 (Nat.le_refl _);have hcl9 : ((c.subs.zip ds).flatMap wSubC).length = n * 3 := by rw [flat3_len, List.length_zip, HDL.out, Nat.min_self, HN.out]
    refine Row.append_any rfl _ _ 29 44 rfl (.agg #[.int .u32 0, .int .u32 0, .slice none 0 0]) 3 32 Tryz.underlying29 infoWS rfl (by decide) wo.heap.size (.slice (some ⟨wo.heap.size, 0, none⟩) 0 0) 0 [] rfl ho9 (.slice as' n cs') n ((c.subs.zip ds).flatMap wSubC) rfl (Row.leads_below HSL.out hb9) hcl9 (sub_one2 HSD.out) (by unfold maxLen; omega) (by omega) hb9.size ?_
    intro v10 w10 ho10 hg10 hv10;rw [List.nil_append, Nat.zero_add] at ho10;obtain ⟨g9, c9, rfl, hg9⟩ := own_some ho10 (fun e => by cases hv10 e)
    have hb10 := hb9.grown hg10 hb9.size (fun g' hg' => by cases hg'; exact Nat.le_refl _)
    have hlb5 : b5 < wo.heap.size := (Row.own_block HO.out rfl).2;have d2 := (hb10.cell (p := ⟨b5, i * 4 + 2, none⟩) hlb5).trans HD2.out;have hob5 := Row.owned_below HO.out hb10;have f2 : w10.frozen? ⟨b5, i * 4 + 2, none⟩ = false := by
     rcases Row.owned_parts hob5 with ⟨h0, _⟩ | ⟨g0, cp0, h0, _, _, _, _, _, h1⟩
     ·cases h0
     ·cases h0; exact h1 _
    have lb5 := World.block_lt_of_cell? _ _ d2;have HB10 := Bas.hid hb10;have HO10 := Bas.hid ho10;have HOB := Bas.hid hob5;have HG9 := Bas.hid hg9;have hne : g9 ≠ b5 := by omega
    clear ho10 hg10 hv10 hb10 hob5 hg9 ho9 hb9 k9 hcl9 q2 lb0;go_wp2_with (fail);have c2 : (w10.setCell ⟨b5, i * 4 + 2, none⟩ (.slice (some ⟨g9, 0, none⟩) n c9)).cell? ⟨b5, i * 4 + 2, none⟩ = some (.slice (some ⟨g9, 0, none⟩) n c9) := World.cell?_setCell_same _ _ _ d2;have hob := own_putN HOB.out (i * 4 + 2) (.slice (some ⟨g9, 0, none⟩) n c9);rw [chainRow_set HMC.out HR'.out] at hob;have ho9 := Row.owned_keep (w' := w10.setCell ⟨b5, i * 4 + 2, none⟩ (.slice (some ⟨g9, 0, none⟩) n c9)) HO10.out (fun g' hg' => Below.heap_setCell _ _ _ _ (by cases hg'; exact hne))
    have hkW : ∀ j, j ≠ b5 → j < wo.heap.size → (w10.setCell ⟨b5, i * 4 + 2, none⟩ (.slice (some ⟨g9, 0, none⟩) n c9)).heap[j]? = wo.heap[j]? := fun j h1 h2 => (Below.heap_setCell _ _ _ _ h1).trans (HB10.out.block j h2)
    have hsW : wo.heap.size ≤ (w10.setCell ⟨b5, i * 4 + 2, none⟩ (.slice (some ⟨g9, 0, none⟩) n c9)).heap.size := by have := HB10.out.size; simpa [World.setCell] using this
    have hbW : Below w.heap.size w (w10.setCell ⟨b5, i * 4 + 2, none⟩ (.slice (some ⟨g9, 0, none⟩) n c9)) := (HB.out.trans (HB10.out.mono HB.out.size)).setCell hwb5 _;generalize w10.setCell ⟨b5, i * 4 + 2, none⟩ (.slice (some ⟨g9, 0, none⟩) n c9) = W10 at *;have HC2 := Bas.hid c2;have HOB2 := Bas.hid hob;have HO9 := Bas.hid ho9;have HKW := Bas.hid hkW;have HSW := Bas.hid hsW;have HBW := Bas.hid hbW;clear c2 hob ho9 hkW hsW hbW d2 f2 lb5 HOB HO10 HD2;go_loopw [48] (fun vk wk => ∃ (k : Nat) (ms : List WSub), k ≤ n ∧ vk = .int .i64 k ∧ upTo clrS c.subs ms k ∧ wk.ownsRow wo.heap.size 44 3 (.slice (some ⟨g9, 0, none⟩) n c9) n ((ms.zip ds).flatMap wSubC) ∧ Below wo.heap.size W10 wk) (fun vk _ => n - (intOf vk).toNat)
    case atStart => exact ⟨0, c.subs, Nat.zero_le _, rfl, upTo.zero _ _, HO9.out, (Below.refl _ _)⟩
    case round =>
     obtain ⟨k, ms, hk, rfl, hus, hok, hbk⟩ := hrel;have HUS := Bas.hid hus;have HOK := Bas.hid hok;have HBK := Bas.hid hbk;have m2 := (hbk.cell (p := ⟨b5, i * 4 + 2, none⟩) hlb5).trans HC2.out;have lm2 := World.block_lt_of_cell? _ _ m2;clear hus hok hbk HO9;by_cases hkn : k < n
     ·have e3 : decide ((k : Int) < (n : Int)) = true := by simp; omega
      have e4 : decide (k < n) = true := by simp; omega
      obtain ⟨s, hs⟩ : ∃ s, c.subs[k]? = some s := ⟨_, List.getElem?_eq_getElem (by rw [← HN.out]; exact hkn)⟩
      obtain ⟨d, hd⟩ : ∃ d, ds[k]? = some d := ⟨_, List.getElem?_eq_getElem (by rw [HDL.out, ← HN.out]; exact hkn)⟩
      have hms : ms[k]? = some s := by rw [HUS.out.2 k s hs, if_neg (by omega)]
      obtain ⟨bY, oY, cpY, heY, hcls⟩ := Row.leads_elem (x := (s, d)) wSubC_len (Row.leads_owned HOK.out) (List.getElem?_zip_eq_some.2 ⟨hms, hd⟩) (by omega)
      cases heY;have s0 := hcls 0 _ rfl;simp only [Nat.zero_add, Nat.add_zero] at s0;have ls0 := World.block_lt_of_cell? _ _ s0;have hge := (Row.own_block HOK.out rfl).1;have fs : wr.frozen? ⟨g9, k * 3, none⟩ = false := by
       rcases Row.owned_parts HOK.out with ⟨h0, _⟩ | ⟨g0, cp0, h0, _, _, _, _, _, h1⟩
       ·cases h0
       ·cases h0; exact h1 _
      have HS := Bas.hid hs;have HMS := Bas.hid hms;have HDD := Bas.hid hd;clear hcls hs hms hd;go_wp2_with (fail);go_roundw
      case rel =>
       refine ⟨k + 1, ms.set k (clrS s), by omega, by go_num, HUS.out.succ HS.out, ?_, HBK.out.setCell (p := ⟨g9, k * 3, none⟩) hge _⟩
       have := own_putN HOK.out (k * 3) (.int .u32 (bits .andNot .u32 s.cover 268435456))
       rwa [subRow_set HMS.out HDD.out] at this
      case measure => simp [intOf]; omega
     ·have hkn' : k = n := by omega
      subst hkn';have e3 : decide ((k : Int) < (k : Int)) = false := by simp
      have hms : ms = c.subs.map clrS := (show upTo clrS c.subs ms c.subs.length by rw [← HN.out]; exact HUS.out).all
      subst hms;go_wp2_with (fail);go_roundw
      case rel =>
       have hagr : ∀ j, j ≠ b5 → j < wo.heap.size → wr.heap[j]? = wo.heap[j]? := fun j h1 h2 => (HBK.out.block j h2).trans (HKW.out j h1 h2)
       have hsz : wo.heap.size ≤ wr.heap.size := Nat.le_trans HSW.out HBK.out.size;refine ⟨i + 1, m.set i (clr c), rs'.set i (r'.1, .slice (some ⟨g9, 0, none⟩) k c9), by omega, by go_num, HUP.out.succ HC.out, by rw [List.length_set]; exact HRL'.out, Row.owned_keep HOB2.out (fun g' hg' => by cases hg'; exact HBK.out.block b5 hlb5), ?_, HBW.out.trans (HBK.out.mono HB.out.size)⟩
       intro j x q hx hq;by_cases hji : i = j
       ·subst hji;rw [List.getElem?_set_self (List.getElem?_eq_some_iff.1 HMC.out).1] at hx;rw [List.getElem?_set_self (List.getElem?_eq_some_iff.1 HR'.out).1] at hq;cases hx; cases hq;exact (HNL.out i c r' HMC.out HR'.out).put hsz hagr HDL.out HSD.out HOK.out HN.out hne
       ·rw [List.getElem?_set_ne hji] at hx hq;exact (HNL.out j x q hx hq).on hsz hagr
      case measure => simp [intOf]; omega
   ·have hiL' : i = L := by omega
    subst hiL';have e1 : decide ((i : Int) < (i : Int)) = false := by simp
    have hm : m = l.map clr := (show upTo clr l m l.length by rw [HLL.out]; exact HUP.out).all
    subst hm;have HMW := Bas.hid (show WChains wo (.slice (some ⟨b5, 0, none⟩) i c5) (l.map clr) from ⟨rs', by rw [List.length_map, HRL'.out, HLL.out], by rw [List.length_map, HLL.out]; exact Row.leads_owned HO.out, fun j c r hc hr => HNL.out j c r hc hr wo HB.out (fun _ _ _ => rfl)⟩)
    have HOM : Hid (∀ x ∈ l.map clr, okChain x) := fun x hx => by
     obtain ⟨y, hy, rfl⟩ := List.mem_map.1 hx;exact clr_ok (HOC.out y hy)
    have HML : Hid ((l.map clr).length ≤ 10) := by unfold Hid; rw [List.length_map]; exact hl10
    go_wp2_with (fail);refine (chains_t _ _ wo HML.out HOM.out HMW.out).mono ?_;rintro e w8 ⟨hb8, tp, rfl, htp⟩;have HB8 := Bas.hid (HB.out.trans (hb8.mono HB.out.size));have hta := htp.now;unfold TAt at hta;clear hb8 htp HMW HB HNL HO HUP HEL HLD HRL HZL HONE;cases hT : mapOpt (pC 40) (l.map clr) with
    | none =>
     rw [hT] at hta;simp only at hta;subst hta;clear hT;go_wp2_with (fail);go_ret;exact ⟨rfl, HB8.out⟩
    | some T =>
     rw [hT] at hta;simp only at hta;obtain ⟨⟨gt, rfl⟩, hta⟩ := hta;obtain ⟨hT1, hT2, hT3, hT4⟩ := few_top _ T HML.out HOM.out hT;have HCC := Bas.hid (clr_cover HOC.out hT);have HAT := Bas.hid hta;have HFT := Bas.hid (And.intro hT2 hT3);have HOT := Bas.hid hT4;clear hta hT2 hT3 hT4 hT HOM HML HOC;go_wp2_with (fail);have hn0 := World.ownsRow_nil w8 w8.heap.size 3 1;have HN0 := Bas.hid hn0;clear hn0;go_loopw [9, 71] (fun vb vj wr => ∃ j : Nat, j ≤ idn ∧ vj = .int .i64 j ∧ wr.ownsRow w8.heap.size 3 1 vb j ((ids.reverse.take j).map (Value.int .i64)) ∧ Below w8.heap.size w8 wr) (fun _ vj _ => idn - (intOf vj).toNat)
     case atStart => exact ⟨0, Nat.zero_le _, rfl, HN0.out, Below.refl _ _⟩
     case round =>
      obtain ⟨j, hj, rfl, ho, hb⟩ := hrel;obtain ⟨ab, cb, rfl⟩ := own_slice ho;have HO := Bas.hid ho;have HBJ := Bas.hid hb;clear ho hb HN0;by_cases hjn : j < idn
      ·have e1 : decide ((j : Int) < (idn : Int)) = true := by simp; omega
       have e2 : decide (j < idn) = true := by simp; omega
       obtain ⟨x, hx⟩ : ∃ x, ids[idn - 1 - j]? = some x := ⟨_, List.getElem?_eq_getElem (by rw [HIDL.out]; omega)⟩
       obtain ⟨bi, oi, ci, hv, hci⟩ := St.leads_at (Row.leads_below HID.out (HB8.out.trans (HBJ.out.mono HB8.out.size))) (i := idn - 1 - j) (u := .int .i64 x) (by rw [List.getElem?_map, hx]; rfl)
       cases hv;have lci := World.block_lt_of_cell? _ _ hci;have ei : (idn : Int) - 1 - (j : Int) = ((idn - 1 - j : Nat) : Int) := by omega
       have HX := Bas.hid hx;clear hx;go_wp2_with (at_builtin; refine Row.fence ?_);refine Row.unfence ?_;have kx := Bas.heap_new wr (.cells #[.int .i64 x] 3);have hbx := (HBJ.out.alloc HBJ.out.size (.cells #[.int .i64 x] 3));have hox := HO.out.alloc (.cells #[.int .i64 x] 3);have hjc := own_cap HO.out;generalize wr.alloc (.cells #[.int .i64 x] 3) = WX at *;refine Row.append_any rfl _ _ 23 3 rfl (.int .i64 0) 1 8 Tryz.underlying23 infoIn8 rfl (by decide) w8.heap.size (.slice ab j cb) j _ rfl hox (.slice (some ⟨wr.heap.size, 0, none⟩) 1 1) 1 [.int .i64 x] rfl (leads_heap kx) rfl (by simp; rfl) (by unfold maxLen; omega) (by omega) hbx.size ?_
       intro v' w' ho' hg' _;have HO' := Bas.hid ho';have HB' := Bas.hid (hbx.grown hg' hbx.size (fun g' hg' => (Row.own_block hox hg').1))
       clear ho' hg' hox hbx kx hci lci ei;go_wp2_with (fail);go_roundw
       case rel =>
        refine ⟨j + 1, by omega, by go_num, ?_, HB'.out⟩
        rw [List.take_add_one, List.map_append, List.getElem?_reverse (by rw [HIDL.out]; exact hjn), HIDL.out, HX.out]
        exact HO'.out
       case measure => simp [intOf]; omega
      ·have hjn' : j = idn := by omega
       have e1 : decide ((j : Int) < (idn : Int)) = false := by simp; omega
       have HBK : Hid (ids.reverse.length = idn) := by unfold Hid; rw [List.length_reverse]; exact HIDL.out
       have hlb : Row.Leads wr (.slice ab j cb) j (ids.reverse.map (Value.int .i64)) := by
        have := Row.leads_owned HO.out
        rwa [List.take_of_length_le (by rw [HBK.out]; omega)] at this
       have HLB := Bas.hid hlb;subst hjn';have HB13 := Bas.hid (HB8.out.trans (HBJ.out.mono HB8.out.size));have HA13 := Bas.hid (HAT.out.below HBJ.out);clear hlb HO HBJ HAT HB8
       rename World => w13
       obtain ⟨RX, hRX⟩ : ∃ r, chainsRun fAll 1 (T.zip (flagsOf T [])) 0 (lnNew ids) 200 = r := ⟨_, rfl⟩;obtain ⟨RY, hRY⟩ : ∃ r, chainsRun fAll 0 (T.zip (flagsOf T [])) 0 (lnNew ids.reverse) 200 = r := ⟨_, rfl⟩;have hmir := chains_mirror (T.zip (flagsOf T [])) 0 (lnNew ids) (lnNew ids.reverse) 200 (fun c hc s hs => HCC.out c.1 (List.of_mem_zip (a := c.1) (b := c.2) hc).1 s hs) (lnNew_mirror ids)
       rw [hRX, hRY] at hmir;have HMI := Bas.hid hmir.1;have HMF := Bas.hid hmir.2;clear hmir;go_wp2_with (fail);refine (new_any _ ids j w13 (Row.leads_below HID.out HB13.out) HIDL.out (by omega)).mono ?_
       rintro e w8' ⟨rfl, hb8, sv1, hL1⟩;obtain ⟨G1, hG1⟩ : ∃ G, w13.heap.size = G := ⟨_, rfl⟩;have HG1 := Bas.hid hG1;have HB78 := Bas.hid hb8;have HB8' := Bas.hid (HB13.out.trans (hb8.mono HB13.out.size));have HL1 := Bas.hid hL1;rw [hG1] at HL1 ⊢;clear hb8 hL1 hG1;go_wp2_with (fail);refine (new_any _ ids.reverse j w8' (Row.leads_below HLB.out HB78.out) HBK.out (by omega)).mono ?_
       rintro e w9 ⟨rfl, hb9, sv2, hL2⟩;obtain ⟨G2, hG2⟩ : ∃ G, w8'.heap.size = G := ⟨_, rfl⟩;have HG2 := Bas.hid hG2;have HB79 := Bas.hid (HB78.out.trans (hb9.mono HB78.out.size));have HB9 := Bas.hid (HB8'.out.trans (hb9.mono HB8'.out.size));have HL19 := Bas.hid (HL1.out.below hb9);have HL2 := Bas.hid hL2;rw [hG2] at HL2 ⊢;clear hb9 hL2 hG2;go_wp2_with (fail);have hnil : ∀ u : World, Row.Leads u (.slice none 0 0) ([] : List (Int × Int)).length (([] : List (Int × Int)).flatMap Pk.setC) := fun u => .inl ⟨rfl, rfl, rfl⟩
       have hln : (lnNew ids).length = j := by unfold lnNew; rw [lnPre_len]; exact HIDL.out
       have hln2 : (lnNew ids.reverse).length = j := by unfold lnNew; rw [lnPre_len]; exact HBK.out
       have hpre : preL (lnNew ids) 200 := ⟨by omega, by rw [hln]; omega⟩
       have hpre2 : preL (lnNew ids.reverse) 200 := ⟨by omega, by rw [hln2]; omega⟩
       have hG12 : w13.heap.size ≤ G1 := Nat.le_of_eq HG1.out;have hG22 : G1 < G2 := by rw [← HG2.out]; exact HL1.out.lt
       have hG29 : G2 < w9.heap.size := HL2.out.lt;have HRL : Hid (RY.1.length ≤ 1000000) := by unfold Hid; rw [← hRY]; exact chainsRun_len 0 _ 0 _ 200 hpre2
       obtain ⟨f0, f1, f2, hfv⟩ : ∃ x y z, faultV RY.2 = .agg #[.int .i64 x, .int .i64 y, .int .i64 z] := by
        cases RY.2 with
        | none => exact ⟨0, 0, 0, rfl⟩
        | some q => obtain ⟨x, y, z⟩ := q; exact ⟨x, y, z, rfl⟩
       have hrun1 := mrun_any fAll preL preL_len _ _ T [] 1 200 G1 G1 sv1 (lnNew ids) w13 w9 HA13.out HFT.out.1 hT1 HFT.out.2 (hnil w9) List.Pairwise.nil (by decide) HB79.out hG12 HL19.out hpre (HOT.out 1 _)
       rw [hRX, HMF.out, hfv] at hrun1;have HR1 := Bas.hid hrun1;clear hrun1;refine HR1.out.mono ?_;rintro e w10 ⟨rfl, hto1⟩;obtain ⟨svx, hLx, hmx, hox⟩ := id hto1;have hbl1 := HL19.out.blk_low;have hsv1 : ∀ k, blk G1 sv1 k → k < w8'.heap.size := fun k hk => (HL1.out.blk_low k hk).2
       have hg2w : w8'.heap.size = G2 := HG2.out;have hL210 : LineAt w10 G2 G2 sv2 (lnNew ids.reverse) := HL2.out.mod hmx (fun k hk hb => by
        have h1 := (HL2.out.blk_low k hk).1;have h2 := hsv1 k hb;omega)
       have HB710 := Bas.hid (hmx.below HB79.out (fun k hk => Nat.le_trans hG12 (hbl1 k hk).1) HB79.out.size)
       have hrun2 := mrun_any fAll preL preL_len _ _ T [] 0 200 G2 G2 sv2 (lnNew ids.reverse) w13 w10 HA13.out HFT.out.1 hT1 HFT.out.2 (hnil w10) List.Pairwise.nil (by decide) HB710.out (by omega) hL210 hpre2 (HOT.out 0 _)
       rw [hRY, hfv] at hrun2;have HR2 := Bas.hid hrun2;have hdis : ∀ k, blk G1 svx k → ¬ blk G2 sv2 k := fun k hk hb => by
        have h1 := hL210.blk_low k hb;have hs9 := hmx.size;rcases hk with rfl | hk
        ·rcases hb with h | h
         ·omega
         ·have := (HL2.out.blk_low _ (.inr h)).1; omega
        ·rcases hox k hk with h | h
         ·have := hsv1 k (.inr h); omega
         ·have h2 := (HL2.out.blk_low k hb).2; omega
       have HDIS := Bas.hid hdis;have HLx := Bas.hid hLx;have HL210 := Bas.hid hL210;have HB10 := Bas.hid (HB13.out.trans (HB710.out.mono HB13.out.size));clear hto1 hLx hmx hox hbl1 hsv1 hL210 hrun2 hfv HR1 hnil hdis hRX hRY HMF;go_wp2_with (fail);refine HR2.out.mono ?_;rintro e w11 ⟨rfl, hto2⟩;obtain ⟨svy, hLy, hmy, hoy⟩ := id hto2;have HLX := Bas.hid (HLx.out.mod hmy HDIS.out);have HLY := Bas.hid hLy;have HB11 := Bas.hid (hmy.below HB10.out (fun k hk => Nat.le_trans (Nat.le_trans HB13.out.size (by omega)) (HL210.out.blk_low k hk).1) HB10.out.size)
       have HDY : Hid (∀ k, blk G1 svx k → ¬ blk G2 svy k) := fun k hk hb => by
        have h1 := (HLx.out.blk_low k hk).2;rcases hb with h | h
        ·exact HDIS.out k hk (.inl h)
        ·rcases hoy k h with h2 | h2
         ·exact HDIS.out k hk (.inr h2)
         ·omega
       clear hto2 hLy hmy hoy HR2;have hrl := HRL.out;go_wp2_with (fail);have kF := Below.heap_alloc (w11.alloc (.cells #[.int .i64 f0, .int .i64 f1, .int .i64 f2] 36)) (.cells #[.int .i64 f0, .int .i64 f1, .int .i64 f2] 36) w11.heap.size (by simp)
       have kF1 := kF.trans (Bas.heap_new w11 (.cells #[.int .i64 f0, .int .i64 f1, .int .i64 f2] 36));have kF2 := Bas.heap_new (w11.alloc (.cells #[.int .i64 f0, .int .i64 f1, .int .i64 f2] 36)) (.cells #[.int .i64 f0, .int .i64 f1, .int .i64 f2] 36);rw [World.size_alloc] at kF2;have hba : Below w11.heap.size w11 ((w11.alloc (.cells #[.int .i64 f0, .int .i64 f1, .int .i64 f2] 36)).alloc (.cells #[.int .i64 f0, .int .i64 f1, .int .i64 f2] 36)) := ((Below.refl _ _).alloc (Nat.le_refl _) _).alloc (by simp) _
       generalize (w11.alloc (.cells #[.int .i64 f0, .int .i64 f1, .int .i64 f2] 36)).alloc (.cells #[.int .i64 f0, .int .i64 f1, .int .i64 f2] 36) = WA at *;have HLXA := Bas.hid (HLX.out.below hba);have HTU := Bas.hid (turn_any G2 G2 svy RY.1 WA (HLY.out.below hba) (by omega))
       have HBA := Bas.hid (HB11.out.trans (hba.mono HB11.out.size));have HKF1 := Bas.hid kF1;have HKF2 := Bas.hid kF2;clear kF kF1 kF2 hba;refine HTU.out.mono ?_;rintro e w12 ⟨rfl, hto3⟩;obtain ⟨svz, hLz, hmz, -⟩ := id hto3;have hfar : ∀ k, w11.heap.size ≤ k → ¬ blk G2 svy k := fun k hk hb => by have := (HLY.out.blk_low k hb).2; omega
       have k1 := hmz.heap HKF1.out (hfar _ (Nat.le_refl _));have k2 := hmz.heap HKF2.out (hfar _ (by omega))
       have HLXT := Bas.hid (HLXA.out.mod hmz HDY.out);have HLZ := Bas.hid hLz;have HB12 := Bas.hid (hmz.below HBA.out (fun k hk => Nat.le_trans (Nat.le_trans HB13.out.size (by omega)) (HLY.out.blk_low k hk).1) HBA.out.size)
       have p0 := cell_of_heap (i := 0) (v := .int .i64 f0) k1 rfl;have p1 := cell_of_heap (i := 1) (v := .int .i64 f1) k1 rfl;have p2 := cell_of_heap (i := 2) (v := .int .i64 f2) k1 rfl;have q0 := cell_of_heap (i := 0) (v := .int .i64 f0) k2 rfl;have q1 := cell_of_heap (i := 1) (v := .int .i64 f1) k2 rfl;have q2 := cell_of_heap (i := 2) (v := .int .i64 f2) k2 rfl;have HNX := Bas.hid HMI.out.len;have hLen1 := Ln.len_any _ _ _ _ _ HLXT.out;have hLen2 := Ln.len_any _ _ _ _ _ HLZ.out;rw [← HNX.out] at hLen2;have HLN1 := Bas.hid hLen1;have HLN2 := Bas.hid hLen2;obtain ⟨nx, hnx⟩ : ∃ nx, RX.1.length = nx := ⟨_, rfl⟩;have hnxl : nx ≤ 1000000 := by have := HNX.out; rw [List.length_reverse] at this; omega
       rw [hnx] at HLN1 HLN2;have HXN := Bas.hid hnx;clear hto3 hLz hmz hfar k1 k2 hLen1 hLen2 hnx;go_wp2_with (fail);refine HLN1.out.mono ?_;rintro e _ ⟨rfl, rfl⟩;go_wp2_with (fail);refine HLN2.out.mono ?_;rintro e _ ⟨rfl, rfl⟩;clear HLN1 HLN2;go_wp2_with (fail);refine (glyphs_any G1 G1 svx RX.1 w12 HLXT.out (by rw [HXN.out]; omega)).mono ?_
       rintro e w14 ⟨hb14, v14, rfl, ho14⟩;have HB14 := Bas.hid (HB12.out.trans (hb14.mono HB12.out.size));rw [HXN.out] at ho14;have HO14 := Bas.hid (Row.leads_owned ho14);have HLZ4 := Bas.hid (HLZ.out.below hb14);obtain ⟨a14, c14, rfl⟩ := own_slice ho14;clear hb14 ho14 p0 p1 p2 q0 q1 q2;go_wp2_with (fail);refine (glyphs_any G2 G2 svz RY.1.reverse w14 HLZ4.out (by rw [List.length_reverse]; omega)).mono ?_
       rintro e w15 ⟨hb15, v15, rfl, ho15⟩;have HB15 := Bas.hid (HB14.out.trans (hb15.mono HB14.out.size));rw [← HNX.out, HXN.out] at ho15;have HO15 := Bas.hid (Row.leads_owned ho15);have HO145 := Bas.hid (Row.leads_below HO14.out hb15);obtain ⟨a15, c15, rfl⟩ := own_slice ho15;clear hb15 ho15;go_wp2_with (fail);have HBW := Bas.hid (Below.refl w15.heap.size w15);go_loopw [114] (fun vi wr => ∃ q : Nat, q ≤ nx ∧ vi = .int .i64 q ∧ Below w15.heap.size w15 wr) (fun vi _ => nx - (intOf vi).toNat)
       case atStart => exact ⟨0, Nat.zero_le _, rfl, HBW.out⟩
       case round =>
        obtain ⟨q, hq, rfl, hb⟩ := hrel;have HBQ := Bas.hid hb;clear HBW;by_cases hqn : q < nx
        ·have e3 : decide ((q : Int) < (nx : Int)) = true := by simp; omega
         have e4 : decide (q < nx) = true := by simp; omega
         obtain ⟨x, hx⟩ : ∃ x, RX.1[q]? = some x := ⟨_, List.getElem?_eq_getElem (by rw [HXN.out]; exact hqn)⟩
         obtain ⟨y, hy⟩ : ∃ y, RY.1.reverse[q]? = some y := ⟨_, List.getElem?_eq_getElem (by rw [← HNX.out, HXN.out]; exact hqn)⟩
         have hxy : x.1 = y.1 := by
          have h1 : (RX.1.map (fun g => g.1))[q]? = some x.1 := by rw [List.getElem?_map, hx]; rfl
          rw [HMI.out, List.getElem?_map, hy] at h1;exact (Option.some.inj h1).symm
         obtain ⟨b14, o14, cp14, hv14, hc14⟩ := Row.leads_elem glC_len HO145.out hx (by omega)
         cases hv14;obtain ⟨b15, o15, cp15, hv15, hc15⟩ := Row.leads_elem glC_len HO15.out hy (by omega)
         cases hv15;obtain ⟨x0, x1⟩ := x;obtain ⟨y0, y1⟩ := y;simp only at hxy;subst hxy;have d0 := (hb.cell (World.block_lt_of_cell? _ _ (hc14 0 _ rfl))).trans (hc14 0 _ rfl);have d1 := (hb.cell (World.block_lt_of_cell? _ _ (hc15 0 _ rfl))).trans (hc15 0 _ rfl);simp only [Nat.add_zero] at d0 d1;have l0 := World.block_lt_of_cell? _ _ d0;have l1 := World.block_lt_of_cell? _ _ d1;clear hc14 hc15 hx hy hb;go_wp2_with (fail);refine' Pl.region_v0 129 [] [0, 1, 2, 3, 4, 5, 6, 7, 8, 9, 10] [] _ (by kernel_rfl) (by kernel_rfl) (by simp) (fun _ _ _ _ e h => ⟨e ▸ h.1, h.2⟩) ?_ ?_
         rotate_left
         ·intro I F hI hF;simp only [Pl.selN, List.nil_append, List.drop_succ_cons, List.drop_zero];have z0 := fun q => hF.cell l0 d0 q
          have z1 := fun q => hF.cell l1 d1 q
          repeat (go_big_quiet_step (fail))
          refine wpQuiet_nil ?_;rfl
         intro w17 hw17;simp only [Pl.selN];have HB17 := Bas.hid (HBQ.out.trans (hw17.mono HBQ.out.size));clear hw17 d0 d1 l0 l1;go_wp2_with (fail);go_roundw
         case rel => exact ⟨q + 1, by omega, by go_num, HB17.out⟩
         case measure => simp [intOf]; omega
        ·have e3 : decide ((q : Int) < (nx : Int)) = false := by simp; omega
         have HBZ := Bas.hid (HB15.out.trans (hb.mono HB15.out.size));clear hb;go_wp2_with (fail);go_ret;exact ⟨rfl, HBZ.out⟩
end Mx
end Go.Proofs.YtoncnjhhdlpliaaGreat
namespace Go.Proofs.YtoncnjhhdlpliaaGreat
open Go.RowKit Go.ChangeShapes Go.WideShapes Go.ChangeAt
namespace Mx
open Vw Ch Lk St Ln Dr Wr
set_option maxRecDepth 100000 in
theorem mirror_walk {H : Type} {enc : TypeId × Value → H} (v : Value) (d : DataW H) (p : List MemPlace) (ida : Option Addr) (idn idc : Nat) (idz : List Int) (W : World) {base : Nat} (hv : Value.okWide Tryz.prog W .any base 22 v) (ht : DataW.Trod enc Tryz.prog W 0 (fun _ => true) true 22 v d p) (hidz : Bas.IsRow .i64 W ida idn idc idz) :
  Calls Tryz.prog 4 #[v, .slice ida idn idc] W fun e w' => e = .returned (.bool true) ∧ Below W.heap.size W w' := by
 obtain ⟨a0, len0, cap0, rfl⟩ := okWide_slice Tryz.underlying22 hv;obtain ⟨fuel, hf⟩ := ht;obtain ⟨l, h1, h2⟩ := open_chainsM (v := .slice a0 len0 cap0) hf;have hcm : len0 ≤ cap0 ∧ cap0 ≤ maxLen := by
  rcases Go.Deep.open_slice Tryz.underlying22 hf with ⟨h0, _⟩ | ⟨a, len, cap, m, n', D, Pl, h0, _, hl, hm, _⟩
  ·cases h0; exact ⟨Nat.le_refl _, Nat.zero_le _⟩
  ·cases h0; exact ⟨hl, hm⟩
 have hLl : l.length = len0 := by
  obtain ⟨_, _, hld, _⟩ := id h1;obtain ⟨_, _, e⟩ := Row.leads_slice hld;cases e; rfl
 obtain ⟨hid, hidl, hidm⟩ : Row.Leads W (.slice ida idn idc) idn ((idz.take idn).map (Value.int .i64)) ∧ (idz.take idn).length = idn ∧ idn ≤ 9223372036854775807 := by
  rcases hidz with ⟨rfl, rfl, rfl, rfl⟩ | ⟨x, rfl, hl, hm, hlz, hcell, _⟩
  ·exact ⟨.inl ⟨rfl, rfl, rfl⟩, rfl, by omega⟩
  ·refine ⟨.inr ⟨_, _, rfl, fun j u hu => ?_⟩, by rw [List.length_take]; omega, by unfold maxLen at hm; omega⟩
   rw [List.getElem?_map] at hu;cases hj : (idz.take idn)[j]? with
   | none => rw [hj] at hu; cases hu
   | some y =>
    rw [hj] at hu;cases hu;have hjl := (List.getElem?_eq_some_iff.1 hj).1;rw [List.length_take] at hjl;rw [List.getElem?_take_of_lt (by omega)] at hj
    have := hcell j (by omega)
    rw [List.getD_eq_getElem?_getD, hj] at this;exact this
 exact mirror_core a0 len0 cap0 l ida idn idc _ W hcm h1 hLl (fun c hc => (h2 c hc).1) (fun c hc => (h2 c hc).2) hid hidl hidm
end Mx
end Go.Proofs.YtoncnjhhdlpliaaGreat
