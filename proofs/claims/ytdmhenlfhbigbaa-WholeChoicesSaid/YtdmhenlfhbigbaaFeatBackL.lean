/- Layer 8: features that were written are read. -/
import Derived.Test.YtdmhenlfhbigbaaFeatWrD
namespace Go.Proofs.Ytdmhenlfhbigbaa
open Go.RowKit
namespace Ft
open Vw Wr

def toF (p : WPlan) : FeatD := ⟨p.type, decide (p.flags ≥ 32768), dfltOf p.sets p.flags, p.sets⟩
def risesL : Option Int → List WPlan → Bool
  | _, [] => true
  | prev, p :: l => risesB prev p.type && risesL (some p.type) l

theorem sets_back : ∀ (l : List Int) (pre post : List Int), (∀ s ∈ l, 0 ≤ s ∧ s ≤ 65535) → (List.range l.length).map (fun j => be (pre ++ (l.flatMap sB ++ post)) (pre.length + 4 * j) 2) = l
  | [], pre, post, _ => rfl
  | s :: l, pre, post, h => by
    obtain ⟨h1, h2⟩ := h s (by simp)
    have ih := sets_back l (pre ++ sB s) post (fun x hx => h x (by simp [hx]))
    have e : pre ++ ((s :: l).flatMap sB ++ post) = pre ++ sB s ++ (l.flatMap sB ++ post) := by simp [List.flatMap_cons, List.append_assoc]
    rw [List.length_cons, List.range_succ_eq_map, List.map_cons, List.map_map, e]
    congr 1
    · have a1 := be_mid pre (putB 9 2 ++ (l.flatMap sB ++ post)) s 2 (pre.length + 4 * 0) (by omega) h1 (by omega)
      simp only [sB, List.append_assoc] at a1 ⊢
      exact a1
    · refine Eq.trans ?_ ih
      apply List.map_congr_left
      intro j _
      have hl : (pre ++ sB s).length + 4 * j = pre.length + 4 * (j + 1) := by rw [List.length_append, sB_len]; omega
      simp only [Function.comp, hl, Nat.succ_eq_add_one]

theorem row_back (L : List WPlan) (hL : L.length ≤ 30) (h : ∀ p ∈ L, okPlan p) (x y : List WPlan) (p : WPlan) (hx : L = x ++ p :: y) : parseF (featW L) (rowAt (featW L) x.length) = some (toF p) := by
  have hp := h p (by rw [hx]; simp)
  obtain ⟨⟨⟨t1, t2⟩, ⟨f1, f2⟩, hs⟩, h60⟩ := hp
  obtain ⟨n, hn⟩ : ∃ n, n = L.length := ⟨_, rfl⟩
  obtain ⟨off, ho⟩ : ∃ off, off = (setsW x).length := ⟨_, rfl⟩
  have hoff : off ≤ 7200 := by
    have := setsW_le L h x.length (by rw [hx]; simp)
    have e : L.take x.length = x := by rw [hx, List.take_left]
    rw [e] at this
    have hxl : x.length ≤ L.length := by rw [hx]; simp
    omega
  have hrows : rowsW n 0 L = rowsW n 0 x ++ (rowW n off p ++ rowsW n (off + 4 * p.sets.length) y) := by
    have key : ∀ (x : List WPlan) (o : Nat), rowsW n o (x ++ p :: y) = rowsW n o x ++ (rowW n (o + (setsW x).length) p ++ rowsW n (o + (setsW x).length + 4 * p.sets.length) y) := by
      intro x
      induction x with
      | nil => intro o; simp [rowsW, setsW]
      | cons q x ih => intro o; rw [List.cons_append, rowsW, ih, rowsW, setsW_cons, List.append_assoc, Nat.add_assoc o]
    rw [hx, key x 0, Nat.zero_add, ← ho]
  have hsets : setsW L = setsW x ++ (p.sets.flatMap sB ++ setsW y) := by
    unfold setsW; rw [hx, List.flatMap_append, List.flatMap_cons]
  have hw : featW L = (headW n ++ rowsW n 0 x) ++ (rowW n off p ++ (rowsW n (off + 4 * p.sets.length) y ++ setsW L)) := by
    unfold featW
    rw [← hn, hrows]
    simp only [List.append_assoc]
  have hw2 : featW L = (headW n ++ rowsW n 0 L ++ setsW x) ++ (p.sets.flatMap sB ++ setsW y) := by
    unfold featW
    rw [← hn, hsets]
    simp only [List.append_assoc]
  have hpl : (headW n ++ rowsW n 0 x).length = 12 + 12 * x.length := by rw [List.length_append, headW_len, rowsW_len]
  have hrb : rowAt (featW L) x.length = rowW n off p := by
    unfold rowAt
    rw [hw, ← hpl, List.drop_left, List.take_append_of_le_length (by rw [rowW_len]; exact Nat.le_refl _), List.take_of_length_le (by rw [rowW_len]; exact Nat.le_refl _)]
  have hpl2 : (headW n ++ rowsW n 0 L ++ setsW x).length = 12 + 12 * n + off := by rw [List.length_append, List.length_append, headW_len, rowsW_len, ← hn, ← ho]
  have hlen : 12 + 12 * n + off + 4 * p.sets.length ≤ (featW L).length := by
    rw [hw2, List.length_append, hpl2, List.length_append, setB_len]; omega
  have a0 := be_mid [] (putB (p.sets.length : Int) 2 ++ (putB (12 + 12 * (n : Int) + (off : Int)) 4 ++ (putB p.flags 2 ++ putB 7 2))) p.type 2 0 rfl t1 (by omega)
  have a2 := be_mid (putB p.type 2) (putB (12 + 12 * (n : Int) + (off : Int)) 4 ++ (putB p.flags 2 ++ putB 7 2)) (p.sets.length : Int) 2 2 (by simp [putB_len]) (by omega) (by omega)
  have a4 := be_mid (putB p.type 2 ++ putB (p.sets.length : Int) 2) (putB p.flags 2 ++ putB 7 2) (12 + 12 * (n : Int) + (off : Int)) 4 4 (by simp [putB_len]) (by omega) (by omega)
  have a8 := be_mid (putB p.type 2 ++ putB (p.sets.length : Int) 2 ++ putB (12 + 12 * (n : Int) + (off : Int)) 4) (putB 7 2) p.flags 2 8 (by simp [putB_len]) f1 (by omega)
  have e : rowW n off p = putB p.type 2 ++ (putB (p.sets.length : Int) 2 ++ (putB (12 + 12 * (n : Int) + (off : Int)) 4 ++ (putB p.flags 2 ++ putB 7 2))) := by simp only [rowW, List.append_assoc]
  simp only [List.append_assoc, List.nil_append] at a0 a2 a4 a8
  rw [← e] at a0 a2 a4 a8
  have hset : setsAt (featW L) (12 + 12 * n + off) p.sets.length = p.sets := by
    unfold setsAt
    rw [hw2, ← hpl2]
    exact sets_back p.sets _ (setsW y) hs
  rw [hrb]
  unfold parseF
  rw [a0, a2, a4, a8, show (12 + 12 * (n : Int) + (off : Int)).toNat = 12 + 12 * n + off by omega, Int.toNat_natCast, if_pos hlen, hset]
  rfl

theorem feats_back (L : List WPlan) (hL : L.length ≤ 30) (h : ∀ p ∈ L, okPlan p) : ∀ (l x : List WPlan) (prev : Option Int), L = x ++ l → featsAt (featW L) l.length x.length prev = if risesL prev l = true then some (l.map toF) else none
  | [], x, prev, _ => rfl
  | p :: l, x, prev, hx => by
    have ih := feats_back L hL h l (x ++ [p]) (some p.type) (by rw [hx]; simp)
    rw [List.length_append] at ih
    rw [List.length_cons, featsAt, row_back L hL h x l p hx, Option.bind_some, risesL]
    show (if risesB prev (toF p).type = true then _ else _) = _
    have et : (toF p).type = p.type := rfl
    rw [et]
    cases h1 : risesB prev p.type with
    | false => simp
    | true =>
      simp only [if_true, Bool.true_and]
      have ih' : featsAt (featW L) l.length (x.length + 1) (some p.type) = if risesL (some p.type) l = true then some (l.map toF) else none := ih
      rw [ih']
      by_cases h2 : risesL (some p.type) l = true
      · rw [if_pos h2, if_pos h2]; rfl
      · rw [if_neg h2, if_neg h2]; rfl

/-- THERE AND BACK. -/
theorem fall_back (L : List WPlan) (hL : L.length ≤ 30) (h : ∀ p ∈ L, okPlan p) : parseFs (featW L) = if risesL none L = true then some (L.map toF) else none := by
  have hlen : 12 + 12 * L.length ≤ (featW L).length := by
    unfold featW; rw [List.length_append, List.length_append, headW_len, rowsW_len]; omega
  have a0 := be_mid [] (putB (L.length : Int) 2 ++ ([0, 0, 0, 0, 0, 0] ++ (rowsW L.length 0 L ++ setsW L))) 65536 4 0 rfl (by omega) (by omega)
  have a4 := be_mid (putB 65536 4) ([0, 0, 0, 0, 0, 0] ++ (rowsW L.length 0 L ++ setsW L)) (L.length : Int) 2 4 (by simp [putB_len]) (by omega) (by omega)
  have e : featW L = putB 65536 4 ++ (putB (L.length : Int) 2 ++ ([0, 0, 0, 0, 0, 0] ++ (rowsW L.length 0 L ++ setsW L))) := by simp only [featW, headW, List.append_assoc]
  rw [List.nil_append, ← e] at a0
  rw [← e] at a4
  unfold parseFs
  rw [a0, a4, Int.toNat_natCast, if_pos ⟨by omega, rfl, hlen⟩]
  exact feats_back L hL h L [] none rfl

theorem featW_byte (l : List WPlan) : ∀ x ∈ featW l, 0 ≤ x ∧ x ≤ 255 := by
  have P := putB_byte
  have hrow : ∀ (l : List WPlan) (n off : Nat), ∀ x ∈ rowsW n off l, 0 ≤ x ∧ x ≤ 255 := by
    intro l
    induction l with
    | nil => intro n off x hx; cases hx
    | cons p l ih =>
      intro n off x hx
      rw [rowsW, List.mem_append] at hx
      rcases hx with hx | hx
      · simp only [rowW, List.mem_append] at hx
        rcases hx with (((hx | hx) | hx) | hx) | hx <;> exact P _ _ x hx
      · exact ih _ _ x hx
  intro x hx
  simp only [featW, headW, List.mem_append] at hx
  rcases hx with (((hx | hx) | hx) | hx) | hx
  · exact P _ _ x hx
  · exact P _ _ x hx
  · simp at hx; omega
  · exact hrow _ _ _ x hx
  · obtain ⟨p, _, hx⟩ := List.mem_flatMap.1 hx
    obtain ⟨s, _, hx⟩ := List.mem_flatMap.1 hx
    rcases List.mem_append.1 hx with hx | hx <;> exact P _ _ x hx

theorem featW_len_le (l : List WPlan) (hl : l.length ≤ 30) (h : ∀ p ∈ l, okPlan p) : 12 ≤ (featW l).length ∧ (featW l).length ≤ 7572 := by
  have := setsW_le l h l.length (Nat.le_refl _)
  rw [List.take_length] at this
  simp only [featW, List.length_append, headW_len, rowsW_len]
  omega
end Ft
end Go.Proofs.Ytdmhenlfhbigbaa
