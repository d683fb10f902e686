/- Rows that are sorted by merging in place: the plain law. -/
import Derived.Test.YtkmbeohheblhhaaBase
namespace Go.Proofs.Ytkmbeohheblhhaa
namespace Sy
variable {α : Type}

/-- Permuted within a range. -/
def Pm (lo hi : Nat) (d d' : Nat → α) : Prop := ∃ s t : Nat → Nat, (∀ i, s (t i) = i) ∧ (∀ i, t (s i) = i) ∧ (∀ i, i < lo ∨ hi ≤ i → s i = i) ∧ ∀ i, d' i = d (s i)

theorem Pm.refl (lo hi : Nat) (d : Nat → α) : Pm lo hi d d := ⟨id, id, fun _ => rfl, fun _ => rfl, fun _ _ => rfl, fun _ => rfl⟩
theorem Pm.trans {lo hi : Nat} {d d' d'' : Nat → α} (h : Pm lo hi d d') (k : Pm lo hi d' d'') : Pm lo hi d d'' := by
  obtain ⟨s, t, a1, a2, a3, a4⟩ := h
  obtain ⟨s', t', b1, b2, b3, b4⟩ := k
  exact ⟨fun i => s (s' i), fun i => t' (t i), fun i => by show s (s' (t' (t i))) = i; rw [b1, a1], fun i => by show t' (t (s (s' i))) = i; rw [a2, b2], fun i hi => by show s (s' i) = i; rw [b3 i hi, a3 i hi], fun i => by show d'' i = d (s (s' i)); rw [b4, a4]⟩
theorem Pm.wide {lo hi lo' hi' : Nat} {d d' : Nat → α} (h : Pm lo hi d d') (h1 : lo' ≤ lo) (h2 : hi ≤ hi') : Pm lo' hi' d d' := by
  obtain ⟨s, t, a1, a2, a3, a4⟩ := h
  exact ⟨s, t, a1, a2, fun i hi => a3 i (by omega), a4⟩
theorem Pm.out {lo hi : Nat} {d d' : Nat → α} (h : Pm lo hi d d') {i : Nat} (hi' : i < lo ∨ hi ≤ i) : d' i = d i := by
  obtain ⟨s, t, a1, a2, a3, a4⟩ := h
  rw [a4, a3 i hi']
theorem Pm.inn {lo hi : Nat} {d d' : Nat → α} (h : Pm lo hi d d') {i : Nat} (h1 : lo ≤ i) (h2 : i < hi) : ∃ j, lo ≤ j ∧ j < hi ∧ d' i = d j := by
  obtain ⟨s, t, a1, a2, a3, a4⟩ := h
  refine ⟨s i, ?_, ?_, a4 i⟩
  · rcases Nat.lt_or_ge (s i) lo with h | h
    · have := a3 (s i) (.inl h); have := congrArg t this; rw [a2, a2] at this; omega
    · exact h
  · rcases Nat.lt_or_ge (s i) hi with h | h
    · exact h
    · have := a3 (s i) (.inr h); have := congrArg t this; rw [a2, a2] at this; omega

def sw (d : Nat → α) (i j : Nat) : Nat → α := fun k => if k = i then d j else if k = j then d i else d k
theorem Pm.swap {lo hi : Nat} (d : Nat → α) {i j : Nat} (h1 : lo ≤ i) (h2 : i < hi) (h3 : lo ≤ j) (h4 : j < hi) : Pm lo hi d (sw d i j) := by
  refine ⟨fun k => if k = i then j else if k = j then i else k, fun k => if k = i then j else if k = j then i else k, fun k => ?_, fun k => ?_, fun k hk => ?_, fun k => ?_⟩
  · simp only []; split <;> (try split) <;> (try split) <;> (try split) <;> omega
  · simp only []; split <;> (try split) <;> (try split) <;> (try split) <;> omega
  · simp only []; rw [if_neg (by omega), if_neg (by omega)]
  · unfold sw; simp only []; split <;> (try split) <;> rfl

/-- Two rows of the same length change places. -/
def swr (d : Nat → α) (a b n : Nat) : Nat → α := fun i => if a ≤ i ∧ i < a + n then d (b + (i - a)) else if b ≤ i ∧ i < b + n then d (a + (i - b)) else d i
theorem swr_zero (d : Nat → α) (a b : Nat) : swr d a b 0 = d := by
  funext i; unfold swr; rw [if_neg (by omega), if_neg (by omega)]
theorem swr_succ (d : Nat → α) (a b n : Nat) (h : a + n < b) : sw (swr d a b n) (a + n) (b + n) = swr d a b (n + 1) := by
  funext i
  unfold sw swr
  by_cases h1 : i = a + n
  · subst h1
    rw [if_pos rfl, if_neg (by omega), if_neg (by omega), if_pos (by omega)]; congr 1; omega
  · rw [if_neg h1]
    by_cases h2 : i = b + n
    · subst h2
      rw [if_pos rfl, if_neg (by omega), if_neg (by omega), if_neg (by omega), if_pos (by omega)]; congr 1; omega
    · rw [if_neg h2]
      by_cases h3 : a ≤ i ∧ i < a + n
      · rw [if_pos h3, if_pos (by omega)]
      · rw [if_neg h3, if_neg (c := a ≤ i ∧ i < a + (n + 1)) (by omega)]
        by_cases h4 : b ≤ i ∧ i < b + n
        · rw [if_pos h4, if_pos (by omega)]
        · rw [if_neg h4, if_neg (by omega)]
theorem Pm.swapr (d : Nat → α) (a b : Nat) : ∀ n, a + n ≤ b → Pm a (b + n) d (swr d a b n)
  | 0, _ => by rw [swr_zero]; exact Pm.refl _ _ _
  | n + 1, h => by
    rw [← swr_succ d a b n (by omega)]
    exact ((Pm.swapr d a b n (by omega)).wide (Nat.le_refl _) (by omega)).trans (Pm.swap _ (by omega) (by omega) (by omega) (by omega))

/-- A row's two parts change places. -/
def rot (d : Nat → α) (a m b : Nat) : Nat → α := fun i => if a ≤ i ∧ i < a + (b - m) then d (i + (m - a)) else if a + (b - m) ≤ i ∧ i < b then d (i - (b - m)) else d i
theorem rot_left (d : Nat → α) (m i j : Nat) (hi : j < i) (hm : i ≤ m) : rot (swr d (m - i) m j) (m - (i - j)) m (m + j) = rot d (m - i) m (m + j) := by
  funext k
  unfold rot swr
  repeat' split
  all_goals first | omega | (congr 1; omega) | rfl
theorem rot_right (d : Nat → α) (m i j : Nat) (hi : i < j) (hm : i ≤ m) : rot (swr d (m - i) (m + j - i) i) (m - i) m (m + (j - i)) = rot d (m - i) m (m + j) := by
  funext k
  unfold rot swr
  repeat' split
  all_goals first | omega | (congr 1; omega) | rfl
theorem rot_eq (d : Nat → α) (m i : Nat) (hm : i ≤ m) : swr d (m - i) m i = rot d (m - i) m (m + i) := by
  funext k
  unfold rot swr
  repeat' split
  all_goals first | omega | (congr 1; omega) | rfl

theorem Pm.rota (d : Nat → α) (m : Nat) : ∀ (n i j : Nat), i + j ≤ n → i ≤ m → Pm (m - i) (m + j) d (rot d (m - i) m (m + j)) := by
  intro n
  induction n generalizing d with
  | zero =>
    intro i j h hm
    obtain rfl : i = 0 := by omega
    obtain rfl : j = 0 := by omega
    rw [← rot_eq d m 0 hm, swr_zero]; exact Pm.refl _ _ _
  | succ n ih =>
    intro i j h hm
    rcases Nat.lt_trichotomy i j with h1 | h1 | h1
    · by_cases h0 : i = 0
      · subst h0
        have : Sy.rot d (m - 0) m (m + j) = d := by
          funext k; unfold Sy.rot; split
          · congr 1; omega
          · split
            · omega
            · rfl
        rw [this]; exact Pm.refl _ _ _
      · rw [← rot_right d m i j h1 hm]
        refine Pm.trans ?_ ((ih (swr d (m - i) (m + j - i) i) i (j - i) (by omega) hm).wide (Nat.le_refl _) (by omega))
        exact (Pm.swapr d (m - i) (m + j - i) i (by omega)).wide (Nat.le_refl _) (by omega)
    · subst h1
      rw [← rot_eq d m i hm]
      exact (Pm.swapr d (m - i) m i (by omega))
    · by_cases h0 : j = 0
      · subst h0
        have : Sy.rot d (m - i) m (m + 0) = d := by
          funext k; unfold Sy.rot; split
          · omega
          · split
            · congr 1; omega
            · rfl
        rw [this]; exact Pm.refl _ _ _
      · rw [← rot_left d m i j h1 hm]
        refine Pm.trans ?_ ((ih (swr d (m - i) m j) (i - j) j (by omega) (by omega)).wide (by omega) (Nat.le_refl _))
        exact (Pm.swapr d (m - i) m j (by omega))

/-- An order in which one may be less than another one. -/
structure Ord (lt : α → α → Bool) : Prop where
  asymm : ∀ a b, lt a b = true → lt b a = false
  le_trans : ∀ a b c, lt b a = false → lt c b = false → lt c a = false

def Srt (lt : α → α → Bool) (d : Nat → α) (lo hi : Nat) : Prop := ∀ i j, lo ≤ i → i < j → j < hi → lt (d j) (d i) = false
variable {lt : α → α → Bool}
theorem Srt.le (O : Ord lt) {d : Nat → α} {lo hi i j : Nat} (h : Srt lt d lo hi) (h1 : lo ≤ i) (h2 : i ≤ j) (h3 : j < hi) : lt (d j) (d i) = false := by
  rcases Nat.lt_or_eq_of_le h2 with h2 | h2
  · exact h i j h1 h2 h3
  · subst h2
    cases hh : lt (d i) (d i) with
    | false => rfl
    | true => have h2 := O.asymm _ _ hh; rw [hh] at h2; exact h2

/-- Sorted parts, of which the one is not above the other. -/
theorem Srt.join {d : Nat → α} {a m b : Nat} (h1 : Srt lt d a m) (h2 : Srt lt d m b) (h : ∀ i j, a ≤ i → i < m → m ≤ j → j < b → lt (d j) (d i) = false) : Srt lt d a b := by
  intro i j hi hij hj
  rcases Nat.lt_or_ge j m with h3 | h3
  · exact h1 i j hi hij h3
  · rcases Nat.lt_or_ge i m with h4 | h4
    · exact h i j hi h4 h3 hj
    · exact h2 i j h4 hij hj
theorem Srt.same {d d' : Nat → α} {a b : Nat} (h : Srt lt d a b) (he : ∀ i, a ≤ i → i < b → d' i = d i) : Srt lt d' a b := by
  intro i j hi hij hj
  rw [he i hi (by omega), he j (by omega) hj]
  exact h i j hi hij hj
theorem Srt.part {d : Nat → α} {a b a' b' : Nat} (h : Srt lt d a b) (h1 : a ≤ a') (h2 : b' ≤ b) : Srt lt d a' b' := fun i j hi hij hj => h i j (by omega) hij (by omega)

theorem rot_out (d : Nat → α) {s m e i : Nat} (h : i < s ∨ e ≤ i) (h1 : s ≤ m) (h2 : m ≤ e) : rot d s m e i = d i := by
  unfold rot; rw [if_neg (by omega), if_neg (by omega)]
theorem rot_lo (d : Nat → α) {s m e i : Nat} (h : s ≤ i) (h' : i < s + (e - m)) : rot d s m e i = d (i + (m - s)) := by
  unfold rot; rw [if_pos ⟨h, h'⟩]
theorem rot_hi (d : Nat → α) {s m e i : Nat} (h : s + (e - m) ≤ i) (h' : i < e) : rot d s m e i = d (i - (e - m)) := by
  unfold rot; rw [if_neg (by omega), if_pos ⟨h, h'⟩]
theorem rot_none (d : Nat → α) {s m e : Nat} (h : s = m ∨ m = e) (h1 : s ≤ m) (h2 : m ≤ e) : rot d s m e = d := by
  funext i
  unfold rot
  repeat' split
  all_goals first | omega | (congr 1; omega) | rfl

section
variable {d : Nat → α} {a s m e b : Nat}
theorem rot_srt1 (h : Srt lt d a m) (h1 : s ≤ m) (h2 : m ≤ e) : Srt lt (rot d s m e) a s := (h.part (Nat.le_refl _) h1).same fun _ _ hi => rot_out d (.inl hi) h1 h2
theorem rot_srt4 (h : Srt lt d m b) (h1 : s ≤ m) (h2 : m ≤ e) : Srt lt (rot d s m e) e b := (h.part h2 (Nat.le_refl _)).same fun _ hi _ => rot_out d (.inr hi) h1 h2
theorem rot_srt2 (h : Srt lt d m b) (h1 : s ≤ m) (h2 : e ≤ b) : Srt lt (rot d s m e) s (s + (e - m)) := by
  intro i j hi hij hj
  rw [rot_lo d hi (by omega), rot_lo d (by omega) hj]
  exact h _ _ (by omega) (by omega) (by omega)
theorem rot_srt3 (h : Srt lt d a m) (h0 : a ≤ s) (h2 : m ≤ e) : Srt lt (rot d s m e) (s + (e - m)) e := by
  intro i j hi hij hj
  rw [rot_hi d hi (by omega), rot_hi d (by omega) hj]
  exact h _ _ (by omega) (by omega) (by omega)

/-- What stands ahead of the middle is not above what stands behind it. -/
theorem rot_cross (O : Ord lt) (h1 : Srt lt d a m) (h2 : Srt lt d m b) (q1 : a ≤ s) (q2 : s ≤ m) (q3 : m ≤ e) (q4 : e ≤ b)
    (lo : s = a ∨ e = b ∨ lt (d e) (d (s - 1)) = false) (hi : s = m ∨ e = m ∨ lt (d (e - 1)) (d s) = true) :
    ∀ i j, a ≤ i → i < s + (e - m) → s + (e - m) ≤ j → j < b → lt (rot d s m e j) (rot d s m e i) = false := by
  intro i j hi1 hi2 hj1 hj2
  have X : ∃ x, rot d s m e i = d x ∧ (a ≤ x ∧ x < s ∨ m ≤ x ∧ x < e) := by
    rcases Nat.lt_or_ge i s with h | h
    · exact ⟨i, rot_out d (.inl h) q2 q3, .inl ⟨hi1, h⟩⟩
    · exact ⟨_, rot_lo d h hi2, .inr (by omega)⟩
  have Y : ∃ y, rot d s m e j = d y ∧ (s ≤ y ∧ y < m ∨ e ≤ y ∧ y < b) := by
    rcases Nat.lt_or_ge j e with h | h
    · exact ⟨_, rot_hi d hj1 h, .inl (by omega)⟩
    · exact ⟨j, rot_out d (.inr h) q2 q3, .inr ⟨h, hj2⟩⟩
  obtain ⟨x, ex, hx⟩ := X
  obtain ⟨y, ey, hy⟩ := Y
  rw [ex, ey]
  rcases hx with hx | hx <;> rcases hy with hy | hy
  · exact h1 x y hx.1 (by omega) hy.2
  · have lo' : lt (d e) (d (s - 1)) = false := by
      rcases lo with h | h | h
      · omega
      · omega
      · exact h
    refine O.le_trans _ _ _ (h1.le O hx.1 (by omega : x ≤ s - 1) (by omega)) (O.le_trans _ _ _ lo' (h2.le O (by omega) hy.1 hy.2))
  · have hi' : lt (d (e - 1)) (d s) = true := by
      rcases hi with h | h | h
      · omega
      · omega
      · exact h
    refine O.le_trans _ _ _ (h2.le O hx.1 (by omega : x ≤ e - 1) (by omega)) (O.le_trans _ _ _ (O.asymm _ _ hi') (h1.le O (by omega) hy.1 hy.2))
  · exact h2 x y hx.1 (by omega) hy.2

/-- Both sides sorted anew: the whole. -/
theorem merge_srt (O : Ord lt) {mid : Nat} (h1 : Srt lt d a m) (h2 : Srt lt d m b) (q1 : a ≤ s) (q2 : s ≤ m) (q3 : m ≤ e) (q4 : e ≤ b)
    (lo : s = a ∨ e = b ∨ lt (d e) (d (s - 1)) = false) (hi : s = m ∨ e = m ∨ lt (d (e - 1)) (d s) = true) (hmid : mid = s + (e - m))
    {d2 d3 : Nat → α} (p1 : Pm a mid (rot d s m e) d2) (r1 : Srt lt d2 a mid) (p2 : Pm mid b d2 d3) (r2 : Srt lt d3 mid b) : Srt lt d3 a b ∧ Pm a b d d3 := by
  subst hmid
  refine ⟨Srt.join (r1.same fun i _ hi => p2.out (.inl hi)) r2 fun i j hi1 hi2 hj1 hj2 => ?_, ?_⟩
  · obtain ⟨x, x1, x2, ex⟩ := p1.inn hi1 hi2
    obtain ⟨y, y1, y2, ey⟩ := p2.inn hj1 hj2
    rw [p2.out (.inl hi2), ex, ey, p1.out (.inr y1)]
    exact rot_cross O h1 h2 q1 q2 q3 q4 lo hi x y x1 x2 y1 y2
  · have h := Pm.rota d m ((m - s) + (e - m)) (m - s) (e - m) (Nat.le_refl _) (by omega)
    rw [show m - (m - s) = s by omega, show m + (e - m) = e by omega] at h
    exact ((h.wide q1 q4).trans (p1.wide (Nat.le_refl _) (by omega))).trans (p2.wide (by omega) (Nat.le_refl _))

/-- One more, put where it belongs: from behind, from ahead. -/
theorem insert_srt (O : Ord lt) (h1 : Srt lt d a m) (q1 : a ≤ s) (q2 : s ≤ m) (lo : s = a ∨ lt (d m) (d (s - 1)) = false) (hi : s = m ∨ lt (d m) (d s) = true) : Srt lt (rot d s m (m + 1)) a (m + 1) ∧ Pm a (m + 1) d (rot d s m (m + 1)) := by
  have h2 : Srt lt d m (m + 1) := fun i j h1 h2 h3 => by omega
  have z : s + (m + 1 - m) = s + 1 := by omega
  refine merge_srt O (s := s) (e := m + 1) h1 h2 q1 q2 (by omega) (Nat.le_refl _) (.inr (.inl rfl)) (hi.imp id fun h => .inr (by simpa using h)) rfl (Pm.refl _ _ _) (Srt.join (m := s) (rot_srt1 h1 q2 (by omega)) (rot_srt2 h2 q2 (Nat.le_refl _)) fun i j hi1 hi2 hj1 hj2 => ?_) (Pm.refl _ _ _) (rot_srt3 h1 q1 (by omega))
  obtain rfl : j = s := by omega
  rw [rot_out d (.inl hi2) q2 (by omega), rot_lo d (Nat.le_refl _) (by omega), show j + (m - j) = m by omega]
  rcases lo with h | h
  · omega
  · exact O.le_trans _ _ _ (h1.le O hi1 (by omega : i ≤ j - 1) (by omega)) h
theorem insert_srt2 (O : Ord lt) (h2 : Srt lt d (a + 1) b) (q3 : a + 1 ≤ e) (q4 : e ≤ b) (lo : e = b ∨ lt (d e) (d a) = false) (hi : e = a + 1 ∨ lt (d (e - 1)) (d a) = true) : Srt lt (rot d a (a + 1) e) a b ∧ Pm a b d (rot d a (a + 1) e) := by
  have h1 : Srt lt d a (a + 1) := fun i j h1 h2 h3 => by omega
  refine merge_srt O (s := a) (e := e) h1 h2 (Nat.le_refl _) (by omega) q3 q4 (.inl rfl) (.inr hi) rfl (Pm.refl _ _ _) (rot_srt2 h2 (by omega) q4) (Pm.refl _ _ _) (Srt.join (m := e) (rot_srt3 h1 (Nat.le_refl _) q3) (rot_srt4 h2 (by omega) q3) fun i j hi1 hi2 hj1 hj2 => ?_)
  rw [rot_out d (.inr hj1) (by omega) q3, rot_hi d hi1 hi2, show i - (e - (a + 1)) = a by omega]
  rcases lo with h | h
  · omega
  · exact O.le_trans _ _ _ h (h2.le O (by omega) hj1 hj2)
end

theorem rot_down (d : Nat → α) {k m : Nat} (h : 0 < k) (hk : k ≤ m) : sw (rot d k m (m + 1)) k (k - 1) = rot d (k - 1) m (m + 1) := by
  funext i
  unfold sw rot
  repeat' split
  all_goals first | omega | (congr 1; omega) | rfl
theorem rot_up (d : Nat → α) {a k : Nat} (h : a ≤ k) : sw (rot d a (a + 1) (k + 1)) k (k + 1) = rot d a (a + 1) (k + 2) := by
  funext i
  unfold sw rot
  repeat' split
  all_goals first | omega | (congr 1; omega) | rfl
end Sy
end Go.Proofs.Ytkmbeohheblhhaa
