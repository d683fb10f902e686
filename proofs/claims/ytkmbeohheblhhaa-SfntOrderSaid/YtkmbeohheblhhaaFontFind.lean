/- Layer 2 (sfnt): Tables and Find, of a font. -/
import Derived.Test.YtkmbeohheblhhaaFontTables
namespace Go.Proofs.Ytkmbeohheblhhaa
open Go.RowKit
namespace Fo
open Vw Wr

def okTabs (P : List PartD) (w : World) (base : Nat) (v : Value) : Prop := w.ownsRow base 52 3 v P.length ((tabsM P).flatMap tabC)
theorem okTabs_keeps (P : List PartD) : Keeps (okTabs P) :=
  ⟨fun _ _ _ _ h hk _ => Row.owned_keep h fun g hg => hk g (Row.own_block h hg).1 (Row.own_block h hg).2, fun _ _ _ _ h hb => Row.owned_base h hb, fun _ _ _ h => by obtain ⟨a, c, rfl⟩ := own_slice h; exact ⟨_, _, _, rfl⟩⟩

theorem tables_ok (a : Option Addr) (len cap : Nat) (bs : List Int) (P : List PartD) (w : World) (hl : len ≤ cap) (hc : cap ≤ maxLen) (hv : VB w a bs) (hbl : bs.length = len) (hF : IsFont bs P) :
    Calls Try.prog 18 #[.slice a len cap] w fun e w' => Below w.heap.size w w' ∧ ∃ v, e = .returned (.tuple #[v, .int .i64 0]) ∧ w'.ownsRow w.heap.size 52 3 v P.length ((tabsM P).flatMap tabC) := by
  refine (read_any a len cap bs true _ (okTabs_keeps P) w hv (fun w' hv' => (stake_ok a len cap bs P w' hl hc hv' hbl hF).mono ?_)).mono ?_
  · rintro e w'' ⟨hb, v, rfl, ho⟩
    exact ⟨hb, by simp only [if_true]; exact ⟨_, rfl, ho⟩⟩
  · rintro e w' ⟨hb, h⟩
    simp only [if_true] at h
    obtain ⟨v, rfl, ho⟩ := h
    exact ⟨hb, v, rfl, ho⟩

set_option maxHeartbeats 1000000 in
theorem stake_no (a : Option Addr) (cap : Nat) (w : World) (hc : cap ≤ maxLen) : Calls Try.prog 35 #[.agg #[.slice a 0 cap]] w fun e w' => e = .panicked short ∧ Below w.heap.size w w' := by
  have U0 := Bas.hid fun w' => u32_no a 0 cap 0 w' (by omega) hc (by omega)
  have HB := Bas.hid ((Below.refl w.heap.size w).alloc (Nat.le_refl _) (.cells #[.slice a 0 cap] 48))
  go_enter Try.func35, Try.ntmps35
  go_wp2_with (fail)
  generalize w.alloc (.cells #[.slice a 0 cap] 48) = W at *
  refine (U0.out _).mono ?_
  rintro e w1 ⟨rfl, hb1⟩
  have HB1 := Bas.hid (HB.out.trans (hb1.mono HB.out.size))
  clear hb1
  go_wp2_with (fail)
  exact ⟨rfl, rfl, HB1.out⟩

theorem tables_no (a : Option Addr) (cap : Nat) (w : World) (hc : cap ≤ maxLen) :
    Calls Try.prog 18 #[.slice a 0 cap] w fun e w' => Below w.heap.size w w' ∧ e = .returned (.tuple #[.slice none 0 0, .int .i64 2]) := by
  refine (read_any a 0 cap [] false _ (okTabs_keeps []) w ⟨by simp, by simp, by simp⟩ (fun w' _ => (stake_no a cap w' hc).mono ?_)).mono ?_
  · rintro e w'' ⟨rfl, hb⟩
    exact ⟨hb, by simp⟩
  · rintro e w' ⟨hb, h⟩
    exact ⟨hb, by simpa using h⟩

def cmpS (s t : ByteArray) : Int := if ltS s t then -1 else if gtS s t then 1 else 0

set_option maxHeartbeats 1000000 in
theorem nan_any (s : ByteArray) (w : World) : Calls Try.prog 40 #[.string s] w fun e w' => e = .returned (.bool false) ∧ w = w' := by
  go_enter Try.func40, Try.ntmps40
  go_wp2_with (fail)
  go_ret
  exact ⟨rfl, rfl⟩

set_option maxHeartbeats 1000000 in
theorem compare_any (s t : ByteArray) (w : World) : Calls Try.prog 24 #[.string s, .string t] w fun e w' => e = .returned (.int .i64 (cmpS s t)) ∧ w = w' := by
  cases h1 : Op.bytesLess s.toList t.toList with
  | true =>
    have HC : Hid (cmpS s t = -1) := by unfold Hid cmpS ltS; rw [h1]; rfl
    go_enter Try.func24, Try.ntmps24
    go_wp2_with (go_at_call 40; refine (nan_any _ _).mono ?_; rintro e w' ⟨rfl, rfl⟩)
    go_ret
    exact ⟨by rw [HC.out]; rfl, rfl⟩
  | false =>
    cases h2 : s.toList == t.toList with
    | true =>
      have HC : Hid (cmpS s t = 0) := by unfold Hid cmpS ltS gtS; rw [h1, h2]; rfl
      go_enter Try.func24, Try.ntmps24
      go_wp2_with (go_at_call 40; refine (nan_any _ _).mono ?_; rintro e w' ⟨rfl, rfl⟩)
      go_ret
      exact ⟨by rw [HC.out]; rfl, rfl⟩
    | false =>
      have HC : Hid (cmpS s t = 1) := by unfold Hid cmpS ltS gtS; rw [h1, h2]; rfl
      go_enter Try.func24, Try.ntmps24
      go_wp2_with (go_at_call 40; refine (nan_any _ _).mono ?_; rintro e w' ⟨rfl, rfl⟩)
      go_ret
      exact ⟨by rw [HC.out]; rfl, rfl⟩

set_option maxHeartbeats 1000000 in
theorem find1_any (s t : ByteArray) (a l : Int) (w : World) : Calls Try.prog 38 #[.agg #[.string s, .int .i64 a, .int .i64 l], .string t] w fun e w' => e = .returned (.int .i64 (cmpS s t)) ∧ Below w.heap.size w w' := by
  have HB := Bas.hid ((Below.refl w.heap.size w).alloc (Nat.le_refl _) (.cells #[.string s, .int .i64 a, .int .i64 l] 52))
  go_enter Try.func38, Try.ntmps38
  go_wp2_with (go_at_call 24; refine (compare_any _ _ _).mono ?_; rintro e w' ⟨rfl, rfl⟩)
  go_ret
  exact ⟨rfl, HB.out⟩

theorem bl_trans : ∀ x y z : List UInt8, Op.bytesLess x y = true → Op.bytesLess y z = true → Op.bytesLess x z = true
  | _, [], _, h, _ => by simp [Op.bytesLess] at h
  | _, _ :: _, [], _, h => by simp [Op.bytesLess] at h
  | [], _ :: _, _ :: _, _, _ => by simp [Op.bytesLess]
  | a :: x, b :: y, c :: z, h1, h2 => by
    simp only [Op.bytesLess, Bool.or_eq_true, Bool.and_eq_true, decide_eq_true_eq, beq_iff_eq, UInt8.lt_iff_toNat_lt] at h1 h2 ⊢
    rcases h1 with h1 | ⟨rfl, h1⟩
    · rcases h2 with h2 | ⟨rfl, h2⟩
      · exact .inl (by omega)
      · exact .inl h1
    · rcases h2 with h2 | ⟨rfl, h2⟩
      · exact .inl h2
      · exact .inr ⟨rfl, bl_trans x y z h1 h2⟩
theorem ltS_trans {a b c : ByteArray} (h1 : ltS a b = true) (h2 : ltS b c = true) : ltS a c = true := bl_trans _ _ _ h1 h2
theorem bl_irrefl : ∀ x : List UInt8, Op.bytesLess x x = false
  | [] => rfl
  | a :: x => by simp [Op.bytesLess, bl_irrefl x]
theorem cmpS_neg (s t : ByteArray) : cmpS s t < 0 ↔ ltS s t = true := by
  unfold cmpS
  split
  · rename_i h; simp [h]
  · rename_i h; split <;> simp [h]
theorem cmpS_self (s : ByteArray) : cmpS s s = 0 := by
  unfold cmpS ltS gtS
  rw [bl_irrefl]
  simp
end Fo
end Go.Proofs.Ytkmbeohheblhhaa
