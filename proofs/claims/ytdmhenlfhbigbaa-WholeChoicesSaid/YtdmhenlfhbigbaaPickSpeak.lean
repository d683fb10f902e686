/- Layer 9's statements: speaks, big. -/
import Derived.Test.YtdmhenlfhbigbaaPickPlain
import Derived.Test.YtdmhenlfhbigbaaPickFlags
import Derived.Test.YtdmhenlfhbigbaaPickFeats
namespace Go.Proofs.Ytdmhenlfhbigbaa
open Go.RowKit
namespace Pk
open Ch Ft Go.Maps

theorem speak_set : IsSet [] [(1, 2), (1, 3)] [(1, 3)] := by
  refine ⟨List.pairwise_singleton _ _, fun s => ?_⟩
  have hl : lastK [] [(1, 2), (1, 3)] (ck [] s) = if ck [] s = (1, 1) then some (1, 3) else none := by
    simp [lastK, ck, exclL, rightB]
    by_cases h : s.1 = 1 ∧ s.2 / 2 = 1
    · simp [h.1, h.2]
    · have h2 : ¬ (1 = s.1 ∧ 1 = s.2 / 2) := fun h' => h ⟨h'.1.symm, h'.2.symm⟩
      simp only [if_neg h, if_neg h2]
  rw [hl, List.mem_singleton]
  constructor
  · rintro rfl; exact ⟨by decide, by decide⟩
  · rintro ⟨_, h⟩
    split at h
    · cases h; rfl
    · cases h

set_option maxRecDepth 100000 in
set_option maxHeartbeats 8000000 in
theorem speaks_any (w : World) : Calls Try.prog 15 #[] w fun e w' => e = .returned (.bool true) ∧ Below w.heap.size w w' := by
  go_enter Try.func15, Try.ntmps15
  go_wp2_with (fail)
  have k1 := Bas.heap_new w (.cells #[.int .i64 1, .int .i64 2, .int .i64 1, .int .i64 3] 27)
  have B1 := (Below.refl w.heap.size w).alloc (Nat.le_refl _) (.cells #[.int .i64 1, .int .i64 2, .int .i64 1, .int .i64 3] 27)
  generalize w.alloc (.cells #[.int .i64 1, .int .i64 2, .int .i64 1, .int .i64 3] 27) = W1 at *
  refine (settle_any (some ⟨w.heap.size, 0, none⟩) 2 2 [(1, 2), (1, 3)] (.slice none 0 0) [] [] 0 W1 (leads_heap k1) rfl (by decide) (fRow_nil _ _) (by decide) (fun s hs => by simp at hs; rcases hs with rfl | rfl <;> exact ⟨by decide, by decide⟩)).mono ?_
  rintro e w2 ⟨v, ys, rfl, his, hown, hb2⟩
  have hys := isSet_uniq his speak_set
  subst hys
  have HB2 := Bas.hid (B1.trans (hb2.mono B1.size))
  have hld := Row.leads_owned hown
  have HON := Bas.hid (fun w' (hb : Below w2.heap.size w2 w') => on_any v [(1, 3)] 1 3 w' (Row.leads_below hld hb) (List.pairwise_singleton _ _) (by decide))
  have HFL := Bas.hid (fun (a : Option Addr) (cap : Nat) (rules : List RuleD) (hrn : rules.length = 1) w' (hb : Below w2.heap.size w2 w') (hl : Row.Leads w' (.slice a 1 cap) 1 (rules.flatMap ruC)) => flags_any a 1 cap rules 6 v [(1, 3)] w' hl hrn (by decide) (Row.leads_below hld hb) (List.pairwise_singleton _ _) (by decide))
  obtain ⟨B, Of, cp0, hv0, hcl⟩ := Row.leads_elem setC_len hld (i := 0) (x := (1, 3)) rfl (by omega)
  subst hv0
  have c0 := hcl 0 _ rfl
  have c1 := hcl 1 _ rfl
  simp only [Nat.zero_mul, Nat.add_zero] at c0 c1
  have lb : B < w2.heap.size := World.block_lt_of_cell? _ _ c0
  have hd1 : decide (((1, 3) : Int × Int) ∈ [((1, 3) : Int × Int)]) = true := by decide
  simp only [hd1] at HON
  have hn1 : ([((1, 3) : Int × Int)]).length = 1 := rfl
  rw [hn1] at HON HFL ⊢
  clear his hown hb2 B1 k1 hld hcl hd1 hn1
  go_wp2_with (fail)
  refine (HON.out _ (Below.refl _ _)).mono ?_
  rintro e w3 ⟨rfl, hb3⟩
  have HB3 := Bas.hid hb3
  have d0 := (hb3.cell (p := ⟨B, Of, none⟩) lb).trans c0
  have d1 := (hb3.cell (p := ⟨B, Of + 1, none⟩) lb).trans c1
  clear hb3 c0 c1
  go_wp2_with (fail)
  refine (right_any 1 3 w3).mono ?_
  rintro e w4 ⟨rfl, hb4⟩
  have hr : rightB (1, 3) = true := by decide
  rw [hr]
  have HB4 := Bas.hid (Bas.on HB3.out hb4)
  clear hb4 HB3 d0 d1 hr
  go_wp2_with (fail)
  have k5 := Bas.heap_new w4 (.cells #[.int .i64 1, .int .i64 3, .int .u32 1, .int .u32 3] 44)
  have B5 := HB4.out.alloc HB4.out.size (.cells #[.int .i64 1, .int .i64 3, .int .u32 1, .int .u32 3] 44)
  generalize w4.alloc (.cells #[.int .i64 1, .int .i64 3, .int .u32 1, .int .u32 3] 44) = W5 at *
  refine (HFL.out _ 1 [⟨1, 3, 1, 3⟩] rfl W5 B5 (leads_heap k5)).mono ?_
  rintro e w6 ⟨rfl, hb6⟩
  have hfl : flagsL (fun s => decide (s ∈ [((1, 3) : Int × Int)])) 6 [⟨1, 3, 1, 3⟩] = 3 := by decide
  rw [hfl]
  have HB6 := Bas.hid (HB2.out.trans ((Bas.on B5 hb6).mono HB2.out.size))
  clear hb6 hfl B5 k5
  go_wp2_with (fail)
  go_ret
  exact ⟨rfl, HB6.out⟩

set_option maxHeartbeats 4000000 in
theorem big_any (a ka ba : Option Addr) (n c kn kc bn bc : Nat) (w : World) :
    Calls Try.prog 16 #[.agg #[.slice a n c, .slice ka kn kc, .slice ba bn bc]] w fun e w' => e = .returned (.bool (decide (100 < n) || decide (40 < kn))) ∧ Below w.heap.size w w' := by
  have HB := Bas.hid ((Below.refl w.heap.size w).alloc (Nat.le_refl _) (.cells #[.slice a n c, .slice ka kn kc, .slice ba bn bc] 49))
  by_cases h1 : 100 < n
  · have e1 : decide ((n : Int) > 100) = true := decide_eq_true (by omega)
    have e2 : decide ((100 : Int) < (n : Int)) = true := decide_eq_true (by omega)
    have e3 : decide (100 < n) = true := decide_eq_true h1
    have HE := Bas.hid e3
    clear h1
    go_enter Try.func16, Try.ntmps16
    go_wp2_with (fail)
    go_ret
    exact ⟨by rw [HE.out]; first | done | rfl, HB.out⟩
  · have e1 : decide ((n : Int) > 100) = false := decide_eq_false (by omega)
    have e2 : decide ((100 : Int) < (n : Int)) = false := decide_eq_false (by omega)
    have e3 : decide (100 < n) = false := decide_eq_false h1
    have HE := Bas.hid e3
    by_cases h2 : 40 < kn
    · have f1 : decide ((kn : Int) > 40) = true := decide_eq_true (by omega)
      have f2 : decide ((40 : Int) < (kn : Int)) = true := decide_eq_true (by omega)
      have f3 : decide (40 < kn) = true := decide_eq_true h2
      have HF := Bas.hid f3
      clear h1 h2
      go_enter Try.func16, Try.ntmps16
      go_wp2_with (fail)
      go_ret
      exact ⟨by rw [HE.out, HF.out]; first | done | rfl, HB.out⟩
    · have f1 : decide ((kn : Int) > 40) = false := decide_eq_false (by omega)
      have f2 : decide ((40 : Int) < (kn : Int)) = false := decide_eq_false (by omega)
      have f3 : decide (40 < kn) = false := decide_eq_false h2
      have HF := Bas.hid f3
      clear h1 h2
      go_enter Try.func16, Try.ntmps16
      go_wp2_with (fail)
      go_ret
      exact ⟨by rw [HE.out, HF.out]; first | done | rfl, HB.out⟩
end Pk
end Go.Proofs.Ytdmhenlfhbigbaa
