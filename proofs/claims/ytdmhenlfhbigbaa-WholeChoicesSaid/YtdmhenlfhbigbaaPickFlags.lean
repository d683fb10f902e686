/- Layer 9: Flags, of pick and of the reference. -/
import Derived.Test.YtdmhenlfhbigbaaPickRon
namespace Go.Proofs.Ytdmhenlfhbigbaa
open Go.RowKit
namespace Pk
open Ch Ft Go.Maps

structure RuleD where
  ty : Int
  val : Int
  en : Int
  dis : Int
def ruC (r : RuleD) : List Value := [.int .i64 r.ty, .int .i64 r.val, .int .u32 r.en, .int .u32 r.dis]
theorem ruC_len (r : RuleD) : (ruC r).length = 4 := rfl
def stepF (f : Int) (r : RuleD) : Int := bits .or .u32 (bits .and .u32 f r.dis) r.en
def flagsL (on : Int × Int → Bool) (f : Int) (rules : List RuleD) : Int := rules.foldl (fun f r => if on (r.ty, r.val) then stepF f r else f) f
theorem flagsL_snoc (on : Int × Int → Bool) (f : Int) (rules : List RuleD) (r : RuleD) : flagsL on f (rules ++ [r]) = if on (r.ty, r.val) then stepF (flagsL on f rules) r else flagsL on f rules := by
  unfold flagsL; rw [List.foldl_append]; rfl

set_option maxRecDepth 100000 in
set_option maxHeartbeats 8000000 in
theorem flags_any (a : Option Addr) (len cap : Nat) (rules : List RuleD) (first : Int) (sv : Value) (xs : List (Int × Int)) (w : World) (hl : Row.Leads w (.slice a len cap) len (rules.flatMap ruC)) (hn : rules.length = len) (hlen : len ≤ 100000) (hs : Row.Leads w sv xs.length (xs.flatMap setC)) (hp : xs.Pairwise (fun x y => ltP x y = true)) (hxn : xs.length ≤ 100000) :
    Calls Try.prog 14 #[.int .u32 first, .slice a len cap, sv] w fun e w' => e = .returned (.int .u32 (flagsL (fun s => decide (s ∈ xs)) first rules)) ∧ Below w.heap.size w w' := by
  have HL := Bas.hid hl
  have HN := Bas.hid hn
  have HON := Bas.hid (fun (t u : Int) w' (hb : Below w.heap.size w w') => on_any sv xs t u w' (Row.leads_below hs hb) hp hxn)
  obtain ⟨sa, sc, rfl⟩ := Row.leads_slice hs
  obtain ⟨on, hon⟩ : ∃ on : Int × Int → Bool, (fun s => decide (s ∈ xs)) = on := ⟨_, rfl⟩
  have hon2 : ∀ s, decide (s ∈ xs) = on s := fun s => congrFun hon s
  simp only [hon2] at HON
  rw [hon]
  obtain ⟨r, hre⟩ : ∃ r, flagsL on first rules = r := ⟨_, rfl⟩
  have HRE := Bas.hid hre
  rw [hre]
  clear hl hn hs hp hon hon2 hre
  go_enter Try.func14, Try.ntmps14
  go_wp2_with (fail)
  go_loopw [0, 11] (fun va vb wr => ∃ (i : Nat) (f : Int), i ≤ len ∧ va = .int .u32 f ∧ vb = .int .i64 i ∧ flagsL on first (rules.take i) = f ∧ Below w.heap.size w wr) (fun _ vb _ => len - (intOf vb).toNat)
  case atStart => exact ⟨0, first, Nat.zero_le _, rfl, rfl, rfl, Below.refl _ _⟩
  case round =>
    obtain ⟨i, f, hi, rfl, rfl, hf, hb⟩ := hrel
    have HF := Bas.hid hf
    have HB := Bas.hid hb
    clear hf hb
    by_cases hin : i < len
    · have e1 : decide ((i : Int) < (len : Int)) = true := by simp; omega
      have e2 : decide (i < len) = true := by simp; omega
      obtain ⟨s, hs⟩ : ∃ s, rules[i]? = some s := ⟨_, List.getElem?_eq_getElem (by rw [HN.out]; exact hin)⟩
      have hTK : rules.take (i + 1) = rules.take i ++ [s] := by rw [List.take_add_one, hs]; rfl
      obtain ⟨x, y, en, dis⟩ := s
      obtain ⟨B, Of, cp0, hv0, hcl⟩ := Row.leads_elem ruC_len HL.out hs (by omega)
      cases hv0
      have h0 := hcl 0 _ rfl
      have h1 := hcl 1 _ rfl
      have h2 := hcl 2 _ rfl
      have h3 := hcl 3 _ rfl
      simp only [Nat.add_zero] at h0
      have lb : B < w.heap.size := World.block_lt_of_cell? _ _ h0
      have c0 := (HB.out.cell (p := ⟨B, Of + i * 4, none⟩) lb).trans h0
      have c1 := (HB.out.cell (p := ⟨B, Of + i * 4 + 1, none⟩) lb).trans h1
      have c2 := (HB.out.cell (p := ⟨B, Of + i * 4 + 2, none⟩) lb).trans h2
      have c3 := (HB.out.cell (p := ⟨B, Of + i * 4 + 3, none⟩) lb).trans h3
      have hsn := flagsL_snoc on first (rules.take i) ⟨x, y, en, dis⟩
      rw [← hTK, HF.out] at hsn
      simp only [stepF] at hsn
      have HOX := Bas.hid (fun w' hb => HON.out x y w' hb)
      obtain ⟨ob, hob⟩ : ∃ ob, on (x, y) = ob := ⟨_, rfl⟩
      rw [hob] at hsn HOX
      clear hs hcl h0 h1 h2 h3 hTK hob
      have HSN := Bas.hid hsn
      clear hsn
      go_wp2_with (fail)
      have k8 := Bas.heap_new wr (.cells #[.int .i64 x, .int .i64 y, .int .u32 en, .int .u32 dis] 44)
      have HB1 := Bas.hid (HB.out.alloc HB.out.size (.cells #[.int .i64 x, .int .i64 y, .int .u32 en, .int .u32 dis] 44))
      generalize wr.alloc (.cells #[.int .i64 x, .int .i64 y, .int .u32 en, .int .u32 dis] 44) = W1 at *
      generalize wr.heap.size = T8 at *
      clear c0 c1 c2 c3 HB
      refine (HOX.out W1 HB1.out).mono ?_
      rintro e w2 ⟨rfl, hb2⟩
      have k9 := (hb2.block _ (heap_lt k8)).trans k8
      have HB2 := Bas.hid (HB1.out.trans (hb2.mono HB1.out.size))
      clear hb2 HB1 k8
      have q2 := cell_of_heap (i := 2) (v := .int .u32 en) k9 rfl
      have q3 := cell_of_heap (i := 3) (v := .int .u32 dis) k9 rfl
      cases ob with
      | false =>
        simp only [if_false, Bool.false_eq_true] at HSN
        go_wp2_with (fail)
        go_roundw
        case rel => exact ⟨i + 1, f, by omega, rfl, by go_num, HSN.out, HB2.out⟩
        case measure => simp [intOf]; omega
      | true =>
        simp only [if_true] at HSN
        go_wp2_with (fail)
        go_roundw
        case rel => exact ⟨i + 1, _, by omega, rfl, by go_num, HSN.out, HB2.out⟩
        case measure => simp [intOf]; omega
    · have hin2 : i = len := by omega
      subst hin2
      have hlt : rules.take i = rules := List.take_of_length_le (by rw [HN.out]; exact Nat.le_refl _)
      rw [hlt] at HF
      clear hlt
      go_wp2_with (fail)
      go_ret
      exact ⟨by rw [← HRE.out, HF.out]; first | done | rfl, HB.out⟩

set_option maxRecDepth 100000 in
set_option maxHeartbeats 8000000 in
theorem rflags_any (ra : Option Addr) (rlen rcap : Nat) (rules : List RuleD) (first : Int) (a : Option Addr) (len cap : Nat) (l : List (Int × Int)) (fv : Value) (fs : List FeatD) (rs : List Value) (w : World) (hrl : Row.Leads w (.slice ra rlen rcap) rlen (rules.flatMap ruC)) (hrn : rules.length = rlen) (hrlen : rlen ≤ 100000) (hrw : ∀ r ∈ rules, wf64 (r.ty, r.val)) (hl : Row.Leads w (.slice a len cap) len (l.flatMap setC)) (hn : l.length = len) (hlen : len ≤ 100000) (hr : RRow w fv fs rs) (hfl : fs.length ≤ 100000) (hwf : ∀ s ∈ l, wf64 s) :
    Calls Try.prog 22 #[.int .u32 first, .slice ra rlen rcap, .slice a len cap, fv] w fun e w' => e = .returned (.int .u32 (flagsL (refOn fs l) first rules)) ∧ Below w.heap.size w w' := by
  have HL := Bas.hid hrl
  have HN := Bas.hid hrn
  have HW := Bas.hid hrw
  have HON := Bas.hid (fun (t u : Int) (h : wf64 (t, u)) w' (hb : Below w.heap.size w w') => ron_any a len cap l fv fs rs t u w' (Row.leads_below hl hb) hn hlen (rRow_below hr hb) hfl hwf h)
  obtain ⟨fa, fc, rfl⟩ := Row.leads_slice hr.2
  obtain ⟨r, hre⟩ : ∃ r, flagsL (refOn fs l) first rules = r := ⟨_, rfl⟩
  have HRE := Bas.hid hre
  rw [hre]
  clear hrl hrn hrw hl hn hr hfl hwf hre hlen
  go_enter Try.func22, Try.ntmps22
  go_wp2_with (fail)
  go_loopw [0, 9] (fun va vb wr => ∃ (i : Nat) (f : Int), i ≤ rlen ∧ va = .int .u32 f ∧ vb = .int .i64 i ∧ flagsL (refOn fs l) first (rules.take i) = f ∧ Below w.heap.size w wr) (fun _ vb _ => rlen - (intOf vb).toNat)
  case atStart => exact ⟨0, first, Nat.zero_le _, rfl, rfl, rfl, Below.refl _ _⟩
  case round =>
    obtain ⟨i, f, hi, rfl, rfl, hf, hb⟩ := hrel
    have HF := Bas.hid hf
    have HB := Bas.hid hb
    clear hf hb
    by_cases hin : i < rlen
    · have e1 : decide ((i : Int) < (rlen : Int)) = true := by simp; omega
      have e2 : decide (i < rlen) = true := by simp; omega
      obtain ⟨s, hs⟩ : ∃ s, rules[i]? = some s := ⟨_, List.getElem?_eq_getElem (by rw [HN.out]; exact hin)⟩
      have hTK : rules.take (i + 1) = rules.take i ++ [s] := by rw [List.take_add_one, hs]; rfl
      have hsw := HW.out _ (List.mem_of_getElem? hs)
      obtain ⟨x, y, en, dis⟩ := s
      obtain ⟨B, Of, cp0, hv0, hcl⟩ := Row.leads_elem ruC_len HL.out hs (by omega)
      cases hv0
      have h0 := hcl 0 _ rfl
      have h1 := hcl 1 _ rfl
      have h2 := hcl 2 _ rfl
      have h3 := hcl 3 _ rfl
      simp only [Nat.add_zero] at h0
      have lb : B < w.heap.size := World.block_lt_of_cell? _ _ h0
      have lbr : B < wr.heap.size := Nat.lt_of_lt_of_le lb HB.out.size
      have c0 := (HB.out.cell (p := ⟨B, Of + i * 4, none⟩) lb).trans h0
      have c1 := (HB.out.cell (p := ⟨B, Of + i * 4 + 1, none⟩) lb).trans h1
      have c2 := (HB.out.cell (p := ⟨B, Of + i * 4 + 2, none⟩) lb).trans h2
      have c3 := (HB.out.cell (p := ⟨B, Of + i * 4 + 3, none⟩) lb).trans h3
      have hsn := flagsL_snoc (refOn fs l) first (rules.take i) ⟨x, y, en, dis⟩
      rw [← hTK, HF.out] at hsn
      simp only [stepF] at hsn
      have HOX := Bas.hid (fun w' hb => HON.out x y hsw w' hb)
      obtain ⟨ob, hob⟩ : ∃ ob, refOn fs l (x, y) = ob := ⟨_, rfl⟩
      rw [hob] at hsn HOX
      clear hs hcl h0 h1 h2 h3 hTK hob hsw
      have HSN := Bas.hid hsn
      clear hsn
      go_wp2_with (fail)
      refine' Pl.region_v0 44 [] [0, 1, 2, 3, 4, 5, 6, 7, 8, 9, 10, 11, 12, 13] [] _ (by kernel_rfl) (by kernel_rfl) (by simp) (fun _ _ _ _ e h => ⟨e ▸ h.1, h.2⟩) ?_ ?_
      rotate_left
      · intro I F hI hF
        simp only [Pl.selN, List.nil_append, List.drop_succ_cons, List.drop_zero]
        have x0 := fun q => hF.cell lbr c0 q
        have x1 := fun q => hF.cell lbr c1 q
        repeat (go_big_quiet_step ((go_at_call 18; with_reducible exact hF.call (HOX.out _ (hF.on HB.out _)))))
        refine wpQuiet_nil ?_
        rfl
      intro w2 hw2
      simp only [Pl.selN]
      have HB2 := Bas.hid (HB.out.trans (hw2.mono HB.out.size))
      have m2 := (hw2.cell (p := ⟨B, Of + i * 4 + 2, none⟩) lbr).trans c2
      have m3 := (hw2.cell (p := ⟨B, Of + i * 4 + 3, none⟩) lbr).trans c3
      have lbr2 : B < w2.heap.size := Nat.lt_of_lt_of_le lbr hw2.size
      clear hw2 c0 c1 c2 c3 HB HOX
      cases ob with
      | false =>
        simp only [if_false, Bool.false_eq_true] at HSN
        go_wp2_with (fail)
        go_roundw
        case rel => exact ⟨i + 1, f, by omega, rfl, by go_num, HSN.out, HB2.out⟩
        case measure => simp [intOf]; omega
      | true =>
        simp only [if_true] at HSN
        go_wp2_with (fail)
        refine' Pl.region_v0 44 [] [0, 1, 2, 3, 4, 5, 6, 7, 8, 9, 10, 11, 12] [13] _ (by kernel_rfl) (by kernel_rfl) (by simp) (fun _ _ _ _ e h => ⟨e ▸ h.1, h.2⟩) ?_ ?_
        rotate_left
        · intro I F hI hF
          simp only [Pl.selN, List.nil_append, List.drop_succ_cons, List.drop_zero]
          have x0 := fun q => hF.cell lbr2 m2 q
          have x1 := fun q => hF.cell lbr2 m3 q
          repeat (go_big_quiet_step (fail))
          refine wpQuiet_nil ?_
          rfl
        intro w3 hw3
        simp only [Pl.selN, List.drop_succ_cons, List.drop_zero]
        have HB3 := Bas.hid (HB2.out.trans (hw3.mono HB2.out.size))
        clear hw3 m2 m3 HB2
        go_wp2_with (fail)
        go_roundw
        case rel => exact ⟨i + 1, _, by omega, rfl, by go_num, HSN.out, HB3.out⟩
        case measure => simp [intOf]; omega
    · have hin2 : i = rlen := by omega
      subst hin2
      have hlt : rules.take i = rules := List.take_of_length_le (by rw [HN.out]; exact Nat.le_refl _)
      rw [hlt] at HF
      clear hlt
      go_wp2_with (fail)
      go_ret
      exact ⟨by rw [← HRE.out, HF.out]; first | done | rfl, HB.out⟩
end Pk
end Go.Proofs.Ytdmhenlfhbigbaa
