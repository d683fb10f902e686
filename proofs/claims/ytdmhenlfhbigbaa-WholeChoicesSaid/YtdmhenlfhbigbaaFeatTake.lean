/- Layer 8 (feat): take. -/
import Derived.Test.YtdmhenlfhbigbaaFeatOne
namespace Go.Proofs.Ytdmhenlfhbigbaa
open Go.RowKit
namespace Ft
open Vw Ch

def rowAt (bs : List Int) (i : Nat) : List Int := (bs.drop (12 + 12 * i)).take 12

/-- May this type stand behind that one? -/
def risesB (prev : Option Int) (t : Int) : Bool := match prev with
  | none => true
  | some p => decide (p < t)

/-- The features from the i-th row on, of rising types. -/
def featsAt (bs : List Int) : Nat → Nat → Option Int → Option (List FeatD)
  | 0, _, _ => some []
  | k + 1, i, prev => (parseF bs (rowAt bs i)).bind fun f => if risesB prev f.type = true then (featsAt bs k (i + 1) (some f.type)).map (f :: ·) else none

def parseFs (bs : List Int) : Option (List FeatD) :=
  if 12 ≤ bs.length ∧ be bs 0 4 = 65536 ∧ 12 + 12 * (be bs 4 2).toNat ≤ bs.length then featsAt bs (be bs 4 2).toNat 0 none else none

def lastT (fs : List FeatD) : Option Int := fs.getLast?.map FeatD.type
theorem lastT_snoc (fs : List FeatD) (f : FeatD) : lastT (fs ++ [f]) = some f.type := by simp [lastT]

def fC (x : FeatD × Value) : List Value := [.int .i64 x.1.type, .bool x.1.excl, .int .i64 x.1.dflt, x.2]
theorem fC_len (x : FeatD × Value) : (fC x).length = 4 := rfl

/-- A row of features of the call's own. -/
structure FRow (w : World) (base : Nat) (v : Value) (fs : List FeatD) (ss : List Value) : Prop where
  len : ss.length = fs.length
  own : w.ownsRow base 78 4 v fs.length ((fs.zip ss).flatMap fC)
  sets : ∀ (i : Nat) (f : FeatD) (s : Value), fs[i]? = some f → ss[i]? = some s → w.ownsRow base 3 1 s f.sets.length (f.sets.map (Value.int .i64))

theorem fRow_nil (w : World) (base : Nat) : FRow w base (.slice none 0 0) [] [] := ⟨rfl, Row.owned_nil _ _ _ _, fun i f s h => by simp at h⟩

theorem fRow_snoc {w w' : World} {base : Nat} {v v' : Value} {fs : List FeatD} {ss : List Value} {f : FeatD} {s : Value} (h : FRow w base v fs ss)
    (hown : w'.ownsRow base 78 4 v' (fs.length + 1) ((fs.zip ss).flatMap fC ++ [.int .i64 f.type, .bool f.excl, .int .i64 f.dflt, s]))
    (hk : ∀ (e : TypeId) (size n : Nat) (u : Value) (xs : List Value), e ≠ 78 → w.ownsRow base e size u n xs → w'.ownsRow base e size u n xs)
    (h1 : w'.ownsRow base 3 1 s f.sets.length (f.sets.map (Value.int .i64))) : FRow w' base v' (fs ++ [f]) (ss ++ [s]) := by
  refine ⟨by simp [h.len], ?_, fun i f' s' hf hs => ?_⟩
  · rw [List.length_append, List.zip_append h.len.symm, List.flatMap_append]
    simpa [fC] using hown
  · by_cases hi : i < fs.length
    · rw [List.getElem?_append_left hi] at hf
      rw [List.getElem?_append_left (by rw [h.len]; exact hi)] at hs
      exact hk _ _ _ _ _ (by decide) (h.sets i f' s' hf hs)
    · have hi2 : i = fs.length := by
        have := (List.getElem?_eq_some_iff.1 hf).1
        simp at this; omega
      subst hi2
      rw [List.getElem?_append_right (by omega)] at hf
      rw [List.getElem?_append_right (by have := h.len; omega)] at hs
      simp [h.len] at hf hs
      subst hf hs
      exact h1

theorem fRow_below {w w' : World} {base : Nat} {v : Value} {fs : List FeatD} {ss : List Value} (h : FRow w base v fs ss) (hb : Below w.heap.size w w') : FRow w' base v fs ss :=
  ⟨h.len, Row.owned_below h.own hb, fun i f s hf hs => Row.owned_below (h.sets i f s hf hs) hb⟩
theorem fRow_keep {w w' : World} {base : Nat} {v : Value} {fs : List FeatD} {ss : List Value} (h : FRow w base v fs ss) (hk : ∀ g, base ≤ g → g < w.heap.size → w'.heap[g]? = w.heap[g]?) : FRow w' base v fs ss :=
  have k : ∀ {e : TypeId} {size n : Nat} {u : Value} {xs : List Value}, w.ownsRow base e size u n xs → w'.ownsRow base e size u n xs := fun h => Row.owned_keep h fun g hg => hk g (Row.own_block h hg).1 (Row.own_block h hg).2
  ⟨h.len, k h.own, fun i f s hf hs => k (h.sets i f s hf hs)⟩
theorem fRow_base {w : World} {base base' : Nat} {v : Value} {fs : List FeatD} {ss : List Value} (h : FRow w base v fs ss) (hb : base' ≤ base) : FRow w base' v fs ss :=
  ⟨h.len, Row.owned_base h.own hb, fun i f s hf hs => Row.owned_base (h.sets i f s hf hs) hb⟩

def FTakeP (w : World) (bs : List Int) (e : Ending) (w' : World) : Prop :=
  Below w.heap.size w w' ∧ match parseFs bs with
    | none => e = .panicked short
    | some fs => ∃ v ss, e = .returned v ∧ FRow w' w.heap.size v fs ss

theorem infoFt : (Try.prog.info? 78).map (fun i => (i.zero, i.size, i.bytes)) = some (some (.agg #[.int .i64 0, .bool false, .int .i64 0, .slice none 0 0]), 4, 48) := by kernel_rfl

set_option maxRecDepth 100000 in
set_option maxHeartbeats 8000000 in
theorem ftake_main (a : Option Addr) (len cap : Nat) (bs : List Int) (n : Nat) (w : World) (hl : len ≤ cap) (hc : cap ≤ maxLen) (hv : VB w a bs) (hbl : bs.length = len) (hsmall : len ≤ 1000000000)
    (h12 : 12 ≤ len) (hk : be bs 0 4 = 65536) (hn : be bs 4 2 = n) (hrow : 12 + 12 * n ≤ len) :
    Calls Try.prog 29 #[.agg #[.slice a len cap]] w (FTakeP w bs) := by
  have hrB : rowsB len 12 n 12 := ⟨by omega, by omega, .inr (by omega), by omega, by omega⟩
  have U1 := fun (w' : World) (hb : Below w.heap.size w w') => u32_ok a len cap bs 0 w' hl hc (hv.below hb) hbl (by omega) (by omega)
  have U2 := fun (w' : World) (hb : Below w.heap.size w w') => u16_ok a len cap bs 4 w' hl hc (hv.below hb) hbl (by omega) (by omega)
  simp only [show Int.toNat 0 = 0 from rfl, show Int.toNat 4 = 4 from rfl] at U1 U2
  have hnb := be2_bd bs hv.byte 4 (by omega)
  rw [hk] at U1
  rw [hn] at U2 hnb
  have HPA : Hid (parseFs bs = featsAt bs n 0 none) := by
    unfold Hid parseFs
    rw [hn, Int.toNat_natCast, if_pos ⟨by omega, hk, by omega⟩]
  have HU1 := Bas.hid U1
  have HU2 := Bas.hid U2
  have HV := Bas.hid hv
  obtain ⟨n0, n1⟩ := hnb
  clear U1 U2 hv hk hn
  go_enter Try.func29, Try.ntmps29
  go_wp2_with (fail)
  have k1 := Bas.heap_new w (.cells #[.slice a len cap] 70)
  have HB1 := Bas.hid ((Below.refl w.heap.size w).alloc (Nat.le_refl _) (.cells #[.slice a len cap] 70))
  generalize w.alloc (.cells #[.slice a len cap] 70) = W1 at *
  refine (HU1.out _ HB1.out).mono ?_
  rintro e w2 ⟨rfl, hb2⟩
  have k2 := (hb2.block _ (heap_lt k1)).trans k1
  have HB2 := Bas.hid (HB1.out.trans (hb2.mono HB1.out.size))
  have c2 := cell_of_heap (i := 0) (v := .slice a len cap) k2 rfl
  clear hb2 k1 HB1 HU1
  go_wp2_with (go_at_call 42; refine (need_yesb _ _ (by first | rfl | (simp; done) | (simp; omega))).mono ?_; rintro e w' ⟨rfl, rfl⟩)
  refine (HU2.out _ HB2.out).mono ?_
  rintro e w3 ⟨rfl, hb3⟩
  have k3 := (hb3.block _ (heap_lt k2)).trans k2
  have HB3 := Bas.hid (HB2.out.trans (hb3.mono HB2.out.size))
  have c3 := cell_of_heap (i := 0) (v := .slice a len cap) k3 rfl
  have e12 : ((n : Int) * 12).toNat = n * 12 := by omega
  have R := rows_ok a len cap 12 n 12 w3 hl hc hrB
  simp only [show Int.toNat 12 = 12 from rfl, e12] at R
  have HR := Bas.hid R
  clear hb3 k2 c2 HB2 HU2 R e12
  go_wp2_with (fail)
  refine HR.out.mono ?_
  rintro e w4 ⟨rfl, hb4⟩
  have k4 := (hb4.block _ (heap_lt k3)).trans k3
  have HB4 := Bas.hid (HB3.out.trans (hb4.mono HB3.out.size))
  have hAl : ((bs.drop 12).take (n * 12)).length = n * 12 := by rw [List.length_take, List.length_drop]; omega
  have hVS := fun w' (hb : Below w.heap.size w w') => (HV.out.below hb).sub 12 (n * 12) (by omega)
  have HVS := Bas.hid hVS
  have HAL := Bas.hid hAl
  generalize sub a 12 (n * 12) = S at *
  clear hb4 k3 c3 HB3 HR hVS hAl
  go_wp2_with (fail)
  have k5 := (Below.heap_alloc w4 (.cells #[.slice S (n * 12) (n * 12)] 70) _ (heap_lt k4)).trans k4
  have m5 := Bas.heap_new w4 (.cells #[.slice S (n * 12) (n * 12)] 70)
  have HB5 := Bas.hid (HB4.out.alloc HB4.out.size (.cells #[.slice S (n * 12) (n * 12)] 70))
  have hlt5 : w.heap.size < w4.heap.size := heap_lt k4
  generalize w4.alloc (.cells #[.slice S (n * 12) (n * 12)] 70) = W5 at *
  generalize w4.heap.size = T4 at m5 hlt5 ⊢
  clear k4 HB4
  go_loopw [5, 6, 7, 18] (fun xo _ _ vi wr => ∃ (i : Nat) (vo : Value) (fs : List FeatD) (ss : List Value), i ≤ n ∧ vi = .int .i64 i ∧ vo = xo ∧ fs.length = i ∧ featsAt bs n 0 none = (featsAt bs (n - i) i (lastT fs)).map (fun l => fs ++ l) ∧
    FRow wr w.heap.size vo fs ss ∧ Below w.heap.size w wr ∧ wr.heap[w.heap.size]? = some (.cells #[.slice a len cap] 70 (0, 0)) ∧ wr.heap[T4]? = some (.cells #[.slice S (n * 12) (n * 12)] 70 (0, 0))) (fun _ _ _ vi _ => n - (intOf vi).toNat)
  case atStart => exact ⟨0, _, [], [], Nat.zero_le _, rfl, rfl, rfl, by simp [lastT], fRow_nil _ _, HB5.out, k5, m5⟩
  case round =>
    obtain ⟨i, vo, fs, ss, hi, rfl, hvo, hfl, hsub, hrow, hb, o1, o4⟩ := hrel
    rw [← hvo]
    clear hvo
    obtain ⟨ado, cpo, rfl⟩ := own_slice hrow.own
    have HSUB := Bas.hid hsub
    have HFL := Bas.hid hfl
    have HFR := Bas.hid hrow
    have HB := Bas.hid hb
    rw [hfl]
    clear hsub hfl hrow hb k5 m5
    by_cases hin : i < n
    · have hmn : n * 12 ≤ maxLen := by unfold maxLen; omega
      have C := fun w' => cut_nat S (n * 12) (n * 12) (12 * i) 12 w' (Nat.le_refl _) hmn (by omega)
      have e12 : ((12 * i : Nat) : Int) = (12 : Int) * (i : Int) := by omega
      rw [e12] at C
      have HC := Bas.hid C
      have hRV := fun w' hb => (HVS.out w' hb).sub (12 * i) 12 (by rw [HAL.out]; omega)
      have hrb : (((bs.drop 12).take (n * 12)).drop (12 * i)).take 12 = rowAt bs i := by
        unfold rowAt
        rw [List.drop_take, List.take_take, List.drop_drop, Nat.min_eq_left (by omega)]
      simp only [hrb] at hRV
      have hrbl : (rowAt bs i).length = 12 := by unfold rowAt; rw [List.length_take, List.length_drop]; omega
      have HRV := Bas.hid hRV
      have HRBL := Bas.hid hrbl
      generalize sub S (12 * i) 12 = A at *
      have ONE := fun (w' : World) (hb : Below w.heap.size w w') => (by
        have hr := HRV.out w' hb
        have h1 := be2_bd _ hr.byte 2 (by rw [HRBL.out]; omega)
        have h2 := be4_bd _ hr.byte 4 (by rw [HRBL.out]; omega)
        exact fone_any _ a len cap bs A (rowAt bs i) (be (rowAt bs i) 2 2).toNat (be (rowAt bs i) 4 4).toNat _ w' hl hc (HV.out.below hb) hbl hsmall hr HRBL.out (by omega) (by omega) rfl rfl : Calls Try.prog 46 #[.agg #[.slice a len cap], .agg #[.slice A 12 12]] w' (FOnePost w' bs (rowAt bs i)))
      have HONE := Bas.hid ONE
      clear C e12 hRV hrb hrbl ONE hmn
      go_wp2_with (fail)
      cases hpf : parseF bs (rowAt bs i) with
      | none =>
        have HNO : Hid (parseFs bs = none) := by
          unfold Hid
          rw [HPA.out, HSUB.out, show n - i = (n - i - 1) + 1 by omega, featsAt, hpf]
          rfl
        have HPF := Bas.hid hpf
        clear hpf
        refine' Pl.region_vh 47 [] [0, 1, 2, 3, 4] [(6, 7)] 5 26 [7] _ (fun ch w' => ch = short ∧ Below w.heap.size w w') (by kernel_rfl) (by kernel_rfl) (by kernel_rfl) (by simp) (fun _ _ _ _ e h => ⟨e ▸ h.1, h.2⟩) ?_ ?_ ?_ ?_
        rotate_left
        · intro I F hI hF
          simp only [Pl.selN, List.nil_append, List.drop_succ_cons, List.drop_zero]
          have x1 := fun q => hF.cell (heap_lt o1) (cell_of_heap (i := 0) (v := .slice a len cap) o1 rfl) q
          have x2 := fun q => hF.cell (heap_lt o4) (cell_of_heap (i := 0) (v := .slice S (n * 12) (n * 12)) o4 rfl) q
          repeat (go_big_quiet_step ((go_at_call 47; with_reducible exact hF.call (HC.out _))))
          refine wpQuiet_nil ?_
          rfl
        · simp only [Pl.selN, List.drop_succ_cons, List.drop_zero, List.mem_singleton, forall_eq]
          intro u hu
          go_simp
          simp only [Pl.valsAt]
          have hbu := HB.out.trans (hu.mono HB.out.size)
          refine (HONE.out _ hbu).mono ?_
          rintro e w'' ⟨hb, he⟩
          rw [HPF.out] at he
          exact .inr ⟨short, he, rfl, hbu.trans (hb.mono hbu.size)⟩
        · intro x hx
          simp only [List.mem_singleton] at hx
          subst hx
          simp only [Pl.selN, List.drop_succ_cons, List.drop_zero, List.mem_singleton, forall_eq]
          intro u hu
          go_simp
          simp only [Pl.valsAt]
          exact (Below.refl _ _).alloc (Nat.le_refl _) _
        · rintro c a' u hd ⟨rfl, hb⟩
          exact ⟨hd, hb, by rw [HNO.out]⟩
      | some f =>
        have HPF := Bas.hid hpf
        clear hpf
        refine' Pl.region_v2 47 [] [0, 1, 2, 3, 4] 5 26 6 7 [7] _ (fun v u => ∃ vs, v = .agg #[.int .i64 f.type, .bool f.excl, .int .i64 f.dflt, vs] ∧ u.ownsRow w.heap.size 3 1 vs f.sets.length (f.sets.map (Value.int .i64))) (fun v u => ∃ g, v = .pointer (some ⟨g, 0, none⟩) ∧ wr.heap.size ≤ g ∧ u.heap[g]? = some (.cells #[.int .i64 0, .bool false, .int .i64 0, .slice none 0 0] 78 (0, 0)))
          (by kernel_rfl) (by decide) (by kernel_rfl) (by simp) (fun _ _ _ _ e h => ⟨e ▸ h.1, h.2⟩) ?_ ?_ ?_ ?_ ?_ ?_
        rotate_left
        · intro I F hI hF
          simp only [Pl.selN, List.nil_append, List.drop_succ_cons, List.drop_zero]
          have x1 := fun q => hF.cell (heap_lt o1) (cell_of_heap (i := 0) (v := .slice a len cap) o1 rfl) q
          have x2 := fun q => hF.cell (heap_lt o4) (cell_of_heap (i := 0) (v := .slice S (n * 12) (n * 12)) o4 rfl) q
          repeat (go_big_quiet_step ((go_at_call 47; with_reducible exact hF.call (HC.out _))))
          refine wpQuiet_nil ?_
          rfl
        · rintro v x x' ⟨vs, h1, h2⟩ hx hx'
          exact ⟨vs, h1, Row.owned_below h2 hx'⟩
        · rintro v x x' ⟨g, h1, h2, h3⟩ hx hx'
          exact ⟨g, h1, h2, (hx'.block g (heap_lt h3)).trans h3⟩
        · simp only [Pl.selN, List.drop_succ_cons, List.drop_zero, List.mem_singleton, forall_eq]
          intro u hu
          go_simp
          simp only [Pl.valsAt]
          have hbu := HB.out.trans (hu.mono HB.out.size)
          refine (HONE.out _ hbu).mono ?_
          rintro e w'' ⟨hb, he⟩
          rw [HPF.out] at he
          obtain ⟨vs, he, hown⟩ := he
          exact .inl ⟨_, he, hb, vs, rfl, Row.owned_base hown hbu.size⟩
        · simp only [Pl.selN, List.drop_succ_cons, List.drop_zero, List.mem_singleton, forall_eq]
          intro u hu
          go_simp
          simp only [Pl.valsAt]
          exact ⟨(Below.refl _ _).alloc (Nat.le_refl _) _, _, rfl, hu.size, Bas.heap_new _ _⟩
        · intro v1 v2 u hu hv1 hv2
          obtain ⟨vs, rfl, hs⟩ := hv1
          obtain ⟨T7, rfl, hT7, m7⟩ := hv2
          obtain ⟨ads, cps, rfl⟩ := own_slice hs
          simp only [Pl.selN, List.drop_succ_cons, List.drop_zero, Act.put, List.setIfInBounds_toArray, List.set_cons_zero, List.set_cons_succ]
          have c70 := cell_of_heap (i := 0) (v := .int .i64 0) m7 rfl
          have c71 := cell_of_heap (i := 1) (v := .bool false) m7 rfl
          have c72 := cell_of_heap (i := 2) (v := .int .i64 0) m7 rfl
          have c73 := cell_of_heap (i := 3) (v := .slice none 0 0) m7 rfl
          have f70 := free_of_heap (i := 0) m7
          have f71 := free_of_heap (i := 1) m7
          have f72 := free_of_heap (i := 2) m7
          have f73 := free_of_heap (i := 3) m7
          go_wp2_with (fail)
          clear c70 c71 c72 c73 f70 f71 f72 f73
          have q0 := heap_set (i := 0) m7 (.int .i64 f.type)
          have q1 := heap_set (i := 1) q0 (.bool f.excl)
          have q2 := heap_set (i := 2) q1 (.int .i64 f.dflt)
          have q3 := heap_set (i := 3) q2 (.slice ads f.sets.length cps)
          have hkp : ∀ g, g ≠ T7 → ((((u.setCell ⟨T7, 0, none⟩ (.int .i64 f.type)).setCell ⟨T7, 1, none⟩ (.bool f.excl)).setCell ⟨T7, 2, none⟩ (.int .i64 f.dflt)).setCell ⟨T7, 3, none⟩ (.slice ads f.sets.length cps)).heap[g]? = u.heap[g]? := fun g hg => (Below.heap_setCell _ _ _ _ hg).trans ((Below.heap_setCell _ _ _ _ hg).trans ((Below.heap_setCell _ _ _ _ hg).trans (Below.heap_setCell _ _ _ _ hg)))
          have hbw := hu
          have hwT : w.heap.size ≤ T7 := Nat.le_trans HB.out.size hT7
          have HB6 := Bas.hid ((((( (HB.out.trans (hu.mono HB.out.size)).setCell (p := ⟨T7, 0, none⟩) hwT (.int .i64 f.type)).setCell (p := ⟨T7, 1, none⟩) hwT (.bool f.excl)).setCell (p := ⟨T7, 2, none⟩) hwT (.int .i64 f.dflt)).setCell (p := ⟨T7, 3, none⟩) hwT (.slice ads f.sets.length cps)))
          have FR6 := Bas.hid (fRow_keep HFR.out fun g _ hg => (hkp g (by omega)).trans (hu.block g hg))
          have HS6 := Bas.hid (Row.owned_keep hs fun g' hg' => hkp g' (fun e => own_ty hs m7 (by decide) (by rw [hg', e])))
          have p1 := (hkp _ (by have := heap_lt o1; omega)).trans ((hu.block _ (heap_lt o1)).trans o1)
          have p4 := (hkp _ (by have := heap_lt o4; omega)).trans ((hu.block _ (heap_lt o4)).trans o4)
          generalize (((u.setCell ⟨T7, 0, none⟩ (.int .i64 f.type)).setCell ⟨T7, 1, none⟩ (.bool f.excl)).setCell ⟨T7, 2, none⟩ (.int .i64 f.dflt)).setCell ⟨T7, 3, none⟩ (.slice ads f.sets.length cps) = W6 at *
          have m6 : W6.heap[T7]? = some (.cells #[.int .i64 f.type, .bool f.excl, .int .i64 f.dflt, .slice ads f.sets.length cps] 78 (0, 0)) := q3
          have HSTEP : Hid (featsAt bs (n - i) i (lastT fs) = if risesB (lastT fs) f.type = true then (featsAt bs (n - (i + 1)) (i + 1) (some f.type)).map (f :: ·) else none) := by
            unfold Hid
            rw [show n - i = (n - (i + 1)) + 1 by omega, featsAt, HPF.out]
            rfl
          clear q0 q1 q2 q3 hkp hbw hu hs m7 o1 o4 HONE HC HRV
          rcases Nat.eq_zero_or_pos i with hi0 | hi0
          · subst hi0
            have hfs : fs = [] := List.length_eq_zero_iff.1 HFL.out
            have HR0 : Hid (risesB (lastT fs) f.type = true) := by unfold Hid; rw [hfs]; rfl
            clear hfs
            have ei : (0 : Int) = ((0 : Nat) : Int) := rfl
            clear ei
            refine' Pl.region_v0 47 [] [0, 1, 2, 3, 4, 5, 6, 7, 8, 9, 10, 11, 12, 13] [] _ (by kernel_rfl) (by kernel_rfl) (by simp) (fun _ _ _ _ e h => ⟨e ▸ h.1, h.2⟩) ?_ ?_
            rotate_left
            · intro I F hI hF
              simp only [Pl.selN, List.nil_append, List.drop_succ_cons, List.drop_zero]
              repeat (go_big_quiet_step ((go_at_call 42; exact hF.same (need_yesb _ _ (by first | rfl | (simp; done) | (simp; omega))))))
              refine wpQuiet_nil ?_
              rfl
            intro u3 hu3
            simp only [Pl.selN]
            have r1 := (hu3.block _ (heap_lt p1)).trans p1
            have r4 := (hu3.block _ (heap_lt p4)).trans p4
            have r7 := (hu3.block _ (heap_lt m6)).trans m6
            have HB7 := Bas.hid (HB6.out.trans (hu3.mono HB6.out.size))
            have FR7 := Bas.hid (fRow_below FR6.out hu3)
            have HS7 := Bas.hid (Row.owned_below HS6.out hu3)
            have b0 := cell_of_heap (i := 0) (v := .int .i64 f.type) r7 rfl
            have b1 := cell_of_heap (i := 1) (v := .bool f.excl) r7 rfl
            have b2 := cell_of_heap (i := 2) (v := .int .i64 f.dflt) r7 rfl
            have b3 := cell_of_heap (i := 3) (v := .slice ads f.sets.length cps) r7 rfl
            clear hu3 p1 p4 m6 HB6 FR6 HS6
            go_wp2_with (at_builtin; refine Row.fence ?_)
            refine Row.unfence ?_
            have s1 := (Below.heap_alloc u3 (.cells #[.int .i64 f.type, .bool f.excl, .int .i64 f.dflt, .slice ads f.sets.length cps] 78) _ (heap_lt r1)).trans r1
            have s4 := (Below.heap_alloc u3 (.cells #[.int .i64 f.type, .bool f.excl, .int .i64 f.dflt, .slice ads f.sets.length cps] 78) _ (heap_lt r4)).trans r4
            have k9 := Bas.heap_new u3 (.cells #[.int .i64 f.type, .bool f.excl, .int .i64 f.dflt, .slice ads f.sets.length cps] 78)
            have hb9 := (Below.refl u3.heap.size u3).alloc (Nat.le_refl _) (.cells #[.int .i64 f.type, .bool f.excl, .int .i64 f.dflt, .slice ads f.sets.length cps] 78)
            have HB9 := Bas.hid (HB7.out.trans (hb9.mono HB7.out.size))
            have FR9 := Bas.hid (fRow_below FR7.out hb9)
            have HS9 := Bas.hid (Row.owned_below HS7.out hb9)
            generalize u3.alloc (.cells #[.int .i64 f.type, .bool f.excl, .int .i64 f.dflt, .slice ads f.sets.length cps] 78) = W9 at *
            clear hb9 r1 r4 r7 b0 b1 b2 b3 HB7 FR7 HS7
            have hkb : fs.length ≤ 65535 := by rw [HFL.out]; omega
            have hvo1 := own_ty FR9.out.own s1 (by decide)
            have hvo4 := own_ty FR9.out.own s4 (by decide)
            have hfo := FR9.out.own
            rw [HFL.out] at hfo
            refine (Row.append_any rfl _ _ 33 78 rfl (.agg #[.int .i64 0, .bool false, .int .i64 0, .slice none 0 0]) 4 48 Try.underlying33 infoFt rfl (by decide) w.heap.size (.slice ado 0 cpo) 0 _ rfl hfo (.slice (some ⟨u3.heap.size, 0, none⟩) 1 1) 1 [.int .i64 f.type, .bool f.excl, .int .i64 f.dflt, .slice ads f.sets.length cps] rfl (leads_heap k9) rfl (by simp; exact ⟨rfl, rfl, rfl, rfl⟩) (by unfold maxLen; omega) (by omega) HB9.out.size ?_)
            intro v' w10 hown10 hg10 _
            obtain ⟨ad10, cp10, rfl⟩ := own_slice hown10
            have HK := Bas.hid fun (e : TypeId) (size n : Nat) (u : Value) (xs : List Value) (he : e ≠ 78) (ho : W9.ownsRow w.heap.size e size u n xs) => Row.owned_keep ho fun g' hg' => hg10.block g' (Row.own_block ho hg').2 (fun e' => own_rows_ne FR9.out.own ho (fun h => he h.symm) (by rw [HFL.out]; exact e'.symm) hg')
            have z1 := (hg10.block _ (heap_lt s1) (fun e => hvo1 (by rw [HFL.out]; exact e.symm))).trans s1
            have z4 := (hg10.block _ (heap_lt s4) (fun e => hvo4 (by rw [HFL.out]; exact e.symm))).trans s4
            have HCN := Bas.hid (fRow_snoc (f := f) FR9.out (by rw [HFL.out]; exact hown10) HK.out (HK.out _ _ _ _ _ (by decide) HS9.out))
            have HB10 := Bas.hid (HB9.out.grown hg10 HB9.out.size (fun g' hg' => (Row.own_block FR9.out.own (by rw [HFL.out]; exact hg')).1))
            clear hown10 hg10 s1 s4 k9 hvo1 hvo4 hfo HB9 FR9 HS9 HK
            go_wp2_with (fail)
            go_roundw
            case rel => exact ⟨0 + 1, _, fs ++ [f], ss ++ [.slice ads f.sets.length cps], by omega, by go_num, rfl, by rw [List.length_append, HFL.out]; rfl, by
              rw [HSUB.out, HSTEP.out, if_pos HR0.out, lastT_snoc]; simp [Option.map_map, Function.comp_def], HCN.out, HB10.out, z1, z4⟩
            case measure => simp [intOf]; omega
          · obtain ⟨j, hj⟩ : ∃ j, i = j + 1 := ⟨i - 1, by omega⟩
            have e5 : (i : Int) - 1 = (j : Int) := by omega
            have hne : ((i : Int) == 0) = false := by simp; omega
            have hji : j < i := by omega
            obtain ⟨p, hp⟩ : ∃ p, fs[j]? = some p := ⟨_, List.getElem?_eq_getElem (by rw [HFL.out]; exact hji)⟩
            obtain ⟨sp, hsp⟩ : ∃ sp, ss[j]? = some sp := ⟨_, List.getElem?_eq_getElem (by rw [FR6.out.len, HFL.out]; exact hji)⟩
            have hz : (fs.zip ss)[j]? = some (p, sp) := List.getElem?_zip_eq_some.2 ⟨hp, hsp⟩
            obtain ⟨G, C, hvG, -, hGl, -, hcl⟩ := Row.elem_cells fC_len FR6.out.own hz (by omega) (by rw [List.length_zip, FR6.out.len, Nat.min_self])
            have cG : W6.cell? ⟨G, j * 4, none⟩ = some (.int .i64 p.type) := hcl 0 _ rfl
            rw [HFL.out] at hvG
            cases hvG
            have hlast : lastT fs = some p.type := by
              unfold lastT
              rw [List.getLast?_eq_getElem?, HFL.out, show i - 1 = j by omega, hp]; rfl
            have HLT := Bas.hid hlast
            have HJ := Bas.hid hj
            obtain ⟨pt, hpt⟩ : ∃ pt, pt = p.type := ⟨_, rfl⟩
            rw [← hpt] at cG HLT
            clear hj hp hsp hz hcl hlast hpt
            by_cases hlt : pt < f.type
            · have dlt : decide (pt < f.type) = true := by simpa using hlt
              have HR1 : Hid (risesB (lastT fs) f.type = true) := by unfold Hid; rw [HLT.out]; exact dlt
              refine' Pl.region_v0 47 [] [0, 1, 2, 3, 4, 5, 6, 7, 8, 9, 10, 11, 12, 13] [] _ (by kernel_rfl) (by kernel_rfl) (by simp) (fun _ _ _ _ e h => ⟨e ▸ h.1, h.2⟩) ?_ ?_
              rotate_left
              · intro I F hI hF
                simp only [Pl.selN, List.nil_append, List.drop_succ_cons, List.drop_zero]
                have x1 := fun q => hF.cell (heap_lt m6) (cell_of_heap (i := 0) (v := .int .i64 f.type) m6 rfl) q
                have x2 := fun q => hF.cell hGl cG q
                repeat (go_big_quiet_step ((go_at_call 42; exact hF.same (need_yesb _ _ (by first | rfl | (simp; done) | (simp; omega))))))
                refine wpQuiet_nil ?_
                rfl
              intro u3 hu3
              simp only [Pl.selN]
              have r1 := (hu3.block _ (heap_lt p1)).trans p1
              have r4 := (hu3.block _ (heap_lt p4)).trans p4
              have r7 := (hu3.block _ (heap_lt m6)).trans m6
              have HB7 := Bas.hid (HB6.out.trans (hu3.mono HB6.out.size))
              have FR7 := Bas.hid (fRow_below FR6.out hu3)
              have HS7 := Bas.hid (Row.owned_below HS6.out hu3)
              have b0 := cell_of_heap (i := 0) (v := .int .i64 f.type) r7 rfl
              have b1 := cell_of_heap (i := 1) (v := .bool f.excl) r7 rfl
              have b2 := cell_of_heap (i := 2) (v := .int .i64 f.dflt) r7 rfl
              have b3 := cell_of_heap (i := 3) (v := .slice ads f.sets.length cps) r7 rfl
              clear hu3 p1 p4 m6 HB6 FR6 HS6
              go_wp2_with (at_builtin; refine Row.fence ?_)
              refine Row.unfence ?_
              have s1 := (Below.heap_alloc u3 (.cells #[.int .i64 f.type, .bool f.excl, .int .i64 f.dflt, .slice ads f.sets.length cps] 78) _ (heap_lt r1)).trans r1
              have s4 := (Below.heap_alloc u3 (.cells #[.int .i64 f.type, .bool f.excl, .int .i64 f.dflt, .slice ads f.sets.length cps] 78) _ (heap_lt r4)).trans r4
              have k9 := Bas.heap_new u3 (.cells #[.int .i64 f.type, .bool f.excl, .int .i64 f.dflt, .slice ads f.sets.length cps] 78)
              have hb9 := (Below.refl u3.heap.size u3).alloc (Nat.le_refl _) (.cells #[.int .i64 f.type, .bool f.excl, .int .i64 f.dflt, .slice ads f.sets.length cps] 78)
              have HB9 := Bas.hid (HB7.out.trans (hb9.mono HB7.out.size))
              have FR9 := Bas.hid (fRow_below FR7.out hb9)
              have HS9 := Bas.hid (Row.owned_below HS7.out hb9)
              generalize u3.alloc (.cells #[.int .i64 f.type, .bool f.excl, .int .i64 f.dflt, .slice ads f.sets.length cps] 78) = W9 at *
              clear hb9 r1 r4 r7 b0 b1 b2 b3 HB7 FR7 HS7
              have hkb : fs.length ≤ 65535 := by rw [HFL.out]; omega
              have hvo1 := own_ty FR9.out.own s1 (by decide)
              have hvo4 := own_ty FR9.out.own s4 (by decide)
              have hfo := FR9.out.own
              rw [HFL.out] at hfo
              refine (Row.append_any rfl _ _ 33 78 rfl (.agg #[.int .i64 0, .bool false, .int .i64 0, .slice none 0 0]) 4 48 Try.underlying33 infoFt rfl (by decide) w.heap.size (.slice (some ⟨G, 0, none⟩) i cpo) i _ rfl hfo (.slice (some ⟨u3.heap.size, 0, none⟩) 1 1) 1 [.int .i64 f.type, .bool f.excl, .int .i64 f.dflt, .slice ads f.sets.length cps] rfl (leads_heap k9) rfl (by simp; exact ⟨rfl, rfl, rfl, rfl⟩) (by unfold maxLen; omega) (by omega) HB9.out.size ?_)
              intro v' w10 hown10 hg10 _
              obtain ⟨ad10, cp10, rfl⟩ := own_slice hown10
              have HK := Bas.hid fun (e : TypeId) (size n : Nat) (u : Value) (xs : List Value) (he : e ≠ 78) (ho : W9.ownsRow w.heap.size e size u n xs) => Row.owned_keep ho fun g' hg' => hg10.block g' (Row.own_block ho hg').2 (fun e' => own_rows_ne FR9.out.own ho (fun h => he h.symm) (by rw [HFL.out]; exact e'.symm) hg')
              have z1 := (hg10.block _ (heap_lt s1) (fun e => hvo1 (by rw [HFL.out]; exact e.symm))).trans s1
              have z4 := (hg10.block _ (heap_lt s4) (fun e => hvo4 (by rw [HFL.out]; exact e.symm))).trans s4
              have HCN := Bas.hid (fRow_snoc (f := f) FR9.out (by rw [HFL.out]; exact hown10) HK.out (HK.out _ _ _ _ _ (by decide) HS9.out))
              have HB10 := Bas.hid (HB9.out.grown hg10 HB9.out.size (fun g' hg' => (Row.own_block FR9.out.own (by rw [HFL.out]; exact hg')).1))
              clear hown10 hg10 s1 s4 k9 hvo1 hvo4 hfo HB9 FR9 HS9 HK
              go_wp2_with (fail)
              go_roundw
              case rel => exact ⟨i + 1, _, fs ++ [f], ss ++ [.slice ads f.sets.length cps], by omega, by go_num, rfl, by rw [List.length_append, HFL.out]; rfl, by
                rw [HSUB.out, HSTEP.out, if_pos HR1.out, lastT_snoc]; simp [Option.map_map, Function.comp_def], HCN.out, HB10.out, z1, z4⟩
              case measure => simp [intOf]; omega
            · have dlt : decide (pt < f.type) = false := by simpa using hlt
              have HNO : Hid (parseFs bs = none) := by
                unfold Hid
                rw [HPA.out, HSUB.out, HSTEP.out, HLT.out, if_neg (by show ¬ (decide (pt < f.type) = true); rw [dlt]; decide)]
                rfl
              refine' Pl.region_vh 47 [] [0, 1, 2, 3, 4, 5, 6, 7, 8, 9, 10, 11, 12] [] 13 40 [] _ (fun ch w' => ch = short ∧ Below w.heap.size w w') (by kernel_rfl) (by kernel_rfl) (by kernel_rfl) (by simp) (fun _ _ _ _ e h => ⟨e ▸ h.1, h.2⟩) ?_ ?_ ?_ ?_
              rotate_left
              · intro I F hI hF
                simp only [Pl.selN, List.nil_append, List.drop_succ_cons, List.drop_zero]
                have x1 := fun q => hF.cell (heap_lt m6) (cell_of_heap (i := 0) (v := .int .i64 f.type) m6 rfl) q
                have x2 := fun q => hF.cell hGl cG q
                repeat (go_big_quiet_step (fail))
                refine wpQuiet_nil ?_
                rfl
              · simp only [Pl.selN, List.drop_succ_cons, List.drop_zero, List.mem_singleton, forall_eq]
                intro u' hu'
                go_simp
                simp only [Pl.valsAt]
                have hbu := HB6.out.trans (hu'.mono HB6.out.size)
                refine (need_nob _ u' (by first | rfl | (simp; done) | (simp; omega))).mono ?_
                rintro e w'' ⟨he, rfl⟩
                exact .inr ⟨short, he, rfl, hbu⟩
              · intro x hx; cases hx
              · rintro c a' u' hd ⟨rfl, hb⟩
                exact ⟨hd, hb, by rw [HNO.out]⟩
    · have hdone : parseFs bs = some fs := by
        rw [HPA.out, HSUB.out, show n - i = 0 by omega, featsAt]; simp
      have HD := Bas.hid hdone
      clear hdone
      go_wp2_with (fail)
      refine bodyPost_ret (v := .slice ado i cpo) (by simp [results, Try.results29, go_sem]) rfl ?_
      refine ⟨HB.out, ?_⟩
      rw [HD.out]
      have h := HFR.out
      rw [HFL.out] at h
      exact ⟨_, _, rfl, h⟩

set_option maxRecDepth 100000 in
set_option maxHeartbeats 8000000 in
theorem ftake_no (a : Option Addr) (len cap : Nat) (bs : List Int) (w : World) (hl : len ≤ cap) (hc : cap ≤ maxLen) (hv : VB w a bs) (hbl : bs.length = len) (hsmall : len ≤ 1000000000)
    (hno : ¬ (12 ≤ len ∧ be bs 0 4 = 65536 ∧ 12 + 12 * (be bs 4 2).toNat ≤ len)) :
    Calls Try.prog 29 #[.agg #[.slice a len cap]] w (FTakeP w bs) := by
  have hnone : parseFs bs = none := by unfold parseFs; rw [hbl, if_neg hno]
  have POST : Hid (∀ w', Below w.heap.size w w' → FTakeP w bs (.panicked short) w') := fun w' hb => ⟨hb, by rw [hnone]⟩
  have HV := Bas.hid hv
  have k1 := Bas.heap_new w (.cells #[.slice a len cap] 70)
  have HB1 := Bas.hid ((Below.refl w.heap.size w).alloc (Nat.le_refl _) (.cells #[.slice a len cap] 70))
  clear hnone hv
  by_cases h4 : 4 ≤ len
  · have U1 := fun (w' : World) (hb : Below w.heap.size w w') => u32_ok a len cap bs 0 w' hl hc (HV.out.below hb) hbl (by omega) (by omega)
    simp only [show Int.toNat 0 = 0 from rfl] at U1
    generalize be bs 0 4 = kind at *
    have HU1 := Bas.hid U1
    clear U1
    by_cases hk : kind = 65536
    · subst hk
      by_cases h6 : 6 ≤ len
      · have U2 := fun (w' : World) (hb : Below w.heap.size w w') => u16_ok a len cap bs 4 w' hl hc (HV.out.below hb) hbl (by omega) (by omega)
        simp only [show Int.toNat 4 = 4 from rfl] at U2
        have hnb := be2_bd bs HV.out.byte 4 (by omega)
        generalize be bs 4 2 = n at *
        obtain ⟨n0, n1⟩ := hnb
        have hrn : ¬ rowsB len 12 n 12 := fun h => by
          obtain ⟨r1, r2, r3, r4, r5⟩ := h
          exact hno ⟨by omega, rfl, by omega⟩
        have HU2 := Bas.hid U2
        clear U2 hno
        go_enter Try.func29, Try.ntmps29
        go_wp2_with (fail)
        generalize w.alloc (.cells #[.slice a len cap] 70) = W1 at *
        refine (HU1.out _ HB1.out).mono ?_
        rintro e w2 ⟨rfl, hb2⟩
        have k2 := (hb2.block _ (heap_lt k1)).trans k1
        have HB2 := Bas.hid (HB1.out.trans (hb2.mono HB1.out.size))
        have c2 := cell_of_heap (i := 0) (v := .slice a len cap) k2 rfl
        clear hb2 k1 HB1 HU1
        go_wp2_with (go_at_call 42; refine (need_yesb _ _ (by first | rfl | (simp; done) | (simp; omega))).mono ?_; rintro e w' ⟨rfl, rfl⟩)
        refine (HU2.out _ HB2.out).mono ?_
        rintro e w3 ⟨rfl, hb3⟩
        have k3 := (hb3.block _ (heap_lt k2)).trans k2
        have HB3 := Bas.hid (HB2.out.trans (hb3.mono HB2.out.size))
        have c3 := cell_of_heap (i := 0) (v := .slice a len cap) k3 rfl
        clear hb3 k2 c2 HB2 HU2
        go_wp2_with (fail)
        refine (rows_no a len cap _ _ _ w3 hl hc hrn).mono ?_
        rintro e w4 ⟨rfl, hb4⟩
        go_wp2_with (fail)
        exact ⟨rfl, POST.out _ (HB3.out.trans (hb4.mono HB3.out.size))⟩
      · clear hno
        go_enter Try.func29, Try.ntmps29
        go_wp2_with (fail)
        generalize w.alloc (.cells #[.slice a len cap] 70) = W1 at *
        refine (HU1.out _ HB1.out).mono ?_
        rintro e w2 ⟨rfl, hb2⟩
        have k2 := (hb2.block _ (heap_lt k1)).trans k1
        have HB2 := Bas.hid (HB1.out.trans (hb2.mono HB1.out.size))
        have c2 := cell_of_heap (i := 0) (v := .slice a len cap) k2 rfl
        clear hb2 k1 HB1 HU1
        go_wp2_with (go_at_call 42; refine (need_yesb _ _ (by first | rfl | (simp; done) | (simp; omega))).mono ?_; rintro e w' ⟨rfl, rfl⟩)
        refine (u16_no a len cap _ w2 hl hc (by omega)).mono ?_
        rintro e w3 ⟨rfl, hb3⟩
        go_wp2_with (fail)
        exact ⟨rfl, POST.out _ (HB2.out.trans (hb3.mono HB2.out.size))⟩
    · have hk2 : (kind == 65536) = false := by simpa using hk
      clear hno
      go_enter Try.func29, Try.ntmps29
      go_wp2_with (fail)
      generalize w.alloc (.cells #[.slice a len cap] 70) = W1 at *
      refine (HU1.out _ HB1.out).mono ?_
      rintro e w2 ⟨rfl, hb2⟩
      have HB2 := Bas.hid (HB1.out.trans (hb2.mono HB1.out.size))
      clear hb2 k1 HB1 HU1
      go_wp2_with (go_at_call 42; refine (need_nob _ _ (by first | (simp; done) | (simp; omega))).mono ?_; rintro e w' ⟨rfl, rfl⟩)
      exact ⟨rfl, POST.out _ HB2.out⟩
  · clear hno
    go_enter Try.func29, Try.ntmps29
    go_wp2_with (fail)
    generalize w.alloc (.cells #[.slice a len cap] 70) = W1 at *
    refine (u32_no a len cap _ W1 hl hc (by omega)).mono ?_
    rintro e w2 ⟨rfl, hb2⟩
    go_wp2_with (fail)
    exact ⟨rfl, POST.out _ (HB1.out.trans (hb2.mono HB1.out.size))⟩

theorem ftake_any (a : Option Addr) (len cap : Nat) (bs : List Int) (w : World) (hl : len ≤ cap) (hc : cap ≤ maxLen) (hv : VB w a bs) (hbl : bs.length = len) (hsmall : len ≤ 1000000000) :
    Calls Try.prog 29 #[.agg #[.slice a len cap]] w (FTakeP w bs) := by
  by_cases h : 12 ≤ len ∧ be bs 0 4 = 65536 ∧ 12 + 12 * (be bs 4 2).toNat ≤ len
  · have h1 := be2_bd bs hv.byte 4 (by omega)
    exact ftake_main a len cap bs (be bs 4 2).toNat w hl hc hv hbl hsmall h.1 h.2.1 (by omega) h.2.2
  · exact ftake_no a len cap bs w hl hc hv hbl hsmall h
end Ft
end Go.Proofs.Ytdmhenlfhbigbaa
