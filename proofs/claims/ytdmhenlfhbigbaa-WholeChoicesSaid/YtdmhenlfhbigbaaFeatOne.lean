/- Layer 8 (feat): what features bytes hold; one. -/
import Derived.Test.YtdmhenlfhbigbaaChainD
import Derived.Test.YtdmhenlfhbigbaaRegV
import Derived.Test.YtdmhenlfhbigbaaRowB
namespace Go.Proofs.Ytdmhenlfhbigbaa
open Go.RowKit
namespace Ft
open Vw Ch

structure FeatD where
  type : Int
  excl : Bool
  dflt : Int
  sets : List Int

def setsAt (bs : List Int) (from' n : Nat) : List Int := (List.range n).map fun i => be bs (from' + 4 * i) 2
theorem setsAt_succ (bs : List Int) (f n : Nat) : setsAt bs f (n + 1) = setsAt bs f n ++ [be bs (f + 4 * n) 2] := by
  unfold setsAt; rw [List.range_succ, List.map_append]; rfl
theorem setsAt_len (bs : List Int) (f n : Nat) : (setsAt bs f n).length = n := by simp [setsAt]

def firstOf (flags : Int) : Nat := if flags / 16384 % 2 = 1 then (flags % 256).toNat else 0
def dfltOf (sets : List Int) (flags : Int) : Int := if flags ≥ 32768 then (if firstOf flags < sets.length then sets.getD (firstOf flags) 0 else -1) else -1

/-- A feature of its row. -/
def parseF (bs rb : List Int) : Option FeatD :=
  if (be rb 4 4).toNat + 4 * (be rb 2 2).toNat ≤ bs.length then
    some ⟨be rb 0 2, decide (be rb 8 2 ≥ 32768), dfltOf (setsAt bs (be rb 4 4).toNat (be rb 2 2).toNat) (be rb 8 2), setsAt bs (be rb 4 4).toNat (be rb 2 2).toNat⟩
  else none

theorem i64_and_nat (a b : Nat) (ha : a < 4294967296) (hb : b < 4294967296) : bits .and .i64 (a : Int) (b : Int) = ((a &&& b : Nat) : Int) := by
  have hx : a &&& b < 2 ^ 32 := Nat.and_lt_two_pow _ (by omega)
  have h1 : (BitVec.ofInt 64 (a : Int)).toNat = a := by
    rw [BitVec.ofInt_natCast, BitVec.toNat_ofNat]; exact Nat.mod_eq_of_lt (by omega)
  have h2 : (BitVec.ofInt 64 (b : Int)).toNat = b := by
    rw [BitVec.ofInt_natCast, BitVec.toNat_ofNat]; exact Nat.mod_eq_of_lt (by omega)
  show IntKind.i64.wrap ((BitVec.ofInt 64 (a : Int) &&& BitVec.ofInt 64 (b : Int)).toNat : Int) = _
  rw [BitVec.toNat_and, h1, h2, IntKind.wrap_i64]
  omega

theorem i64_mask (x : Int) (k : Nat) (m : Int) (hm : m = ((2 ^ k - 1 : Nat) : Int)) (hk : k ≤ 32) (h0 : 0 ≤ x) (h1 : x ≤ 4294967295) : bits .and .i64 x m = x % 2 ^ k := by
  obtain ⟨n, rfl⟩ := Int.eq_ofNat_of_zero_le h0
  have h2 : 2 ^ k ≤ 2 ^ 32 := Nat.pow_le_pow_right (by omega) hk
  have h3 : 0 < 2 ^ k := Nat.pow_pos (by omega)
  rw [hm, i64_and_nat _ _ (by omega) (by omega), Nat.and_two_pow_sub_one_eq_mod]
  simp

theorem i64_bit (x : Int) (k : Nat) (m : Int) (hm : m = ((2 ^ k : Nat) : Int)) (hk : k < 32) (h0 : 0 ≤ x) (h1 : x ≤ 4294967295) : bits .and .i64 x m = x / 2 ^ k % 2 * 2 ^ k := by
  obtain ⟨n, rfl⟩ := Int.eq_ofNat_of_zero_le h0
  have h2 : 2 ^ k < 2 ^ 32 := Nat.pow_lt_pow_right (by omega) hk
  rw [hm, i64_and_nat _ _ (by omega) (by omega), nat_bit]
  simp

theorem infoI8 : (Try.prog.info? 3).map (fun i => (i.zero, i.size, i.bytes)) = some (some (.int .i64 0), 1, 8) := by kernel_rfl

def featC (f : FeatD) (vs : Value) : List Value := [.int .i64 f.type, .bool f.excl, .int .i64 f.dflt, vs]
def FOnePost (w : World) (bs rb : List Int) (e : Ending) (w' : World) : Prop :=
  Below w.heap.size w w' ∧ match parseF bs rb with
    | none => e = .panicked short
    | some f => ∃ vs, e = .returned (.agg #[.int .i64 f.type, .bool f.excl, .int .i64 f.dflt, vs]) ∧ w'.ownsRow w.heap.size 3 1 vs f.sets.length (f.sets.map (Value.int .i64))
set_option maxRecDepth 100000 in
set_option maxHeartbeats 8000000 in
theorem fone_any (good : Bool) (a : Option Addr) (len cap : Nat) (bs : List Int) (A : Option Addr) (rb : List Int) (n f : Nat) (flags : Int) (w : World) (hl : len ≤ cap) (hc : cap ≤ maxLen) (hv : VB w a bs) (hbl : bs.length = len) (hsmall : len ≤ 1000000000)
    (hr : VB w A rb) (hrl : rb.length = 12) (hn : be rb 2 2 = n) (hf : be rb 4 4 = f) (hfl : be rb 8 2 = flags) (hgood : good = decide (f + 4 * n ≤ len)) :
    Calls Try.prog 46 #[.agg #[.slice a len cap], .agg #[.slice A 12 12]] w (FOnePost w bs rb) := by
  have hnb := be2_bd rb hr.byte 2 (by omega)
  have hfb := be4_bd rb hr.byte 4 (by omega)
  have hflb := be2_bd rb hr.byte 8 (by omega)
  have htb := be2_bd rb hr.byte 0 (by omega)
  have hmx : 12 ≤ maxLen := by unfold maxLen; omega
  have U0 := fun (w' : World) (hb : Below w.heap.size w w') => u16_ok A 12 12 rb 0 w' (Nat.le_refl _) hmx (hr.below hb) hrl (by omega) (by omega)
  have U2 := fun (w' : World) (hb : Below w.heap.size w w') => u16_ok A 12 12 rb 2 w' (Nat.le_refl _) hmx (hr.below hb) hrl (by omega) (by omega)
  have U4 := fun (w' : World) (hb : Below w.heap.size w w') => u32_ok A 12 12 rb 4 w' (Nat.le_refl _) hmx (hr.below hb) hrl (by omega) (by omega)
  have U8 := fun (w' : World) (hb : Below w.heap.size w w') => u16_ok A 12 12 rb 8 w' (Nat.le_refl _) hmx (hr.below hb) hrl (by omega) (by omega)
  simp only [show Int.toNat 0 = 0 from rfl, show Int.toNat 2 = 2 from rfl, show Int.toNat 4 = 4 from rfl, show Int.toNat 8 = 8 from rfl] at U0 U2 U4 U8
  have HPF : Hid (parseF bs rb = if f + 4 * n ≤ len then some ⟨be rb 0 2, decide (flags ≥ 32768), dfltOf (setsAt bs f n) flags, setsAt bs f n⟩ else none) := by
    unfold Hid parseF
    rw [hn, hf, hfl, hbl]
    simp only [Int.toNat_natCast]
  rw [hn] at U2 hnb
  rw [hf] at U4 hfb
  rw [hfl] at U8 hflb
  generalize be rb 0 2 = ty at *
  have HU0 := Bas.hid U0
  have HU2 := Bas.hid U2
  have HU4 := Bas.hid U4
  have HU8 := Bas.hid U8
  have HV := Bas.hid hv
  obtain ⟨n0, n1⟩ := hnb
  obtain ⟨fb0, fb1⟩ := hfb
  obtain ⟨fl0, fl1⟩ := hflb
  obtain ⟨t0, t1⟩ := htb
  have hal := (((Below.refl w.heap.size w).alloc (Nat.le_refl _) (.cells #[.slice a len cap] 70)).alloc (by simp) (.cells #[.slice A 12 12] 70)).alloc (by simp; omega) (.cells #[.int .i64 0, .bool false, .int .i64 0, .slice none 0 0] 78)
  have HAL := Bas.hid hal
  clear U0 U2 U4 U8 hr hn hf hfl hv hal
  go_enter Try.func46, Try.ntmps46
  go_wp2_with (fail)
  have k1 : (((w.alloc (.cells #[.slice a len cap] 70)).alloc (.cells #[.slice A 12 12] 70)).alloc (.cells #[.int .i64 0, .bool false, .int .i64 0, .slice none 0 0] 78)).heap[w.heap.size]? = some (.cells #[.slice a len cap] 70 (0, 0)) := by
    rw [Below.heap_alloc _ _ _ (by simp; omega), Below.heap_alloc _ _ _ (by simp)]; exact Bas.heap_new _ _
  have k2 : (((w.alloc (.cells #[.slice a len cap] 70)).alloc (.cells #[.slice A 12 12] 70)).alloc (.cells #[.int .i64 0, .bool false, .int .i64 0, .slice none 0 0] 78)).heap[w.heap.size + 1]? = some (.cells #[.slice A 12 12] 70 (0, 0)) := by
    rw [Below.heap_alloc _ _ _ (by simp)]; exact Bas.heap_new2 _ _ _
  have k3 : (((w.alloc (.cells #[.slice a len cap] 70)).alloc (.cells #[.slice A 12 12] 70)).alloc (.cells #[.int .i64 0, .bool false, .int .i64 0, .slice none 0 0] 78)).heap[w.heap.size + 2]? = some (.cells #[.int .i64 0, .bool false, .int .i64 0, .slice none 0 0] 78 (0, 0)) := by
    have h := Bas.heap_new ((w.alloc (.cells #[.slice a len cap] 70)).alloc (.cells #[.slice A 12 12] 70)) (.cells #[.int .i64 0, .bool false, .int .i64 0, .slice none 0 0] 78)
    simpa using h
  generalize ((w.alloc (.cells #[.slice a len cap] 70)).alloc (.cells #[.slice A 12 12] 70)).alloc (.cells #[.int .i64 0, .bool false, .int .i64 0, .slice none 0 0] 78) = W at *
  refine (HU0.out _ HAL.out).mono ?_
  rintro e w1 ⟨rfl, hb1⟩
  have HB1 := Bas.hid (Bas.on HAL.out hb1)
  have j1 := (hb1.block _ (heap_lt k1)).trans k1
  have j2 := (hb1.block _ (heap_lt k2)).trans k2
  have j3 := (hb1.block _ (heap_lt k3)).trans k3
  clear hb1 k1 k2 k3 HAL
  go_wp2_with (fail)
  have k1 := (Below.heap_alloc w1 (.cells #[.int .i64 ty, .bool false, .int .i64 (-1), .slice none 0 0] 78) _ (heap_lt j1)).trans j1
  have k2 := (Below.heap_alloc w1 (.cells #[.int .i64 ty, .bool false, .int .i64 (-1), .slice none 0 0] 78) _ (heap_lt j2)).trans j2
  have k3 := (Below.heap_alloc w1 (.cells #[.int .i64 ty, .bool false, .int .i64 (-1), .slice none 0 0] 78) _ (heap_lt j3)).trans j3
  have k4 := Bas.heap_new w1 (.cells #[.int .i64 ty, .bool false, .int .i64 (-1), .slice none 0 0] 78)
  have HB2 := Bas.hid (HB1.out.alloc HB1.out.size (.cells #[.int .i64 ty, .bool false, .int .i64 (-1), .slice none 0 0] 78))
  have hlt4 : w.heap.size + 2 < w1.heap.size := heap_lt j3
  generalize w1.alloc (.cells #[.int .i64 ty, .bool false, .int .i64 (-1), .slice none 0 0] 78) = W2 at *
  generalize w1.heap.size = T5 at k4 hlt4 ⊢
  clear j1 j2 j3 HB1
  refine' Pl.region_v0 60 [] [0, 1, 2, 3, 4, 5] [] _ (by kernel_rfl) (by kernel_rfl) (by simp) (fun _ _ _ _ e h => ⟨e ▸ h.1, h.2⟩) ?_ ?_
  rotate_left
  · intro I F hI hF
    simp only [Pl.selN, List.nil_append, List.drop_succ_cons, List.drop_zero]
    have x1 := fun i => hF.cell (heap_lt k2) (cell_of_heap (i := 0) (v := .slice A 12 12) k2 rfl) i
    repeat (go_big_quiet_step ((go_at_call 44; first | with_reducible exact hF.call (HU2.out _ (hF.on HB2.out _)) | with_reducible exact hF.call (HU8.out _ (hF.on HB2.out _)))))
    refine wpQuiet_nil ?_
    rfl
  intro u hu
  simp only [Pl.selN]
  have j1 := (hu.block _ (heap_lt k1)).trans k1
  have j2 := (hu.block _ (heap_lt k2)).trans k2
  have j3 := (hu.block _ (heap_lt k3)).trans k3
  have j4 := (hu.block _ (heap_lt k4)).trans k4
  have HB3 := Bas.hid (HB2.out.trans (hu.mono HB2.out.size))
  clear hu k1 k2 k3 k4 HB2 HU0 HU2 HU8
  go_wp2_with (fail)
  cases good with
  | false =>
    have hno : ¬ f + 4 * n ≤ len := by simpa using hgood.symm
    clear hgood
    have hrn : ¬ rowsB len f n 4 := fun h => hno (by have := h.2.2.2.2; omega)
    refine' Pl.region_vh 60 [] [0, 1, 2, 3] [(5, 8)] 4 22 [6] _ (fun ch w' => ch = short ∧ Below w.heap.size w w') (by kernel_rfl) (by kernel_rfl) (by kernel_rfl) (by simp) (fun _ _ _ _ e h => ⟨e ▸ h.1, h.2⟩) ?_ ?_ ?_ ?_
    rotate_left
    · intro I F hI hF
      simp only [Pl.selN, List.nil_append, List.drop_succ_cons, List.drop_zero]
      have x1 := fun i => hF.cell (heap_lt j1) (cell_of_heap (i := 0) (v := .slice a len cap) j1 rfl) i
      have x2 := fun i => hF.cell (heap_lt j2) (cell_of_heap (i := 0) (v := .slice A 12 12) j2 rfl) i
      repeat (go_big_quiet_step ((go_at_call 43; with_reducible exact hF.call (HU4.out _ (hF.on HB3.out _)))))
      refine wpQuiet_nil ?_
      rfl
    · simp only [Pl.selN, List.drop_succ_cons, List.drop_zero, List.mem_singleton, forall_eq]
      intro u' hu
      go_simp
      simp only [Pl.valsAt]
      refine (rows_no a len cap _ _ _ u' hl hc hrn).mono ?_
      rintro e w'' ⟨he, hb⟩
      exact .inr ⟨short, he, rfl, HB3.out.trans ((hu.trans (hb.mono hu.size)).mono HB3.out.size)⟩
    · intro x hx
      simp only [List.mem_singleton] at hx
      subst hx
      simp only [Pl.selN, List.drop_succ_cons, List.drop_zero, List.mem_singleton, forall_eq]
      intro u' hu
      go_simp
      simp only [Pl.valsAt]
      exact (Below.refl _ _).alloc (Nat.le_refl _) _
    · rintro c a' u' hd ⟨rfl, hb⟩
      exact ⟨hd, hb, by rw [HPF.out, if_neg hno]⟩
  | true =>
    have hyes : f + 4 * n ≤ len := by simpa using hgood.symm
    clear hgood
    have hrB : rowsB len f n 4 := ⟨by omega, by omega, .inr (by omega), by omega, by omega⟩
    have hPF : parseF bs rb = some ⟨ty, decide (flags ≥ 32768), dfltOf (setsAt bs f n) flags, setsAt bs f n⟩ := by rw [HPF.out, if_pos hyes]
    have HP := Bas.hid hPF
    have e4 : ((n : Int) * 4).toNat = n * 4 := by omega
    have R := fun w' => rows_ok a len cap f n 4 w' hl hc hrB
    simp only [Int.toNat_natCast, e4] at R
    have HR := Bas.hid R
    clear hPF HPF R e4
    refine' Pl.region_v1 60 [] [0, 1, 2, 3, 4] 5 8 [6] _ (fun v u' => ∃ g, v = .pointer (some ⟨g, 0, none⟩) ∧ u.heap.size ≤ g ∧ u'.heap[g]? = some (.cells #[.slice none 0 0] 70 (0, 0))) (by kernel_rfl) (by kernel_rfl) (by simp) (fun _ _ _ _ e h => ⟨e ▸ h.1, h.2⟩) ?_ ?_ ?_ ?_
    rotate_left
    · intro I F hI hF
      simp only [Pl.selN, List.nil_append, List.drop_succ_cons, List.drop_zero]
      have x1 := fun i => hF.cell (heap_lt j1) (cell_of_heap (i := 0) (v := .slice a len cap) j1 rfl) i
      have x2 := fun i => hF.cell (heap_lt j2) (cell_of_heap (i := 0) (v := .slice A 12 12) j2 rfl) i
      repeat (go_big_quiet_step ((first | (go_at_call 43; with_reducible exact hF.call (HU4.out _ (hF.on HB3.out _))) | (go_at_call 45; with_reducible exact hF.call (HR.out _)))))
      refine wpQuiet_nil ?_
      rfl
    · rintro v x x' ⟨g, h1, h2, h3⟩ hx hx'
      exact ⟨g, h1, h2, (hx'.block g (heap_lt h3)).trans h3⟩
    · simp only [Pl.selN, List.drop_succ_cons, List.drop_zero, List.mem_singleton, forall_eq]
      intro u' hu
      go_simp
      simp only [Pl.valsAt]
      exact ⟨(Below.refl _ _).alloc (Nat.le_refl _) _, _, rfl, hu.size, Bas.heap_new _ _⟩
    · intro v u2 hu hv
      obtain ⟨T8, rfl, hT8, m8⟩ := hv
      simp only [Pl.selN, List.drop_succ_cons, List.drop_zero, Act.put, List.setIfInBounds_toArray, List.set_cons_zero, List.set_cons_succ]
      have k3 := (hu.block _ (heap_lt j3)).trans j3
      have k4 := (hu.block _ (heap_lt j4)).trans j4
      have HB4 := Bas.hid (HB3.out.trans (hu.mono HB3.out.size))
      have h58 : T5 < T8 := Nat.lt_of_lt_of_le (heap_lt j4) hT8
      have c8 := cell_of_heap (i := 0) (v := .slice none 0 0) m8 rfl
      have f8 := free_of_heap (i := 0) m8
      clear hu j1 j2 j3 j4 HB3 HU4 HR
      go_wp2_with (fail)
      have m9 := heap_set (i := 0) m8 (.slice (sub a f (n * 4)) (n * 4) (n * 4))
      have n3 := (Below.heap_setCell u2 ⟨T8, 0, none⟩ (.slice (sub a f (n * 4)) (n * 4) (n * 4)) (w.heap.size + 2) (by show w.heap.size + 2 ≠ T8; omega)).trans k3
      have n4 := (Below.heap_setCell u2 ⟨T8, 0, none⟩ (.slice (sub a f (n * 4)) (n * 4) (n * 4)) T5 (by show T5 ≠ T8; omega)).trans k4
      have HB5 := Bas.hid (HB4.out.setCell (p := ⟨T8, 0, none⟩) (by show w.heap.size ≤ T8; omega) (.slice (sub a f (n * 4)) (n * 4) (n * 4)))
      have hVS := fun w' (hb : Below w.heap.size w w') => (HV.out.below hb).sub f (n * 4) (by omega)
      have hAl : ((bs.drop f).take (n * 4)).length = n * 4 := by rw [List.length_take, List.length_drop]; omega
      have hbe := fun i (hi : 4 * i + 2 ≤ n * 4) => be_sub bs f (n * 4) (4 * i) 2 hi
      have HVS := Bas.hid hVS
      have HBE := Bas.hid hbe
      have HAL := Bas.hid hAl
      generalize sub a f (n * 4) = S at *
      generalize u2.setCell ⟨T8, 0, none⟩ (.slice S (n * 4) (n * 4)) = W5 at *
      have m9' : W5.heap[T8]? = some (.cells #[.slice S (n * 4) (n * 4)] 70 (0, 0)) := m9
      clear hVS hbe m8 c8 f8 k3 k4 HB4 m9 hAl
      go_loopw [9, 24] (fun _ vi wr => ∃ (i : Nat) (vs : Value), i ≤ n ∧ vi = .int .i64 i ∧ wr.ownsRow w.heap.size 3 1 vs i ((setsAt bs f i).map (Value.int .i64)) ∧ Below w.heap.size w wr ∧ wr.heap[T8]? = some (.cells #[.slice S (n * 4) (n * 4)] 70 (0, 0)) ∧
        wr.heap[w.heap.size + 2]? = some (.cells #[.int .i64 0, .bool false, .int .i64 0, .slice none 0 0] 78 (0, 0)) ∧ wr.heap[T5]? = some (.cells #[.int .i64 ty, .bool false, .int .i64 (-1), vs] 78 (0, 0))) (fun _ vi _ => n - (intOf vi).toNat)
      case atStart => exact ⟨0, _, Nat.zero_le _, rfl, Row.owned_nil _ _ _ _, HB5.out, m9', n3, n4⟩
      case round =>
        obtain ⟨i, vs, hi, rfl, hown, hb, o8, o3, o5⟩ := hrel
        have HO := Bas.hid hown
        have HB := Bas.hid hb
        obtain ⟨ads, cps, rfl⟩ := own_slice hown
        by_cases hin : i < n
        · have hmn : n * 4 ≤ maxLen := by unfold maxLen; omega
          have V := fun (w' : World) (hb : Below w.heap.size w w') => u16_ok S (n * 4) (n * 4) _ (4 * (i : Int)) w' (Nat.le_refl _) hmn (HVS.out w' hb) HAL.out (by omega) (by omega)
          have e4 : (4 * (i : Int)).toNat = 4 * i := by omega
          simp only [e4, HBE.out i (by omega)] at V
          have HS := Bas.hid (setsAt_succ bs f i)
          generalize be bs (f + 4 * i) 2 = x at *
          have HVV := Bas.hid V
          clear V e4 hown hb m9' n3 n4 hmn
          go_wp2_with (fail)
          refine' Pl.region_v1 60 [] [0, 1, 2, 3, 4, 5] 6 33 [7, 8, 9] _ (fun v u' => ∃ g, v = .slice (some ⟨g, 0, none⟩) 1 1 ∧ wr.heap.size ≤ g ∧ u'.heap[g]? = some (.cells #[.int .i64 x] 3 (0, 0))) (by kernel_rfl) (by kernel_rfl) (by simp) (fun _ _ _ _ e h => ⟨e ▸ h.1, h.2⟩) ?_ ?_ ?_ ?_
          rotate_left
          · intro I F hI hF
            simp only [Pl.selN, List.nil_append, List.drop_succ_cons, List.drop_zero]
            have x1 := fun q => hF.cell (heap_lt o5) (cell_of_heap (i := 3) (v := .slice ads i cps) o5 rfl) q
            have x2 := fun q => hF.cell (heap_lt o8) (cell_of_heap (i := 0) (v := .slice S (n * 4) (n * 4)) o8 rfl) q
            repeat (go_big_quiet_step ((go_at_call 44; with_reducible exact hF.call (HVV.out _ (hF.on HB.out _)))))
            refine wpQuiet_nil ?_
            rfl
          · rintro v x x' ⟨g, h1, h2, h3⟩ hx hx'
            exact ⟨g, h1, h2, (hx'.block g (heap_lt h3)).trans h3⟩
          · simp only [Pl.selN, List.drop_succ_cons, List.drop_zero, List.mem_singleton, forall_eq]
            intro u' hu
            go_simp
            simp only [Pl.valsAt]
            exact ⟨(Below.refl _ _).alloc (Nat.le_refl _) _, _, rfl, hu.size, Bas.heap_new _ _⟩
          · intro v u3 hu hv
            obtain ⟨g, rfl, hg, hgc⟩ := hv
            simp only [Pl.selN, List.drop_succ_cons, List.drop_zero, Act.put, List.setIfInBounds_toArray, List.set_cons_zero, List.set_cons_succ]
            have u8 := (hu.block _ (heap_lt o8)).trans o8
            have u4 := (hu.block _ (heap_lt o3)).trans o3
            have u5 := (hu.block _ (heap_lt o5)).trans o5
            have HOu := Bas.hid (Row.owned_below HO.out hu)
            have HBu := Bas.hid (HB.out.trans (hu.mono HB.out.size))
            have hv8 := own_ty HOu.out u8 (by decide)
            have hv4 := own_ty HOu.out u4 (by decide)
            have hv5 := own_ty HOu.out u5 (by decide)
            clear o8 o3 o5 hu HO HB
            refine (Row.append_any rfl _ _ 74 3 rfl (.int .i64 0) 1 8 Try.underlying74 infoI8 rfl (by decide) w.heap.size (.slice ads i cps) i _ rfl HOu.out (.slice (some ⟨g, 0, none⟩) 1 1) 1 [.int .i64 x] rfl (leads_heap hgc) rfl (by simp; rfl) (by unfold maxLen; omega) (by omega) HBu.out.size ?_)
            intro v' w9 hown9 hg9 _
            obtain ⟨ad9, cp9, rfl⟩ := own_slice hown9
            have z8 := (hg9.block _ (heap_lt u8) (fun e => hv8 e.symm)).trans u8
            have z4 := (hg9.block _ (heap_lt u4) (fun e => hv4 e.symm)).trans u4
            have z5 := (hg9.block _ (heap_lt u5) (fun e => hv5 e.symm)).trans u5
            have HO9 : Hid (w9.ownsRow w.heap.size 3 1 (.slice ad9 (i + 1) cp9) (i + 1) ((setsAt bs f (i + 1)).map (Value.int .i64))) := by
              unfold Hid; rw [HS.out, List.map_append]; exact hown9
            have HB9 := Bas.hid (HBu.out.grown hg9 HBu.out.size (fun g' hg' => (Row.own_block HOu.out hg').1))
            have zc := cell_of_heap (i := 3) z5 rfl
            have zf := free_of_heap (i := 3) z5
            clear hown9 hg9 u8 u4 u5 hgc HOu HBu
            go_wp2_with (fail)
            have y8 := (Below.heap_setCell w9 ⟨T5, 3, none⟩ (.slice ad9 (i + 1) cp9) T8 (by show T8 ≠ T5; omega)).trans z8
            have y4 := (Below.heap_setCell w9 ⟨T5, 3, none⟩ (.slice ad9 (i + 1) cp9) (w.heap.size + 2) (by show w.heap.size + 2 ≠ T5; omega)).trans z4
            have y5 := heap_set (i := 3) z5 (.slice ad9 (i + 1) cp9)
            have HO10 := Bas.hid (Row.owned_keep HO9.out (w' := w9.setCell ⟨T5, 3, none⟩ (.slice ad9 (i + 1) cp9)) fun g' hg' => Below.heap_setCell _ _ _ _ (fun e => own_ty HO9.out z5 (by decide) (by rw [hg', e])))
            have HB10 := Bas.hid (HB9.out.setCell (p := ⟨T5, 3, none⟩) (by show w.heap.size ≤ T5; omega) (.slice ad9 (i + 1) cp9))
            generalize w9.setCell ⟨T5, 3, none⟩ (.slice ad9 (i + 1) cp9) = W10 at *
            go_roundw
            case rel => exact ⟨i + 1, _, by omega, by go_num, HO10.out, HB10.out, y8, y4, y5⟩
            case measure => simp [intOf]; omega
        · have hin2 : i = n := by omega
          subst hin2
          clear hown hb m9' n3 n4
          have c50 := cell_of_heap (i := 0) (v := .int .i64 ty) o5 rfl
          have c51 := cell_of_heap (i := 1) (v := .bool false) o5 rfl
          have c52 := cell_of_heap (i := 2) (v := .int .i64 (-1)) o5 rfl
          have c53 := cell_of_heap (i := 3) (v := .slice ads i cps) o5 rfl
          have f51 := free_of_heap (i := 1) o5
          have f52 := free_of_heap (i := 2) o5
          have c30 := cell_of_heap (i := 0) (v := .int .i64 0) o3 rfl
          have c31 := cell_of_heap (i := 1) (v := .bool false) o3 rfl
          have c32 := cell_of_heap (i := 2) (v := .int .i64 0) o3 rfl
          have c33 := cell_of_heap (i := 3) (v := .slice none 0 0) o3 rfl
          have f30 := free_of_heap (i := 0) o3
          have f31 := free_of_heap (i := 1) o3
          have f32 := free_of_heap (i := 2) o3
          have f33 := free_of_heap (i := 3) o3
          have hv5 := own_ty HO.out o5 (by decide)
          have hv3 := own_ty HO.out o3 (by decide)
          have hp5 : w.heap.size ≤ (⟨T5, 1, none⟩ : Addr).block := by show w.heap.size ≤ T5; omega
          have hp3 : w.heap.size ≤ (⟨w.heap.size + 2, 0, none⟩ : Addr).block := by show w.heap.size ≤ w.heap.size + 2; omega
          have hne35 : w.heap.size + 2 ≠ T5 := by omega
          have hne53 : T5 ≠ w.heap.size + 2 := by omega
          have B1 := i64_bit flags 15 32768 rfl (by omega) fl0 (by omega)
          have B2 := i64_bit flags 14 16384 rfl (by omega) fl0 (by omega)
          have B3 := i64_mask flags 8 255 rfl (by omega) fl0 (by omega)
          simp only [show (2 : Int) ^ 15 = 32768 from rfl, show (2 : Int) ^ 14 = 16384 from rfl, show (2 : Int) ^ 8 = 256 from rfl] at B1 B2 B3
          by_cases hex : 32768 ≤ flags
          · have b1 : bits .and .i64 flags 32768 = 32768 := by rw [B1]; omega
            have hm0 : 0 ≤ flags % 256 := by omega
            have hm1 : flags % 256 ≤ 255 := by omega
            clear B1
            obtain ⟨q, hq⟩ : ∃ q : Nat, q = firstOf flags := ⟨_, rfl⟩
            have hDF : dfltOf (setsAt bs f i) flags = if q < i then (setsAt bs f i).getD q 0 else -1 := by
              unfold dfltOf
              rw [if_pos (by exact hex), setsAt_len, hq]
            have hde : decide (flags ≥ 32768) = true := by simpa using hex
            have HDF := Bas.hid hDF
            have HDE := Bas.hid hde
            clear hDF hde
            by_cases hsec : flags / 16384 % 2 = 1
            · have b2 : bits .and .i64 flags 16384 = 16384 := by rw [B2]; omega
              have hqv : flags % 256 = (q : Int) := by rw [hq]; unfold firstOf; rw [if_pos hsec]; omega
              rw [hqv] at B3
              clear B2 hq hqv hsec
              by_cases hqn : q < i
              · obtain ⟨x, hx⟩ : ∃ x, (setsAt bs f i)[q]? = some x := ⟨_, List.getElem?_eq_getElem (by rw [setsAt_len]; exact hqn)⟩
                have hgd : (if q < i then (setsAt bs f i).getD q 0 else -1) = x := by rw [if_pos hqn, List.getD_eq_getElem?_getD, hx]; rfl
                have HGD := Bas.hid hgd
                rcases Row.owned_parts HO.out with ⟨_, h0, _⟩ | ⟨G, cp', hvG, hGb, hGl, hGc, hGm, hcl, -⟩
                · omega
                cases hvG
                have cG := hcl q (.int .i64 x) (by rw [List.getElem?_map, hx]; rfl)
                have hG5 : G ≠ T5 := fun e => hv5 (by rw [← e]; rfl)
                have hG3 : G ≠ w.heap.size + 2 := fun e => hv3 (by rw [← e]; rfl)
                clear hcl hx hgd
                go_wp2_with (fail)
                have hkeep : ∀ g', g' ≠ T5 → g' ≠ w.heap.size + 2 → ((((((wr.setCell ⟨T5, 1, none⟩ (.bool true)).setCell ⟨T5, 2, none⟩ (.int .i64 x)).setCell ⟨w.heap.size + 2, 0, none⟩ (.int .i64 ty)).setCell ⟨w.heap.size + 2, 1, none⟩ (.bool true)).setCell ⟨w.heap.size + 2, 2, none⟩ (.int .i64 x)).setCell ⟨w.heap.size + 2, 3, none⟩ (.slice (some ⟨G, 0, none⟩) i cps)).heap[g']? = wr.heap[g']? := fun g' h5 h3 => by simp only [Below.heap_setCell _ (⟨T5, 1, none⟩ : Addr) _ g' h5, Below.heap_setCell _ (⟨T5, 2, none⟩ : Addr) _ g' h5, Below.heap_setCell _ (⟨w.heap.size + 2, 0, none⟩ : Addr) _ g' h3, Below.heap_setCell _ (⟨w.heap.size + 2, 1, none⟩ : Addr) _ g' h3, Below.heap_setCell _ (⟨w.heap.size + 2, 2, none⟩ : Addr) _ g' h3, Below.heap_setCell _ (⟨w.heap.size + 2, 3, none⟩ : Addr) _ g' h3]
                refine bodyPost_ret (v := .agg #[.int .i64 ty, .bool true, .int .i64 x, .slice (some ⟨G, 0, none⟩) i cps]) (by simp [results, Try.results46, go_sem, c30, c31, c32, c33]) rfl ⟨(((((HB.out.setCell (p := ⟨T5, 1, none⟩) hp5 (.bool true)).setCell (p := ⟨T5, 2, none⟩) hp5 (.int .i64 x)).setCell (p := ⟨w.heap.size + 2, 0, none⟩) hp3 (.int .i64 ty)).setCell (p := ⟨w.heap.size + 2, 1, none⟩) hp3 (.bool true)).setCell (p := ⟨w.heap.size + 2, 2, none⟩) hp3 (.int .i64 x)).setCell (p := ⟨w.heap.size + 2, 3, none⟩) hp3 (.slice (some ⟨G, 0, none⟩) i cps), ?_⟩
                rw [HP.out]
                refine ⟨_, by rw [HDE.out, HDF.out, HGD.out], ?_⟩
                rw [setsAt_len]
                exact Row.owned_keep HO.out fun g' hg' => hkeep g' (fun e => hv5 (by rw [hg', e])) (fun e => hv3 (by rw [hg', e]))
              · have hgd : (if q < i then (setsAt bs f i).getD q 0 else -1) = -1 := by rw [if_neg hqn]
                have HGD := Bas.hid hgd
                clear hgd
                go_wp2_with (fail)
                have hkeep : ∀ g', g' ≠ T5 → g' ≠ w.heap.size + 2 → (((((wr.setCell ⟨T5, 1, none⟩ (.bool true)).setCell ⟨w.heap.size + 2, 0, none⟩ (.int .i64 ty)).setCell ⟨w.heap.size + 2, 1, none⟩ (.bool true)).setCell ⟨w.heap.size + 2, 2, none⟩ (.int .i64 (-1))).setCell ⟨w.heap.size + 2, 3, none⟩ (.slice ads i cps)).heap[g']? = wr.heap[g']? := fun g' h5 h3 => by simp only [Below.heap_setCell _ (⟨T5, 1, none⟩ : Addr) _ g' h5, Below.heap_setCell _ (⟨T5, 2, none⟩ : Addr) _ g' h5, Below.heap_setCell _ (⟨w.heap.size + 2, 0, none⟩ : Addr) _ g' h3, Below.heap_setCell _ (⟨w.heap.size + 2, 1, none⟩ : Addr) _ g' h3, Below.heap_setCell _ (⟨w.heap.size + 2, 2, none⟩ : Addr) _ g' h3, Below.heap_setCell _ (⟨w.heap.size + 2, 3, none⟩ : Addr) _ g' h3]
                refine bodyPost_ret (v := .agg #[.int .i64 ty, .bool true, .int .i64 (-1), .slice ads i cps]) (by simp [results, Try.results46, go_sem, c30, c31, c32, c33]) rfl ⟨((((HB.out.setCell (p := ⟨T5, 1, none⟩) hp5 (.bool true)).setCell (p := ⟨w.heap.size + 2, 0, none⟩) hp3 (.int .i64 ty)).setCell (p := ⟨w.heap.size + 2, 1, none⟩) hp3 (.bool true)).setCell (p := ⟨w.heap.size + 2, 2, none⟩) hp3 (.int .i64 (-1))).setCell (p := ⟨w.heap.size + 2, 3, none⟩) hp3 (.slice ads i cps), ?_⟩
                rw [HP.out]
                refine ⟨_, by rw [HDE.out, HDF.out, HGD.out], ?_⟩
                rw [setsAt_len]
                exact Row.owned_keep HO.out fun g' hg' => hkeep g' (fun e => hv5 (by rw [hg', e])) (fun e => hv3 (by rw [hg', e]))
            · have b2 : bits .and .i64 flags 16384 = 0 := by rw [B2]; omega
              have hqv : q = 0 := by rw [hq]; unfold firstOf; rw [if_neg hsec]
              clear B2 B3 hq hsec
              subst hqv
              by_cases hqn : 0 < i
              · obtain ⟨x, hx⟩ : ∃ x, (setsAt bs f i)[0]? = some x := ⟨_, List.getElem?_eq_getElem (by rw [setsAt_len]; exact hqn)⟩
                have hgd : (if 0 < i then (setsAt bs f i).getD 0 0 else -1) = x := by rw [if_pos hqn, List.getD_eq_getElem?_getD, hx]; rfl
                have HGD := Bas.hid hgd
                rcases Row.owned_parts HO.out with ⟨_, h0, _⟩ | ⟨G, cp', hvG, hGb, hGl, hGc, hGm, hcl, -⟩
                · omega
                cases hvG
                have cG := hcl 0 (.int .i64 x) (by rw [List.getElem?_map, hx]; rfl)
                have hG5 : G ≠ T5 := fun e => hv5 (by rw [← e]; rfl)
                have hG3 : G ≠ w.heap.size + 2 := fun e => hv3 (by rw [← e]; rfl)
                clear hcl hx hgd
                go_wp2_with (fail)
                have hkeep : ∀ g', g' ≠ T5 → g' ≠ w.heap.size + 2 → ((((((wr.setCell ⟨T5, 1, none⟩ (.bool true)).setCell ⟨T5, 2, none⟩ (.int .i64 x)).setCell ⟨w.heap.size + 2, 0, none⟩ (.int .i64 ty)).setCell ⟨w.heap.size + 2, 1, none⟩ (.bool true)).setCell ⟨w.heap.size + 2, 2, none⟩ (.int .i64 x)).setCell ⟨w.heap.size + 2, 3, none⟩ (.slice (some ⟨G, 0, none⟩) i cps)).heap[g']? = wr.heap[g']? := fun g' h5 h3 => by simp only [Below.heap_setCell _ (⟨T5, 1, none⟩ : Addr) _ g' h5, Below.heap_setCell _ (⟨T5, 2, none⟩ : Addr) _ g' h5, Below.heap_setCell _ (⟨w.heap.size + 2, 0, none⟩ : Addr) _ g' h3, Below.heap_setCell _ (⟨w.heap.size + 2, 1, none⟩ : Addr) _ g' h3, Below.heap_setCell _ (⟨w.heap.size + 2, 2, none⟩ : Addr) _ g' h3, Below.heap_setCell _ (⟨w.heap.size + 2, 3, none⟩ : Addr) _ g' h3]
                refine bodyPost_ret (v := .agg #[.int .i64 ty, .bool true, .int .i64 x, .slice (some ⟨G, 0, none⟩) i cps]) (by simp [results, Try.results46, go_sem, c30, c31, c32, c33]) rfl ⟨(((((HB.out.setCell (p := ⟨T5, 1, none⟩) hp5 (.bool true)).setCell (p := ⟨T5, 2, none⟩) hp5 (.int .i64 x)).setCell (p := ⟨w.heap.size + 2, 0, none⟩) hp3 (.int .i64 ty)).setCell (p := ⟨w.heap.size + 2, 1, none⟩) hp3 (.bool true)).setCell (p := ⟨w.heap.size + 2, 2, none⟩) hp3 (.int .i64 x)).setCell (p := ⟨w.heap.size + 2, 3, none⟩) hp3 (.slice (some ⟨G, 0, none⟩) i cps), ?_⟩
                rw [HP.out]
                refine ⟨_, by rw [HDE.out, HDF.out, HGD.out], ?_⟩
                rw [setsAt_len]
                exact Row.owned_keep HO.out fun g' hg' => hkeep g' (fun e => hv5 (by rw [hg', e])) (fun e => hv3 (by rw [hg', e]))
              · have hgd : (if 0 < i then (setsAt bs f i).getD 0 0 else -1) = -1 := by rw [if_neg hqn]
                have HGD := Bas.hid hgd
                clear hgd
                go_wp2_with (fail)
                have hkeep : ∀ g', g' ≠ T5 → g' ≠ w.heap.size + 2 → (((((wr.setCell ⟨T5, 1, none⟩ (.bool true)).setCell ⟨w.heap.size + 2, 0, none⟩ (.int .i64 ty)).setCell ⟨w.heap.size + 2, 1, none⟩ (.bool true)).setCell ⟨w.heap.size + 2, 2, none⟩ (.int .i64 (-1))).setCell ⟨w.heap.size + 2, 3, none⟩ (.slice ads i cps)).heap[g']? = wr.heap[g']? := fun g' h5 h3 => by simp only [Below.heap_setCell _ (⟨T5, 1, none⟩ : Addr) _ g' h5, Below.heap_setCell _ (⟨T5, 2, none⟩ : Addr) _ g' h5, Below.heap_setCell _ (⟨w.heap.size + 2, 0, none⟩ : Addr) _ g' h3, Below.heap_setCell _ (⟨w.heap.size + 2, 1, none⟩ : Addr) _ g' h3, Below.heap_setCell _ (⟨w.heap.size + 2, 2, none⟩ : Addr) _ g' h3, Below.heap_setCell _ (⟨w.heap.size + 2, 3, none⟩ : Addr) _ g' h3]
                refine bodyPost_ret (v := .agg #[.int .i64 ty, .bool true, .int .i64 (-1), .slice ads i cps]) (by simp [results, Try.results46, go_sem, c30, c31, c32, c33]) rfl ⟨((((HB.out.setCell (p := ⟨T5, 1, none⟩) hp5 (.bool true)).setCell (p := ⟨w.heap.size + 2, 0, none⟩) hp3 (.int .i64 ty)).setCell (p := ⟨w.heap.size + 2, 1, none⟩) hp3 (.bool true)).setCell (p := ⟨w.heap.size + 2, 2, none⟩) hp3 (.int .i64 (-1))).setCell (p := ⟨w.heap.size + 2, 3, none⟩) hp3 (.slice ads i cps), ?_⟩
                rw [HP.out]
                refine ⟨_, by rw [HDE.out, HDF.out, HGD.out], ?_⟩
                rw [setsAt_len]
                exact Row.owned_keep HO.out fun g' hg' => hkeep g' (fun e => hv5 (by rw [hg', e])) (fun e => hv3 (by rw [hg', e]))
          · have b1 : bits .and .i64 flags 32768 = 0 := by rw [B1]; omega
            have hDF : dfltOf (setsAt bs f i) flags = -1 := by
              unfold dfltOf
              rw [if_neg (by exact hex)]
            have hde : decide (flags ≥ 32768) = false := by simpa using hex
            have HDF := Bas.hid hDF
            have HDE := Bas.hid hde
            clear hDF hde B1 B2 B3
            go_wp2_with (fail)
            have hkeep : ∀ g', g' ≠ T5 → g' ≠ w.heap.size + 2 → (((((wr.setCell ⟨T5, 1, none⟩ (.bool false)).setCell ⟨w.heap.size + 2, 0, none⟩ (.int .i64 ty)).setCell ⟨w.heap.size + 2, 1, none⟩ (.bool false)).setCell ⟨w.heap.size + 2, 2, none⟩ (.int .i64 (-1))).setCell ⟨w.heap.size + 2, 3, none⟩ (.slice ads i cps)).heap[g']? = wr.heap[g']? := fun g' h5 h3 => by simp only [Below.heap_setCell _ (⟨T5, 1, none⟩ : Addr) _ g' h5, Below.heap_setCell _ (⟨T5, 2, none⟩ : Addr) _ g' h5, Below.heap_setCell _ (⟨w.heap.size + 2, 0, none⟩ : Addr) _ g' h3, Below.heap_setCell _ (⟨w.heap.size + 2, 1, none⟩ : Addr) _ g' h3, Below.heap_setCell _ (⟨w.heap.size + 2, 2, none⟩ : Addr) _ g' h3, Below.heap_setCell _ (⟨w.heap.size + 2, 3, none⟩ : Addr) _ g' h3]
            refine bodyPost_ret (v := .agg #[.int .i64 ty, .bool false, .int .i64 (-1), .slice ads i cps]) (by simp [results, Try.results46, go_sem, c30, c31, c32, c33]) rfl ⟨((((HB.out.setCell (p := ⟨T5, 1, none⟩) hp5 (.bool false)).setCell (p := ⟨w.heap.size + 2, 0, none⟩) hp3 (.int .i64 ty)).setCell (p := ⟨w.heap.size + 2, 1, none⟩) hp3 (.bool false)).setCell (p := ⟨w.heap.size + 2, 2, none⟩) hp3 (.int .i64 (-1))).setCell (p := ⟨w.heap.size + 2, 3, none⟩) hp3 (.slice ads i cps), ?_⟩
            rw [HP.out]
            refine ⟨_, by rw [HDE.out, HDF.out], ?_⟩
            rw [setsAt_len]
            exact Row.owned_keep HO.out fun g' hg' => hkeep g' (fun e => hv5 (by rw [hg', e])) (fun e => hv3 (by rw [hg', e]))
end Ft
end Go.Proofs.Ytdmhenlfhbigbaa
