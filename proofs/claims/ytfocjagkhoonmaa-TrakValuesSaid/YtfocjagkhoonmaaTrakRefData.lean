/- The reference's track of a place (layer 27). -/
import Derived.Test.YtfocjagkhoonmaaTrakRefAt
import Derived.Test.YtfocjagkhoonmaaRef01B
namespace Go.Proofs.Ytfocjagkhoonmaa
open Go.RowKit
namespace Tk
open Vw Ref01

def RDataP (w : World) (bs : List Int) (at' : Nat) (e : Ending) (w' : World) : Prop :=
  Below w.heap.size w w' ∧ match dataAt bs at' with
    | none => ∃ a1 n1 c1 a2 n2 c2, e = .returned (.tuple #[.agg #[.slice a1 n1 c1, .slice a2 n2 c2], .bool false])
    | some t => ∃ v1 v2, e = .returned (.tuple #[.agg #[v1, v2], .bool true]) ∧ TrkOwn w' w.heap.size v1 v2 t

theorem owned_empty (w : World) (base : Nat) (e : TypeId) (size : Nat) (hb : base ≤ w.heap.size) : (w.alloc (.cells #[] e)).ownsRow base e size (.slice (some ⟨w.heap.size, 0, none⟩) 0 0) 0 [] :=
  ⟨by simp, .inr ⟨w.heap.size, 0, #[], rfl, hb, Bas.heap_new _ _, Nat.le_refl _, Nat.zero_le _, by simp, by simp⟩⟩

set_option maxRecDepth 100000 in
set_option maxHeartbeats 4000000 in
theorem rdata_zero (a : Option Addr) (len cap : Nat) (bs : List Int) (w : World) :
    Calls Try.prog 41 #[.slice a len cap, .int .i64 0] w (RDataP w bs 0) := by
  have HD : Hid (dataAt bs 0 = some ⟨[], []⟩) := by unfold Hid dataAt; rw [if_pos rfl]
  have HAL := Bas.hid (((Below.refl w.heap.size w).alloc (Nat.le_refl _) (.cells #[.slice none 0 0, .slice none 0 0] 38)).alloc (by simp) (.cells #[.slice none 0 0, .slice none 0 0] 38))
  have k4 : ((w.alloc (.cells #[.slice none 0 0, .slice none 0 0] 38)).alloc (.cells #[.slice none 0 0, .slice none 0 0] 38)).heap[w.heap.size]? = some (.cells #[.slice none 0 0, .slice none 0 0] 38 (0, 0)) := by
    rw [Below.heap_alloc _ _ _ (by simp)]; exact Bas.heap_new _ _
  have k6 : ((w.alloc (.cells #[.slice none 0 0, .slice none 0 0] 38)).alloc (.cells #[.slice none 0 0, .slice none 0 0] 38)).heap[w.heap.size + 1]? = some (.cells #[.slice none 0 0, .slice none 0 0] 38 (0, 0)) := Bas.heap_new2 _ _ _
  go_enter Try.func41, Try.ntmps41
  go_wp2_with (fail)
  generalize (w.alloc (.cells #[.slice none 0 0, .slice none 0 0] 38)).alloc (.cells #[.slice none 0 0, .slice none 0 0] 38) = W at *
  have c40 := cell_of_heap (i := 0) (v := .slice none 0 0) k4 rfl
  have c41 := cell_of_heap (i := 1) (v := .slice none 0 0) k4 rfl
  have c60 := cell_of_heap (i := 0) (v := .slice none 0 0) k6 rfl
  have c61 := cell_of_heap (i := 1) (v := .slice none 0 0) k6 rfl
  have f40 := free_of_heap (i := 0) k4
  have f41 := free_of_heap (i := 1) k4
  go_wp2_with (fail)
  refine bodyPost_ret (v := .tuple #[.agg #[.slice none 0 0, .slice none 0 0], .bool true]) (by simp [results, Try.results41, go_sem, c40, c41]) rfl ⟨by first | exact HAL.out | exact (HAL.out.setCell (p := ⟨w.heap.size, 0, none⟩) (Nat.le_refl _) _).setCell (p := ⟨w.heap.size, 1, none⟩) (Nat.le_refl _) _, ?_⟩
  rw [HD.out]
  exact ⟨_, _, rfl, Row.owned_nil _ _ _ _, Row.owned_nil _ _ _ _⟩

set_option maxRecDepth 100000 in
set_option maxHeartbeats 8000000 in
theorem rdata_out (a : Option Addr) (len cap : Nat) (bs : List Int) (at' : Nat) (w : World) (hv : VB w a bs) (hbl : bs.length = len) (hsmall : len ≤ 1000000000) (hat0 : at' ≠ 0) (hatb : at' ≤ 65535) (hat : len < at' + 8) :
    Calls Try.prog 41 #[.slice a len cap, .int .i64 at'] w (RDataP w bs at') := by
  have HD : Hid (dataAt bs at' = none) := by unfold Hid dataAt; rw [if_neg hat0, if_neg (by omega)]
  have hz : ((at' : Int) == 0) = false := by simp; omega
  have hV := hv
  have U0 := fun w' (hb : Below w.heap.size w w') => u_any a len cap bs (at' : Int) 2 2 rfl w' (by omega) (hv.below hb) hbl (by omega)
  have U2 := fun w' (hb : Below w.heap.size w w') => u_any a len cap bs ((at' : Int) + 2) 2 2 rfl w' (by omega) (hv.below hb) hbl (by omega)
  have U4 := fun w' => u_no a len cap ((at' : Int) + 4) 4 w' (by omega) (by omega)
  have hub := uval_bd bs hv.byte at' 2 (by omega)
  have hub2 := uval_bd bs hv.byte ((at' : Int) + 2) 2 (by omega)
  generalize uval bs at' 2 = n at *
  generalize uval bs ((at' : Int) + 2) 2 = many at *
  obtain ⟨n0, n1⟩ := hub
  obtain ⟨m0, m1⟩ := hub2
  have HU0 := Bas.hid U0
  have HU2 := Bas.hid U2
  have HU4 := Bas.hid U4
  have HAL := Bas.hid (((Below.refl w.heap.size w).alloc (Nat.le_refl _) (.cells #[.slice none 0 0, .slice none 0 0] 38)).alloc (by simp) (.cells #[.slice none 0 0, .slice none 0 0] 38))
  have k4 : ((w.alloc (.cells #[.slice none 0 0, .slice none 0 0] 38)).alloc (.cells #[.slice none 0 0, .slice none 0 0] 38)).heap[w.heap.size]? = some (.cells #[.slice none 0 0, .slice none 0 0] 38 (0, 0)) := by
    rw [Below.heap_alloc _ _ _ (by simp)]; exact Bas.heap_new _ _
  have k6 : ((w.alloc (.cells #[.slice none 0 0, .slice none 0 0] 38)).alloc (.cells #[.slice none 0 0, .slice none 0 0] 38)).heap[w.heap.size + 1]? = some (.cells #[.slice none 0 0, .slice none 0 0] 38 (0, 0)) := Bas.heap_new2 _ _ _
  clear U0 U2 U4 hv hV hat
  go_enter Try.func41, Try.ntmps41
  go_wp2_with (fail)
  generalize (w.alloc (.cells #[.slice none 0 0, .slice none 0 0] 38)).alloc (.cells #[.slice none 0 0, .slice none 0 0] 38) = W at *
  have c40 := cell_of_heap (i := 0) (v := .slice none 0 0) k4 rfl
  have c41 := cell_of_heap (i := 1) (v := .slice none 0 0) k4 rfl
  have c60 := cell_of_heap (i := 0) (v := .slice none 0 0) k6 rfl
  have c61 := cell_of_heap (i := 1) (v := .slice none 0 0) k6 rfl
  have f40 := free_of_heap (i := 0) k4
  have f41 := free_of_heap (i := 1) k4
  refine (HU0.out _ HAL.out).mono ?_
  rintro e w1 ⟨rfl, rfl⟩
  go_wp2_with (fail)
  refine (HU2.out _ HAL.out).mono ?_
  rintro e w1 ⟨rfl, rfl⟩
  go_wp2_with (fail)
  refine (HU4.out _).mono ?_
  rintro e w1 ⟨rfl, rfl⟩
  clear HU0 HU2 HU4
  rcases Int.lt_or_le n 0 with hn | hn
  · have d1 : decide (n < 0) = true := by simpa using hn
    clear hn
    go_wp2_with (fail)
    refine bodyPost_ret (v := .tuple #[.agg #[.slice none 0 0, .slice none 0 0], .bool false]) (by simp [results, Try.results41, go_sem, c40, c41]) rfl ⟨by first | exact HAL.out | exact (HAL.out.setCell (p := ⟨w.heap.size, 0, none⟩) (Nat.le_refl _) _).setCell (p := ⟨w.heap.size, 1, none⟩) (Nat.le_refl _) _, ?_⟩
    rw [HD.out]
    exact ⟨none, 0, 0, none, 0, 0, rfl⟩
  · have d1 : decide (n < 0) = false := by simp; omega
    rcases Int.lt_or_le many 0 with hm | hm
    · have d2 : decide (many < 0) = true := by simpa using hm
      clear hm hn
      go_wp2_with (fail)
      refine bodyPost_ret (v := .tuple #[.agg #[.slice none 0 0, .slice none 0 0], .bool false]) (by simp [results, Try.results41, go_sem, c40, c41]) rfl ⟨by first | exact HAL.out | exact (HAL.out.setCell (p := ⟨w.heap.size, 0, none⟩) (Nat.le_refl _) _).setCell (p := ⟨w.heap.size, 1, none⟩) (Nat.le_refl _) _, ?_⟩
      rw [HD.out]
      exact ⟨none, 0, 0, none, 0, 0, rfl⟩
    · have d2 : decide (many < 0) = false := by simp; omega
      clear hm hn
      go_wp2_with (fail)
      refine bodyPost_ret (v := .tuple #[.agg #[.slice none 0 0, .slice none 0 0], .bool false]) (by simp [results, Try.results41, go_sem, c40, c41]) rfl ⟨by first | exact HAL.out | exact (HAL.out.setCell (p := ⟨w.heap.size, 0, none⟩) (Nat.le_refl _) _).setCell (p := ⟨w.heap.size, 1, none⟩) (Nat.le_refl _) _, ?_⟩
      rw [HD.out]
      exact ⟨none, 0, 0, none, 0, 0, rfl⟩

set_option maxRecDepth 100000 in
set_option maxHeartbeats 16000000 in
theorem rdata_main (a : Option Addr) (len cap : Nat) (bs : List Int) (at' n many f : Nat) (w : World) (hv : VB w a bs) (hbl : bs.length = len) (hsmall : len ≤ 1000000000)
    (hat0 : at' ≠ 0) (hatb : at' ≤ 65535) (hat : at' + 8 ≤ len) (hn : be bs at' 2 = n) (hm : be bs (at' + 2) 2 = many) (hf : be bs (at' + 4) 4 = f) :
    Calls Try.prog 41 #[.slice a len cap, .int .i64 at'] w (RDataP w bs at') := by
  have hnb := be2_bd bs hv.byte at' (by omega)
  have hmb := be2_bd bs hv.byte (at' + 2) (by omega)
  have hfb := be4_bd bs hv.byte (at' + 4) (by omega)
  have U0 := fun w' (hb : Below w.heap.size w w') => u_ok a len cap bs (at' : Int) 2 w' (by omega) (hv.below hb) hbl (by omega) (by omega) (by omega)
  have U2 := fun w' (hb : Below w.heap.size w w') => u_ok a len cap bs ((at' : Int) + 2) 2 w' (by omega) (hv.below hb) hbl (by omega) (by omega) (by omega)
  have U4 := fun w' (hb : Below w.heap.size w w') => u_ok a len cap bs ((at' : Int) + 4) 4 w' (by omega) (hv.below hb) hbl (by omega) (by omega) (by omega)
  have a2 : ((at' : Int) + 2).toNat = at' + 2 := by omega
  have a4 : ((at' : Int) + 4).toNat = at' + 4 := by omega
  simp only [Int.toNat_natCast, a2, a4] at U0 U2 U4
  have HDA : Hid (dataAt bs at' = if f + 4 * many ≤ len ∧ at' + 8 + 8 * n ≤ len ∧ risingTo bs f many = true then (rowsD bs at' many n 0 none).map (trackOf (sizesL bs f many)) else none) := by
    unfold Hid dataAt
    rw [if_neg hat0, hn, hm, hf, hbl]
    simp only [Int.toNat_natCast]
    by_cases hr : f + 4 * many ≤ len ∧ at' + 8 + 8 * n ≤ len ∧ risingTo bs f many = true
    · rw [if_pos ⟨hat, hr⟩, if_pos hr]
    · rw [if_neg (fun h => hr h.2), if_neg hr]
  rw [hn] at U0 hnb
  rw [hm] at U2 hmb
  rw [hf] at U4 hfb
  have HU0 := Bas.hid U0
  have HU2 := Bas.hid U2
  have HU4 := Bas.hid U4
  have HV := Bas.hid hv
  obtain ⟨n0, n1⟩ := hnb
  obtain ⟨m0, m1⟩ := hmb
  obtain ⟨fb0, fb1⟩ := hfb
  have hz : ((at' : Int) == 0) = false := by simp; omega
  have HAL := Bas.hid (((Below.refl w.heap.size w).alloc (Nat.le_refl _) (.cells #[.slice none 0 0, .slice none 0 0] 38)).alloc (by simp) (.cells #[.slice none 0 0, .slice none 0 0] 38))
  have k4 : ((w.alloc (.cells #[.slice none 0 0, .slice none 0 0] 38)).alloc (.cells #[.slice none 0 0, .slice none 0 0] 38)).heap[w.heap.size]? = some (.cells #[.slice none 0 0, .slice none 0 0] 38 (0, 0)) := by
    rw [Below.heap_alloc _ _ _ (by simp)]; exact Bas.heap_new _ _
  have k6 : ((w.alloc (.cells #[.slice none 0 0, .slice none 0 0] 38)).alloc (.cells #[.slice none 0 0, .slice none 0 0] 38)).heap[w.heap.size + 1]? = some (.cells #[.slice none 0 0, .slice none 0 0] 38 (0, 0)) := Bas.heap_new2 _ _ _
  clear U0 U2 U4 hv hn hm hf a2 a4
  go_enter Try.func41, Try.ntmps41
  go_wp2_with (fail)
  generalize (w.alloc (.cells #[.slice none 0 0, .slice none 0 0] 38)).alloc (.cells #[.slice none 0 0, .slice none 0 0] 38) = W at *
  have c40 := cell_of_heap (i := 0) (v := .slice none 0 0) k4 rfl
  have c41 := cell_of_heap (i := 1) (v := .slice none 0 0) k4 rfl
  have c60 := cell_of_heap (i := 0) (v := .slice none 0 0) k6 rfl
  have c61 := cell_of_heap (i := 1) (v := .slice none 0 0) k6 rfl
  have f40 := free_of_heap (i := 0) k4
  have f41 := free_of_heap (i := 1) k4
  refine (HU0.out _ HAL.out).mono ?_
  rintro e w1 ⟨rfl, rfl⟩
  go_wp2_with (fail)
  refine (HU2.out _ HAL.out).mono ?_
  rintro e w1 ⟨rfl, rfl⟩
  go_wp2_with (fail)
  refine (HU4.out _ HAL.out).mono ?_
  rintro e w1 ⟨rfl, rfl⟩
  clear HU0 HU2 HU4
  by_cases hsz : f + 4 * many ≤ len
  case neg =>
    have hD : dataAt bs at' = none := by rw [HDA.out, if_neg (fun h => hsz h.1)]
    have HD := Bas.hid hD
    have HR1 := Bas.hid fun w' => rows_no len f many 4 w' (by omega) (by omega) (by omega) (fun h => hsz (by have := h.2.2.2.2; omega))
    clear hD hsz
    go_wp2_with (fail)
    refine (HR1.out _).mono ?_
    rintro e w1 ⟨rfl, rfl⟩
    go_wp2_with (fail)
    refine bodyPost_ret (v := .tuple #[.agg #[.slice none 0 0, .slice none 0 0], .bool false]) (by simp [results, Try.results41, go_sem, c40, c41]) rfl ⟨by first | exact HAL.out | exact (HAL.out.setCell (p := ⟨w.heap.size, 0, none⟩) (Nat.le_refl _) _).setCell (p := ⟨w.heap.size, 1, none⟩) (Nat.le_refl _) _, ?_⟩
    rw [HD.out]
    exact ⟨none, 0, 0, none, 0, 0, rfl⟩
  have HR1 := Bas.hid fun w' => rows_yes len f many 4 w' (by omega) (by omega) (by omega) (⟨by omega, by omega, .inr (by omega), by omega, by omega⟩ : rowsB len f many 4)
  by_cases hrw : at' + 8 + 8 * n ≤ len
  case neg =>
    have hD : dataAt bs at' = none := by rw [HDA.out, if_neg (fun h => hrw h.2.1)]
    have HD := Bas.hid hD
    have HR2 := Bas.hid fun w' => rows_no len ((at' : Int) + 8) n 8 w' (by omega) (by omega) (by omega) (fun h => hrw (by have := h.2.2.2.2; omega))
    clear hD hsz hrw
    go_wp2_with (fail)
    refine (HR1.out _).mono ?_
    rintro e w1 ⟨rfl, rfl⟩
    go_wp2_with (fail)
    refine (HR2.out _).mono ?_
    rintro e w1 ⟨rfl, rfl⟩
    go_wp2_with (fail)
    refine bodyPost_ret (v := .tuple #[.agg #[.slice none 0 0, .slice none 0 0], .bool false]) (by simp [results, Try.results41, go_sem, c40, c41]) rfl ⟨by first | exact HAL.out | exact (HAL.out.setCell (p := ⟨w.heap.size, 0, none⟩) (Nat.le_refl _) _).setCell (p := ⟨w.heap.size, 1, none⟩) (Nat.le_refl _) _, ?_⟩
    rw [HD.out]
    exact ⟨none, 0, 0, none, 0, 0, rfl⟩
  have HR2 := Bas.hid fun w' => rows_yes len ((at' : Int) + 8) n 8 w' (by omega) (by omega) (by omega) (⟨by omega, by omega, .inr (by omega), by omega, by omega⟩ : rowsB len ((at' : Int) + 8) n 8)
  go_wp2_with (fail)
  refine (HR1.out _).mono ?_
  rintro e w1 ⟨rfl, rfl⟩
  go_wp2_with (fail)
  refine (HR2.out _).mono ?_
  rintro e w1 ⟨rfl, rfl⟩
  clear HR1 HR2
  go_wp2_with (fail)
  have HE := Bas.hid (Row.owned_base (owned_empty W w.heap.size 3 1 HAL.out.size) (Nat.le_refl _))
  have j4 := (Below.heap_alloc W (.cells #[] 3) _ (heap_lt k4)).trans k4
  have j6 := (Below.heap_alloc W (.cells #[] 3) _ (heap_lt k6)).trans k6
  have HB1 := Bas.hid (HAL.out.alloc HAL.out.size (.cells #[] 3))
  generalize W.alloc (.cells #[] 3) = W1 at *
  generalize W.heap.size = T7 at *
  clear k4 k6 c40 c41 c60 c61 f40 f41
  go_loopw [10, 11] (fun vs vi wr => ∃ (i : Nat) (v1 : Value), i ≤ many ∧ vi = .int .i64 i ∧ vs = v1 ∧ risingTo bs f i = true ∧ wr.ownsRow w.heap.size 3 1 v1 i ((sizesL bs f i).map (Value.int .i64)) ∧ Below w.heap.size w wr ∧ wr.heap[w.heap.size]? = some (.cells #[.slice none 0 0, .slice none 0 0] 38 (0, 0)) ∧ wr.heap[w.heap.size + 1]? = some (.cells #[.slice none 0 0, .slice none 0 0] 38 (0, 0))) (fun _ vi _ => many - (intOf vi).toNat)
  case atStart => exact ⟨0, _, Nat.zero_le _, rfl, rfl, rfl, HE.out, HB1.out, j4, j6⟩
  case round =>
    obtain ⟨i, v1, hi, rfl, rfl, hris, hown, hb, k4, k6⟩ := hrel
    have HRIS := Bas.hid hris
    have HO := Bas.hid hown
    have HB := Bas.hid hb
    obtain ⟨ad1, cp1, rfl⟩ := own_slice hown
    clear hris hown hb j4 j6 HE
    have c40 := cell_of_heap (i := 0) (v := .slice none 0 0) k4 rfl
    have c41 := cell_of_heap (i := 1) (v := .slice none 0 0) k4 rfl
    have c60 := cell_of_heap (i := 0) (v := .slice none 0 0) k6 rfl
    have c61 := cell_of_heap (i := 1) (v := .slice none 0 0) k6 rfl
    have f40 := free_of_heap (i := 0) k4
    have f41 := free_of_heap (i := 1) k4
    by_cases him : i < many
    · have V := fun (w' : World) (hb : Below w.heap.size w w') => u_ok a len cap bs ((f : Int) + 4 * (i : Int)) 4 w' (by omega) (HV.out.below hb) hbl (by omega) (by omega) (by omega)
      have e4 : ((f : Int) + 4 * (i : Int)).toNat = f + 4 * i := by omega
      simp only [e4] at V
      have hxb := be4_bd bs HV.out.byte (f + 4 * i) (by omega)
      have HS32 := Bas.hid fun w' => s32_any (be bs (f + 4 * i) 4) w' (by omega) (by omega)
      have HSS := Bas.hid (sizesL_succ bs f i)
      have HST := Bas.hid (rising_step bs f i)
      have HPREV : Hid (0 < i → (sizesL bs f i)[i - 1]? = some (s32 (be bs (f + 4 * (i - 1)) 4))) := fun h => sizesL_get bs f i (i - 1) (by omega)
      have hxs : -2147483648 ≤ s32 (be bs (f + 4 * i) 4) ∧ s32 (be bs (f + 4 * i) 4) ≤ 2147483647 := by unfold s32; split <;> omega
      generalize s32 (be bs (f + 4 * i) 4) = x at *
      generalize be bs (f + 4 * i) 4 = bx at *
      have HVV := Bas.hid V
      have dim : decide ((i : Int) < (many : Int)) = true := by simp; omega
      have dim2 : decide (i < many) = true := by simp; omega
      clear V e4
      go_wp2_with (fail)
      refine (HVV.out _ HB.out).mono ?_
      rintro e w2 ⟨rfl, rfl⟩
      go_wp2_with (fail)
      refine (HS32.out _).mono ?_
      rintro e w2 ⟨rfl, rfl⟩
      clear HVV HS32
      go_wp2_with (at_builtin; refine Row.fence ?_)
      refine Row.unfence ?_
      have hb3 := (Below.refl wr.heap.size wr).alloc (Nat.le_refl _) (.cells #[.int .i64 x] 3)
      have k3 := Bas.heap_new wr (.cells #[.int .i64 x] 3)
      have HO3 := Bas.hid (Row.owned_below HO.out hb3)
      have HB3 := Bas.hid (HB.out.trans (hb3.mono HB.out.size))
      have j4 := (hb3.block _ (heap_lt k4)).trans k4
      have j6 := (hb3.block _ (heap_lt k6)).trans k6
      generalize wr.alloc (.cells #[.int .i64 x] 3) = W3 at *
      have hv4 := own_ty HO3.out j4 (by decide)
      have hv6 := own_ty HO3.out j6 (by decide)
      clear k4 k6 c40 c41 c60 c61 f40 f41 hb3 HO HB
      refine (Row.append_any rfl _ _ 36 3 rfl (.int .i64 0) 1 8 Try.underlying36 infoI0 rfl (by decide) w.heap.size (.slice ad1 i cp1) i _ rfl HO3.out (.slice (some ⟨wr.heap.size, 0, none⟩) 1 1) 1 [.int .i64 x] rfl (leads_heap k3) rfl (by simp; rfl) (by unfold maxLen; omega) (by omega) HB3.out.size ?_)
      intro v' w9 hown9 hg9 _
      rw [← List.map_singleton (f := Value.int .i64), ← List.map_append, ← HSS.out] at hown9
      have k4 := (hg9.block _ (heap_lt j4) (fun e => hv4 e.symm)).trans j4
      have k6 := (hg9.block _ (heap_lt j6) (fun e => hv6 e.symm)).trans j6
      have HB9 := Bas.hid (HB3.out.grown hg9 HB3.out.size (fun g' hg' => (Row.own_block HO3.out hg').1))
      rcases Row.owned_parts hown9 with ⟨_, h0, _⟩ | ⟨G, cp9, hvG, hGb, hGl, hGc, hGm, hcl, -⟩
      · omega
      subst hvG
      have HO9 := Bas.hid hown9
      have cA := hcl i (.int .i64 x) (by rw [HSS.out, List.map_append, List.getElem?_append_right (by simp [sizesL_len])]; simp [sizesL_len])
      have HCL := Bas.hid hcl
      clear hown9 hg9 j4 j6 k3 HO3 HB3 hcl hv4 hv6
      go_wp2_with (fail)
      rcases Nat.eq_zero_or_pos i with hi0 | hi0
      · have dg : decide ((0 : Int) < (i : Int)) = false := by simp; omega
        have dg2 : decide (0 < i) = false := by simp; omega
        have HRR : Hid (risingTo bs f (i + 1) = true) := by unfold Hid; rw [HST.out, HRIS.out, decide_eq_true hi0]; rfl
        clear hi0
        refine' Pl.region_v0 142 [] [0, 1, 2, 3, 4, 5, 6, 7, 8, 9, 10, 11, 12, 13] [] _ (by kernel_rfl) (by kernel_rfl) (by simp) (fun _ _ _ _ e h => ⟨e ▸ h.1, h.2⟩) ?_ ?_
        rotate_left
        · intro I F hI hF
          simp only [Pl.selN, List.nil_append, List.drop_succ_cons, List.drop_zero]
          repeat (go_big_quiet_step (fail))
          refine wpQuiet_nil ?_
          rfl
        intro u5 hu5
        simp only [Pl.selN]
        have r4 := (hu5.block _ (heap_lt k4)).trans k4
        have r6 := (hu5.block _ (heap_lt k6)).trans k6
        have HOE := Bas.hid (Row.owned_below HO9.out hu5)
        have HBE9 := Bas.hid (HB9.out.trans (hu5.mono HB9.out.size))
        clear hu5 k4 k6 HO9 HB9
        go_wp2_with (fail)
        go_roundw
        case rel => exact ⟨i + 1, _, by omega, by go_num, rfl, HRR.out, HOE.out, HBE9.out, r4, r6⟩
        case measure => simp [intOf]; omega
      · have dg : decide ((0 : Int) < (i : Int)) = true := by simp; omega
        have dg2 : decide (0 < i) = true := by simp; omega
        obtain ⟨j, hj⟩ : ∃ j, i = j + 1 := ⟨i - 1, by omega⟩
        have e5 : (i : Int) - 1 = (j : Int) := by omega
        have hji : j < i + 1 := by omega
        have hp := HPREV.out hi0
        have cB := HCL.out j (.int .i64 (s32 (be bs (f + 4 * (i - 1)) 4))) (by
          rw [HSS.out, List.map_append, List.getElem?_append_left (by simp [sizesL_len]; omega), List.getElem?_map, show j = i - 1 by omega, hp]; rfl)
        have hiz : ¬ i = 0 := by omega
        generalize s32 (be bs (f + 4 * (i - 1)) 4) = y at *
        clear hj hp
        by_cases hxy : y < x
        · have dxy : decide (y < x) = true := by simpa using hxy
          have dyx : decide (x ≤ y) = false := by simp; omega
          have HRR : Hid (risingTo bs f (i + 1) = true) := by unfold Hid; rw [HST.out, HRIS.out, dxy]; simp
          clear hiz dxy
          refine' Pl.region_v0 142 [] [0, 1, 2, 3, 4, 5, 6, 7, 8, 9, 10, 11, 12, 13] [] _ (by kernel_rfl) (by kernel_rfl) (by simp) (fun _ _ _ _ e h => ⟨e ▸ h.1, h.2⟩) ?_ ?_
          rotate_left
          · intro I F hI hF
            simp only [Pl.selN, List.nil_append, List.drop_succ_cons, List.drop_zero]
            have y1 := fun q => hF.cell hGl cA q
            have y2 := fun q => hF.cell hGl cB q
            repeat (go_big_quiet_step (fail))
            refine wpQuiet_nil ?_
            rfl
          intro u5 hu5
          simp only [Pl.selN]
          have r4 := (hu5.block _ (heap_lt k4)).trans k4
          have r6 := (hu5.block _ (heap_lt k6)).trans k6
          have HOE := Bas.hid (Row.owned_below HO9.out hu5)
          have HBE9 := Bas.hid (HB9.out.trans (hu5.mono HB9.out.size))
          clear hu5 k4 k6 HO9 HB9
          clear hxy
          go_wp2_with (fail)
          go_roundw
          case rel => exact ⟨i + 1, _, by omega, by go_num, rfl, HRR.out, HOE.out, HBE9.out, r4, r6⟩
          case measure => simp [intOf]; omega
        · have dxy : decide (y < x) = false := by simpa using hxy
          have dyx : decide (x ≤ y) = true := by simp; omega
          have hno : risingTo bs f many = false := by
            have h1 : risingTo bs f (i + 1) = false := by rw [HST.out, dxy, decide_eq_false hiz]; simp
            have := rising_no bs f (many - (i + 1)) (i + 1) h1
            rwa [show i + 1 + (many - (i + 1)) = many by omega] at this
          have HNO : Hid (dataAt bs at' = none) := by unfold Hid; rw [HDA.out, if_neg (fun h => by rw [hno] at h; exact absurd h.2.2 (by decide))]
          clear hiz hno dxy hxy
          refine' Pl.region_v0 142 [] [0, 1, 2, 3, 4, 5, 6, 7, 8, 9, 10, 11, 12, 13] [] _ (by kernel_rfl) (by kernel_rfl) (by simp) (fun _ _ _ _ e h => ⟨e ▸ h.1, h.2⟩) ?_ ?_
          rotate_left
          · intro I F hI hF
            simp only [Pl.selN, List.nil_append, List.drop_succ_cons, List.drop_zero]
            have y1 := fun q => hF.cell hGl cA q
            have y2 := fun q => hF.cell hGl cB q
            repeat (go_big_quiet_step (fail))
            refine wpQuiet_nil ?_
            rfl
          intro u5 hu5
          simp only [Pl.selN]
          have r4 := (hu5.block _ (heap_lt k4)).trans k4
          have r6 := (hu5.block _ (heap_lt k6)).trans k6
          have HOE := Bas.hid (Row.owned_below HO9.out hu5)
          have HBE9 := Bas.hid (HB9.out.trans (hu5.mono HB9.out.size))
          clear hu5 k4 k6 HO9 HB9
          have c40 := cell_of_heap (i := 0) (v := .slice none 0 0) r4 rfl
          have c41 := cell_of_heap (i := 1) (v := .slice none 0 0) r4 rfl
          have c60 := cell_of_heap (i := 0) (v := .slice none 0 0) r6 rfl
          have c61 := cell_of_heap (i := 1) (v := .slice none 0 0) r6 rfl
          have f40 := free_of_heap (i := 0) r4
          have f41 := free_of_heap (i := 1) r4
          go_wp2_with (fail)
          refine bodyPost_ret (v := .tuple #[.agg #[.slice none 0 0, .slice none 0 0], .bool false]) (by simp [results, Try.results41, go_sem, c40, c41]) rfl ⟨by first | exact HBE9.out | exact (HBE9.out.setCell (p := ⟨w.heap.size, 0, none⟩) (Nat.le_refl _) _).setCell (p := ⟨w.heap.size, 1, none⟩) (Nat.le_refl _) _, ?_⟩
          rw [HNO.out]
          exact ⟨none, 0, 0, none, 0, 0, rfl⟩
    · have him2 : i = many := by omega
      have HRIS2 : Hid (risingTo bs f many = true) := by rw [← him2]; exact HRIS.out
      have HDA2 : Hid (dataAt bs at' = (rowsD bs at' many n 0 none).map (trackOf (sizesL bs f many))) := by unfold Hid; rw [HDA.out, if_pos ⟨hsz, hrw, HRIS2.out⟩]
      have HSO := Bas.hid (him2 ▸ HO.out)
      subst him2
      clear HO HRIS HRIS2
      go_wp2_with (fail)
      obtain ⟨wo, hwo⟩ : ∃ wo : World, wo = wr := ⟨_, rfl⟩
      rw [← hwo] at HSO HB k4 k6
      rw [← hwo]
      clear hwo c40 c41 c60 c61 f40 f41
      go_loopw [12, 13] (fun vf vi wr => ∃ (k : Nat) (fd : Option (List Int)) (s1 v2 : Value), k ≤ n ∧ vi = .int .i64 k ∧ vf = .bool fd.isSome ∧ rowsD bs at' i n 0 none = rowsD bs at' i (n - k) k fd ∧ (fd = none → s1 = .slice none 0 0 ∧ v2 = .slice none 0 0) ∧
        (∀ vl, fd = some vl → vl.length = i ∧ s1 = .slice ad1 i cp1 ∧ wr.ownsRow w.heap.size 3 1 v2 vl.length (vl.map (Value.int .i64))) ∧
        wr.ownsRow w.heap.size 3 1 (.slice ad1 i cp1) i ((sizesL bs f i).map (Value.int .i64)) ∧ Below w.heap.size w wr ∧ wr.heap[w.heap.size]? = some (.cells #[.slice none 0 0, .slice none 0 0] 38 (0, 0)) ∧ wr.heap[w.heap.size + 1]? = some (.cells #[s1, v2] 38 (0, 0))) (fun _ vi _ => n - (intOf vi).toNat)
      case atStart => exact ⟨0, none, _, _, Nat.zero_le _, rfl, rfl, rfl, fun _ => ⟨rfl, rfl⟩, (fun vl h => by cases h), HSO.out, HB.out, k4, k6⟩
      case round =>
        obtain ⟨k, fd, s1, v2, hk, rfl, rfl, hrd, hfn, hfs, hsz1, hb, p4, p6⟩ := hrel
        have HRD := Bas.hid hrd
        have HFN := Bas.hid hfn
        have HFS := Bas.hid hfs
        have HS1 := Bas.hid hsz1
        have HBL := Bas.hid hb
        clear hrd hfn hfs hsz1 hb HSO HB k4 k6
        have c40 := cell_of_heap (i := 0) (v := .slice none 0 0) p4 rfl
        have c41 := cell_of_heap (i := 1) (v := .slice none 0 0) p4 rfl
        have f40 := free_of_heap (i := 0) p4
        have f41 := free_of_heap (i := 1) p4
        by_cases hkn : k < n
        · have V := fun (w' : World) (hb : Below w.heap.size w w') => u_ok a len cap bs ((at' : Int) + 8 + 8 * (k : Int) + 6) 2 w' (by omega) (HV.out.below hb) hbl (by omega) (by omega) (by omega)
          have e6 : ((at' : Int) + 8 + 8 * (k : Int) + 6).toNat = at' + 8 + 8 * k + 6 := by omega
          simp only [e6] at V
          have V0 := fun (w' : World) (hb : Below w.heap.size w w') => u_ok a len cap bs ((at' : Int) + 8 + 8 * (k : Int)) 4 w' (by omega) (HV.out.below hb) hbl (by omega) (by omega) (by omega)
          have e0 : ((at' : Int) + 8 + 8 * (k : Int)).toNat = at' + 8 + 8 * k := by omega
          simp only [e0] at V0
          have hob := be2_bd bs HV.out.byte (at' + 8 + 8 * k + 6) (by omega)
          obtain ⟨off, hoff⟩ : ∃ off : Nat, be bs (at' + 8 + 8 * k + 6) 2 = off := ⟨(be bs (at' + 8 + 8 * k + 6) 2).toNat, by omega⟩
          have HSTEP : Hid (rowsD bs at' i (n - k) k fd = if off + 2 * i ≤ len then rowsD bs at' i (n - (k + 1)) (k + 1) (nextF fd (be bs (at' + 8 + 8 * k) 4) (valsL bs off i)) else none) := by
            unfold Hid
            rw [show n - k = (n - (k + 1)) + 1 by omega, rowsD, hoff, Int.toNat_natCast, hbl]
          rw [hoff] at V hob
          generalize be bs (at' + 8 + 8 * k) 4 = kind at *
          obtain ⟨ob0, ob1⟩ := hob
          have HVV := Bas.hid V
          have HV0 := Bas.hid V0
          have dkn : decide ((k : Int) < (n : Int)) = true := by simp; omega
          have dkn2 : decide (k < n) = true := by simp; omega
          clear V V0 e6 e0 hoff
          go_wp2_with (fail)
          refine (HVV.out _ HBL.out).mono ?_
          rintro e w2 ⟨rfl, rfl⟩
          clear HVV
          by_cases hfit : off + 2 * i ≤ len
          · have HR3 := Bas.hid fun w' => rows_yes len off i 2 w' (by omega) (by omega) (by omega) (⟨by omega, by omega, .inr (by omega), by omega, by omega⟩ : rowsB len off i 2)
            have HST2 := Bas.hid (HSTEP.out.trans (if_pos hfit))
            clear HSTEP
            go_wp2_with (fail)
            refine (HR3.out _).mono ?_
            rintro e w2 ⟨rfl, rfl⟩
            clear HR3
            cases fd with
            | some vl =>
              simp only [Option.isSome_some] at *
              go_wp2_with (fail)
              go_roundw
              case rel => exact ⟨k + 1, some vl, s1, v2, by omega, by go_num, rfl, by rw [HRD.out, HST2.out]; rfl, HFN.out, HFS.out, HS1.out, HBL.out, p4, p6⟩
              case measure => simp [intOf]; omega
            | none =>
              obtain ⟨rfl, rfl⟩ := HFN.out rfl
              clear HFN HFS
              simp only [Option.isSome_none] at *
              go_wp2_with (fail)
              refine (HV0.out _ HBL.out).mono ?_
              rintro e w2 ⟨rfl, rfl⟩
              clear HV0
              by_cases hkd : kind = 0
              · subst hkd
                have f60 := free_of_heap (i := 0) p6
                have c60 := cell_of_heap (i := 0) (v := .slice none 0 0) p6 rfl
                have HST3 := Bas.hid HST2.out
                clear HST2
                go_wp2_with (fail)
                have hT46 : w.heap.size ≠ w.heap.size + 1 := by omega
                have x4 := (Below.heap_setCell wr ⟨w.heap.size + 1, 0, none⟩ (.slice ad1 i cp1) w.heap.size hT46).trans p4
                have x6 : (wr.setCell ⟨w.heap.size + 1, 0, none⟩ (.slice ad1 i cp1)).heap[w.heap.size + 1]? = some (.cells #[.slice ad1 i cp1, .slice none 0 0] 38 (0, 0)) := heap_set (i := 0) p6 (.slice ad1 i cp1)
                have HS5 := Bas.hid (Row.owned_keep HS1.out (w' := wr.setCell ⟨w.heap.size + 1, 0, none⟩ (.slice ad1 i cp1)) fun g' hg' => Below.heap_setCell _ _ _ _ (fun e => own_ty HS1.out p6 (by decide) (by rw [hg', e])))
                have HB5 := Bas.hid (HBL.out.setCell (p := ⟨w.heap.size + 1, 0, none⟩) (by show w.heap.size ≤ w.heap.size + 1; omega) (.slice ad1 i cp1))
                generalize wr.setCell ⟨w.heap.size + 1, 0, none⟩ (.slice ad1 i cp1) = W5 at *
                clear p4 p6 c40 c41 f40 f41 c60 f60 HS1 HBL
                go_loopw [15] (fun vj wr => ∃ (j : Nat) (v3 : Value), j ≤ i ∧ vj = .int .i64 j ∧ wr.ownsRow w.heap.size 3 1 (.slice ad1 i cp1) i ((sizesL bs f i).map (Value.int .i64)) ∧ wr.ownsRow w.heap.size 3 1 v3 j ((valsL bs off j).map (Value.int .i64)) ∧ (∀ g, Value.ownBlock (.slice ad1 i cp1) = some g → v3.ownBlock ≠ some g) ∧ Below w.heap.size w wr ∧
                  wr.heap[w.heap.size]? = some (.cells #[.slice none 0 0, .slice none 0 0] 38 (0, 0)) ∧ wr.heap[w.heap.size + 1]? = some (.cells #[.slice ad1 i cp1, v3] 38 (0, 0))) (fun vj _ => i - (intOf vj).toNat)
                case atStart => exact ⟨0, _, Nat.zero_le _, rfl, HS5.out, Row.owned_nil _ _ _ _, (fun g _ h => by cases h), HB5.out, x4, x6⟩
                case round =>
                  obtain ⟨j, v3, hj, rfl, hs1, hv1, hap, hb, y4, y6⟩ := hrel
                  have HSJ := Bas.hid hs1
                  have HVJ := Bas.hid hv1
                  have HAJ := Bas.hid hap
                  have HBJ := Bas.hid hb
                  obtain ⟨ad3, cp3, rfl⟩ := own_slice hv1
                  clear hs1 hv1 hap hb x4 x6 HS5 HB5
                  by_cases hji : j < i
                  · have V := fun (w' : World) (hb : Below w.heap.size w w') => u_ok a len cap bs ((off : Int) + 2 * (j : Int)) 2 w' (by omega) (HV.out.below hb) hbl (by omega) (by omega) (by omega)
                    have e2 : ((off : Int) + 2 * (j : Int)).toNat = off + 2 * j := by omega
                    simp only [e2] at V
                    have HVL := Bas.hid (valsL_succ bs off j)
                    have hxb := be2_bd bs HV.out.byte (off + 2 * j) (by omega)
                    have HS16 := Bas.hid fun w' => s16_any (be bs (off + 2 * j) 2) w' (by omega) (by omega)
                    have hxs : -32768 ≤ s16 (be bs (off + 2 * j) 2) ∧ s16 (be bs (off + 2 * j) 2) ≤ 32767 := by unfold s16; split <;> omega
                    generalize s16 (be bs (off + 2 * j) 2) = x at *
                    generalize be bs (off + 2 * j) 2 = bx at *
                    have HVV := Bas.hid V
                    have dji : decide ((j : Int) < (i : Int)) = true := by simp; omega
                    have dji2 : decide (j < i) = true := by simp; omega
                    clear V e2
                    go_wp2_with (fail)
                    refine' Pl.region_v1 142 [] [0, 1, 2, 3, 4, 5, 6, 7, 8] 9 138 [10, 11, 12] _ (fun v u' => ∃ g, v = .slice (some ⟨g, 0, none⟩) 1 1 ∧ wr.heap.size ≤ g ∧ u'.heap[g]? = some (.cells #[.int .i64 x] 3 (0, 0))) (by kernel_rfl) (by kernel_rfl) (by simp) (fun _ _ _ _ e h => ⟨e ▸ h.1, h.2⟩) ?_ ?_ ?_ ?_
                    rotate_left
                    · intro I F hI hF
                      simp only [Pl.selN, List.nil_append, List.drop_succ_cons, List.drop_zero]
                      have x1 := fun q => hF.cell (heap_lt y6) (cell_of_heap (i := 1) (v := .slice ad3 j cp3) y6 rfl) q
                      repeat (go_big_quiet_step ((first | (go_at_call 40; exact hF.same (HVV.out _ (hF.on HBJ.out _))) | (go_at_call 71; exact hF.same (HS16.out _)))))
                      refine wpQuiet_nil ?_
                      rfl
                    · rintro v x x' ⟨g, h1, h2, h3⟩ hx hx'
                      exact ⟨g, h1, h2, (hx'.block g (heap_lt h3)).trans h3⟩
                    · simp only [Pl.selN, List.drop_succ_cons, List.drop_zero, List.mem_singleton, forall_eq]
                      intro u' hu
                      go_simp
                      simp only [Pl.valsAt]
                      exact ⟨(Below.refl _ _).alloc (Nat.le_refl _) _, _, rfl, hu.size, Bas.heap_new _ _⟩
                    intro v u6 hu hv
                    obtain ⟨g, rfl, hg, hgc⟩ := hv
                    simp only [Pl.selN, List.drop_succ_cons, List.drop_zero, Act.put, List.setIfInBounds_toArray, List.set_cons_zero, List.set_cons_succ]
                    have u4 := (hu.block _ (heap_lt y4)).trans y4
                    have u6' := (hu.block _ (heap_lt y6)).trans y6
                    have HSu := Bas.hid (Row.owned_below HSJ.out hu)
                    have HVu := Bas.hid (Row.owned_below HVJ.out hu)
                    have HBu := Bas.hid (HBJ.out.trans (hu.mono HBJ.out.size))
                    have hv4 := own_ty HVu.out u4 (by decide)
                    have hv6 := own_ty HVu.out u6' (by decide)
                    clear y4 y6 hu HSJ HVJ HBJ
                    refine (Row.append_at rfl _ _ 36 3 rfl (.int .i64 0) 1 8 Try.underlying36 infoI0 rfl (by decide) w.heap.size (.slice ad3 j cp3) j _ rfl HVu.out (.slice (some ⟨g, 0, none⟩) 1 1) 1 [.int .i64 x] rfl (leads_heap hgc) rfl (by simp; rfl) (by unfold maxLen; omega) (by omega) HBu.out.size ?_)
                    intro v' w9 hown9 hg9 _ hat9
                    rw [← List.map_singleton (f := Value.int .i64), ← List.map_append, ← HVL.out] at hown9
                    have s4 := (hg9.block _ (heap_lt u4) (fun e => hv4 e.symm)).trans u4
                    have s6 := (hg9.block _ (heap_lt u6') (fun e => hv6 e.symm)).trans u6'
                    have HB8 := Bas.hid (HBu.out.grown hg9 HBu.out.size (fun g' hg' => (Row.own_block HVu.out hg').1))
                    have HS8 := Bas.hid (Row.owned_keep HSu.out fun g' hg' => hg9.block g' (Row.own_block HSu.out hg').2 (fun e => HAJ.out g' hg' e.symm))
                    have HA8 := Bas.hid (fun g' (hg' : Value.ownBlock (.slice ad1 i cp1) = some g') (e : v'.ownBlock = some g') => (by
                      rcases hat9 with h | h
                      · exact HAJ.out g' hg' (h ▸ e)
                      · rw [h] at e; cases e
                        exact Nat.lt_irrefl _ (Row.own_block HSu.out hg').2 : False))
                    obtain ⟨ad9, cp9, rfl⟩ := own_slice hown9
                    have HV8 := Bas.hid hown9
                    have zc := cell_of_heap (i := 1) (v := .slice ad3 j cp3) s6 rfl
                    have zf := free_of_heap (i := 1) s6
                    clear hown9 hg9 hat9 u4 u6' hgc HSu HVu HBu HAJ hv4 hv6
                    go_wp2_with (fail)
                    have z4 := (Below.heap_setCell w9 ⟨w.heap.size + 1, 1, none⟩ (.slice ad9 (j + 1) cp9) w.heap.size hT46).trans s4
                    have z6 : (w9.setCell ⟨w.heap.size + 1, 1, none⟩ (.slice ad9 (j + 1) cp9)).heap[w.heap.size + 1]? = some (.cells #[.slice ad1 i cp1, .slice ad9 (j + 1) cp9] 38 (0, 0)) := heap_set (i := 1) s6 (.slice ad9 (j + 1) cp9)
                    have HV9 := Bas.hid (Row.owned_keep HV8.out (w' := w9.setCell ⟨w.heap.size + 1, 1, none⟩ (.slice ad9 (j + 1) cp9)) fun g' hg' => Below.heap_setCell _ _ _ _ (fun e => own_ty HV8.out s6 (by decide) (by rw [hg', e])))
                    have HS9 := Bas.hid (Row.owned_keep HS8.out (w' := w9.setCell ⟨w.heap.size + 1, 1, none⟩ (.slice ad9 (j + 1) cp9)) fun g' hg' => Below.heap_setCell _ _ _ _ (fun e => own_ty HS8.out s6 (by decide) (by rw [hg', e])))
                    have HB9 := Bas.hid (HB8.out.setCell (p := ⟨w.heap.size + 1, 1, none⟩) (by show w.heap.size ≤ w.heap.size + 1; omega) (.slice ad9 (j + 1) cp9))
                    generalize w9.setCell ⟨w.heap.size + 1, 1, none⟩ (.slice ad9 (j + 1) cp9) = W10 at *
                    go_roundw
                    case rel => exact ⟨j + 1, _, by omega, by go_num, HS9.out, HV9.out, HA8.out, HB9.out, z4, z6⟩
                    case measure => simp [intOf]; omega
                  · have hji2 : j = i := by omega
                    subst hji2
                    have HVE : Hid (wr.ownsRow w.heap.size 3 1 (.slice ad3 j cp3) (valsL bs off j).length ((valsL bs off j).map (Value.int .i64))) := by
                      unfold Hid
                      rw [valsL_len]
                      exact HVJ.out
                    go_wp2_with (fail)
                    go_roundw
                    case rel => exact ⟨k + 1, some (valsL bs off j), _, _, by omega, by go_num, rfl, by rw [HRD.out, HST3.out]; rfl, (fun h => by cases h), (fun vl h => by cases h; exact ⟨valsL_len _ _ _, rfl, HVE.out⟩), HSJ.out, HBJ.out, y4, y6⟩
                    case measure => simp [intOf]; omega
              · have hkd2 : (kind == 0) = false := by simpa using hkd
                have HST3 := Bas.hid (HST2.out.trans (by rw [nextF_no hkd] : _ = rowsD bs at' i (n - (k + 1)) (k + 1) none))
                clear HST2 hkd
                go_wp2_with (fail)
                go_roundw
                case rel => exact ⟨k + 1, none, _, _, by omega, by go_num, rfl, by rw [HRD.out, HST3.out], fun _ => ⟨rfl, rfl⟩, (fun vl h => by cases h), HS1.out, HBL.out, p4, p6⟩
                case measure => simp [intOf]; omega
          · have HNO : Hid (dataAt bs at' = none) := by unfold Hid; rw [HDA2.out, HRD.out, HSTEP.out, if_neg hfit]; rfl
            have HR3 := Bas.hid fun w' => rows_no len off i 2 w' (by omega) (by omega) (by omega) (fun h => hfit (by have := h.2.2.2.2; omega))
            clear HSTEP hfit
            go_wp2_with (fail)
            refine (HR3.out _).mono ?_
            rintro e w2 ⟨rfl, rfl⟩
            go_wp2_with (fail)
            refine bodyPost_ret (v := .tuple #[.agg #[.slice none 0 0, .slice none 0 0], .bool false]) (by simp [results, Try.results41, go_sem, c40, c41]) rfl ⟨by first | exact HBL.out | exact (HBL.out.setCell (p := ⟨w.heap.size, 0, none⟩) (Nat.le_refl _) _).setCell (p := ⟨w.heap.size, 1, none⟩) (Nat.le_refl _) _, ?_⟩
            rw [HNO.out]
            exact ⟨none, 0, 0, none, 0, 0, rfl⟩
        · have hdone : dataAt bs at' = some (trackOf (sizesL bs f i) fd) := by
            rw [HDA2.out, HRD.out, show n - k = 0 by omega, rowsD]; rfl
          have HD := Bas.hid hdone
          clear hdone
          cases fd with
          | none =>
            obtain ⟨rfl, rfl⟩ := HFN.out rfl
            have c60 := cell_of_heap (i := 0) (v := .slice none 0 0) p6 rfl
            have c61 := cell_of_heap (i := 1) (v := .slice none 0 0) p6 rfl
            go_wp2_with (fail)
            refine bodyPost_ret (v := .tuple #[.agg #[.slice none 0 0, .slice none 0 0], .bool true]) (by simp [results, Try.results41, go_sem, c40, c41]) rfl ⟨by first | exact HBL.out | exact (HBL.out.setCell (p := ⟨w.heap.size, 0, none⟩) (Nat.le_refl _) _).setCell (p := ⟨w.heap.size, 1, none⟩) (Nat.le_refl _) _, ?_⟩
            rw [HD.out]
            exact ⟨_, _, rfl, Row.owned_nil _ _ _ _, Row.owned_nil _ _ _ _⟩
          | some vl =>
            obtain ⟨hvl, rfl, hown2⟩ := HFS.out vl rfl
            obtain ⟨ad2, cp2, rfl⟩ := own_slice hown2
            have c60 := cell_of_heap (i := 0) (v := .slice ad1 i cp1) p6 rfl
            have c61 := cell_of_heap (i := 1) (v := .slice ad2 vl.length cp2) p6 rfl
            have hkeep : ∀ (x y : Value) g', g' ≠ w.heap.size → ((wr.setCell ⟨w.heap.size, 0, none⟩ x).setCell ⟨w.heap.size, 1, none⟩ y).heap[g']? = wr.heap[g']? := fun x y g' h => (Below.heap_setCell _ _ _ _ h).trans (Below.heap_setCell _ _ _ _ h)
            have HKP := Bas.hid hkeep
            have hs4 := own_ty HS1.out p4 (by decide)
            have hv4 := own_ty hown2 p4 (by decide)
            have HV1 := Bas.hid hown2
            clear hkeep hown2 hvl
            go_wp2_with (fail)
            refine bodyPost_ret (v := .tuple #[.agg #[.slice ad1 i cp1, .slice ad2 vl.length cp2], .bool true]) (by simp [results, Try.results41, go_sem, c40, c41]) rfl ⟨(HBL.out.setCell (p := ⟨w.heap.size, 0, none⟩) (Nat.le_refl _) _).setCell (p := ⟨w.heap.size, 1, none⟩) (Nat.le_refl _) _, ?_⟩
            rw [HD.out]
            refine ⟨_, _, rfl, ?_, ?_⟩
            · show World.ownsRow _ _ _ _ _ (sizesL bs f i).length ((sizesL bs f i).map _)
              rw [sizesL_len]
              exact Row.owned_keep HS1.out fun g' hg' => HKP.out _ _ g' (fun e => hs4 (by rw [hg', e]))
            · exact Row.owned_keep HV1.out fun g' hg' => HKP.out _ _ g' (fun e => hv4 (by rw [hg', e]))

theorem rdata_any (a : Option Addr) (len cap : Nat) (bs : List Int) (at' : Nat) (w : World) (hv : VB w a bs) (hbl : bs.length = len) (hsmall : len ≤ 1000000000) (hatb : at' ≤ 65535) :
    Calls Try.prog 41 #[.slice a len cap, .int .i64 at'] w (RDataP w bs at') := by
  by_cases h0 : at' = 0
  · subst h0; exact rdata_zero a len cap bs w
  · by_cases h8 : at' + 8 ≤ len
    · have hnb := be2_bd bs hv.byte at' (by omega)
      have hmb := be2_bd bs hv.byte (at' + 2) (by omega)
      have hfb := be4_bd bs hv.byte (at' + 4) (by omega)
      exact rdata_main a len cap bs at' (be bs at' 2).toNat (be bs (at' + 2) 2).toNat (be bs (at' + 4) 4).toNat w hv hbl hsmall h0 hatb h8 (by omega) (by omega) (by omega)
    · exact rdata_out a len cap bs at' w hv hbl hsmall h0 hatb (by omega)
end Tk
end Go.Proofs.Ytfocjagkhoonmaa
