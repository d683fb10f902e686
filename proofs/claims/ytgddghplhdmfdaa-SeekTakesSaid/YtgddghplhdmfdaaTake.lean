/- Layer 5 (seek): none and Take. -/
import Derived.Test.YtgddghplhdmfdaaOwn
import Derived.Test.YtgddghplhdmfdaaRow
import Derived.Test.YtgddghplhdmfdaaPlace
namespace Go.Proofs.Ytgddghplhdmfdaa
open Go.RowKit
namespace Sk
open Vw

/-- Are the first words, so many, all 0xFFFF? -/
def noneB (bs : List Int) : Nat → Bool
  | 0 => true
  | k + 1 => noneB bs k && be bs (2 * k) 2 == 65535

theorem noneB_stop (bs : List Int) (i k : Nat) (hi : i < k) (h : be bs (2 * i) 2 ≠ 65535) : noneB bs k = false := by
  induction k with
  | zero => omega
  | succ k ih =>
    unfold noneB
    by_cases hk : i < k
    · rw [ih hk]; rfl
    · have : i = k := by omega
      subst this
      simp [h]

theorem noneB_all (bs : List Int) (k : Nat) (h : ∀ i, i < k → be bs (2 * i) 2 = 65535) : noneB bs k = true := by
  induction k with
  | zero => rfl
  | succ k ih => unfold noneB; rw [ih (fun i hi => h i (by omega)), h k (by omega)]; rfl

set_option maxHeartbeats 1000000 in
theorem none_any (a : Option Addr) (len cap : Nat) (bs : List Int) (keys : Nat) (w : World) (hl : len ≤ cap) (hc : cap ≤ maxLen) (hv : VB w a bs) (hbl : bs.length = len) (hk : 2 * keys ≤ len) :
    Calls Try.prog 56 #[.agg #[.slice a len cap], .int .i64 keys] w fun e w' => e = .returned (.bool (noneB bs keys)) ∧ Below w.heap.size w w' := by
  have hvl := hv.len
  have HV := Bas.hid hv
  clear hv
  go_enter Try.func56, Try.ntmps56
  go_wp2_with (fail)
  go_loopw [7] (fun c wr => ∃ i : Nat, i ≤ keys ∧ c = .int .i64 i ∧ Below w.heap.size w wr ∧ w.heap.size < wr.heap.size ∧ wr.cell? ⟨w.heap.size, 0, none⟩ = some (.slice a len cap) ∧ ∀ j, j < i → be bs (2 * j) 2 = 65535) (fun c _ => keys - (intOf c).toNat)
  case atStart => exact ⟨0, by omega, rfl, (Below.refl _ _).alloc (Nat.le_refl _) _, by simp, by simp, by omega⟩
  case round =>
    obtain ⟨i, hi, rfl, hb, hz, hcell, hall⟩ := hrel
    have HA := Bas.hid hall
    clear hall
    by_cases hik : i < keys
    · have e2 : (2 : Int) * (i : Int) = ((2 * i : Nat) : Int) := by omega
      have C := u16_ok a len cap bs ((2 * i : Nat) : Int) wr hl hc (HV.out.below hb) hbl (by omega) (by omega)
      rw [Int.toNat_natCast, ← e2] at C
      have HC := Bas.hid C
      clear C e2
      go_wp2_with (fail)
      refine HC.out.mono ?_
      rintro e w2 ⟨rfl, hb2⟩
      have HB2 : Below w.heap.size w w2 := hb.trans (hb2.mono hb.size)
      have hc2 : w2.cell? ⟨w.heap.size, 0, none⟩ = some (.slice a len cap) := (hb2.cell (p := ⟨w.heap.size, 0, none⟩) hz).trans hcell
      have hz2 : w.heap.size < w2.heap.size := Nat.lt_of_lt_of_le hz hb2.size
      clear hb2 HC
      by_cases hx : be bs (2 * i) 2 = 65535
      · rw [hx]
        have HX := Bas.hid hx
        clear hx
        go_wp2_with (fail)
        go_roundw
        case rel => exact ⟨i + 1, by omega, by go_num, HB2, hz2, hc2, fun j hj => by
          by_cases h : j = i
          · rw [h]; exact HX.out
          · exact HA.out j (by omega)⟩
        case measure => simp [intOf]; omega
      · have hN := noneB_stop bs i keys hik hx
        have q : (be bs (2 * i) 2 == 65535) = false := by simpa using hx
        have HN := Bas.hid hN
        clear hx hN
        generalize be bs (2 * i) 2 = y at q ⊢
        go_wp2_with (fail)
        go_ret
        exact ⟨by rw [HN.out]; rfl, HB2⟩
    · have : i = keys := by omega
      subst this
      have hN := noneB_all bs i HA.out
      have HN := Bas.hid hN
      clear hN
      go_wp2_with (fail)
      go_ret
      exact ⟨by rw [HN.out]; rfl, hb⟩

/-- The cells of the rows, one view each. -/
def rowV (A : Option Addr) (s : Nat) (i : Nat) : Value := .slice (sub A (s * i) s) s s
def rowsV (A : Option Addr) (s n : Nat) : List Value := (List.range n).map (rowV A s)

theorem rowsV_succ (A : Option Addr) (s n : Nat) : rowsV A s (n + 1) = rowsV A s n ++ [rowV A s n] := by
  unfold rowsV; rw [List.range_succ, List.map_append]; rfl
theorem rowsV_len (A : Option Addr) (s n : Nat) : (rowsV A s n).length = n := by simp [rowsV]

/-- How many rows there are, but for one that ends them. -/
def rowCount (bs : List Int) (p s n keys : Nat) : Nat := if 0 < n ∧ noneB ((bs.drop (p + 10 + s * (n - 1))).take s) keys = true then n - 1 else n

def TakePost (w : World) (A : Option Addr) (s m : Nat) (e : Ending) (w' : World) : Prop :=
  ∃ v, e = .returned v ∧ w'.ownsRow w.heap.size 54 1 v m (rowsV A s m) ∧ Below w.heap.size w w'

theorem infoV : (Try.prog.info? 54).map (fun i => (i.zero, i.size, i.bytes)) = some (some (.agg #[.slice none 0 0]), 1, 24) := by kernel_rfl

theorem owned_init {w : World} {base g cap s : Nat} {A : Option Addr} {i : Nat} (h : w.ownsRow base 54 1 (.slice (some ⟨g, 0, none⟩) i cap) i (rowsV A s i)) (_hi : 0 < i) :
    w.ownsRow base 54 1 (.slice (some ⟨g, 0, none⟩) (i - 1) cap) (i - 1) (rowsV A s (i - 1)) := by
  obtain ⟨hlen, ⟨h0, _⟩ | ⟨g', cap', cur, he, hg, hh, hc, hm, hs, ht⟩⟩ := h
  · cases h0
  · cases he
    refine ⟨by rw [rowsV_len]; omega, .inr ⟨g, cap, cur, rfl, hg, hh, by omega, hm, hs, ?_⟩⟩
    have h2 : (cur.toList.take (i * 1)).take (i - 1) = (rowsV A s i).take (i - 1) := by rw [ht]
    rw [List.take_take, Nat.min_eq_left (by omega)] at h2
    rw [Nat.mul_one, h2]
    unfold rowsV
    rw [← List.map_take, List.take_range, Nat.min_eq_left (by omega)]

set_option maxRecDepth 20000 in
set_option maxHeartbeats 4000000 in
theorem take_yes (a : Option Addr) (len cap : Nat) (bs : List Int) (p s n keys : Nat) (need : Int) (w : World) (hl : len ≤ cap) (hc : cap ≤ maxLen) (hv : VB w a bs) (hbl : bs.length = len)
    (h10 : p + 10 ≤ len) (hs : be bs p 2 = s) (hn : be bs (p + 2) 2 = n) (hneed : need ≤ s) (hk : 2 * keys ≤ s) (hrow : rowsB len ((p : Int) + 10) n s) :
    Calls Try.prog 33 #[.agg #[.slice a len cap], .int .i64 p, .int .i64 need, .int .i64 keys] w (TakePost w (sub a (p + 10) (n * s)) s (rowCount bs p s n keys)) := by
  have hbs := be2_bd bs hv.byte p (by omega)
  have hbn := be2_bd bs hv.byte (p + 2) (by omega)
  rw [hs] at hbs
  rw [hn] at hbn
  have hvl := hv.len
  have hlm : len ≤ 9223372036854775807 := by unfold maxLen at hc; omega
  have hv0 : VB (w.alloc (.cells #[.slice a len cap] 54)) a bs := hv.below ((Below.refl _ _).alloc (Nat.le_refl _) _)
  generalize hW : w.alloc (.cells #[.slice a len cap] 54) = W at hv0
  have hWs : W.heap.size = w.heap.size + 1 := by rw [← hW]; simp
  have cv : W.cell? ⟨w.heap.size, 0, none⟩ = some (.slice a len cap) := by rw [← hW]; simp
  have HBW : Below w.heap.size w W := by rw [← hW]; exact (Below.refl w.heap.size w).alloc (Nat.le_refl _) _
  have HW := Bas.hid hW
  clear hW
  obtain ⟨I, F, hI, HF⟩ := Bas.fam W.heap.size W
  have hB0 : W.heap.size ≤ W.heap.size := Nat.le_refl _
  have cvF := fun i => Bas.cell_fam HF (by omega) cv i
  have hst := HF.1 _ ((Below.refl _ _).drew)
  have HST := Bas.hid hst
  have e2 : ((p : Int) + 2) = ((p + 2 : Nat) : Int) := by omega
  have U1 := fun i => u16_ok a len cap bs ((p : Nat) : Int) (F i) hl hc (hv0.below (HF.2 i)) hbl (by omega) (by omega)
  have U2 := fun i => u16_ok a len cap bs ((p + 2 : Nat) : Int) (F i) hl hc (hv0.below (HF.2 i)) hbl (by omega) (by omega)
  simp only [Int.toNat_natCast] at U1 U2
  simp only [hs] at U1
  simp only [hn] at U2
  rw [← e2] at U2
  have HU1 := Bas.hid U1
  have HU2 := Bas.hid U2
  clear hst U1 U2 e2
  go_enter Try.func33, Try.ntmps33
  go_wp2_with (fail)
  rw [HW.out]
  refine Bas.region_fam (by kernel_rfl) (by kernel_rfl) HST.out ?_
  repeat (go_big_quiet_step ((go_at_call 44; first | with_reducible exact Bas.call_fam HF hB0 (HU1.out _) | with_reducible exact Bas.call_fam HF hB0 (HU2.out _))))
  refine wpQuiet_nil ?_
  intro i0
  have hb1 := HF.2 i0
  have c1 := cvF i0
  generalize F i0 = W1 at *
  have HB1 : Below w.heap.size w W1 := HBW.trans (hb1.mono HBW.size)
  have hz1 : w.heap.size < W1.heap.size := by have := hb1.size; omega
  clear cvF HU1 HU2 HST HF hv0 cv
  go_wp2_with (fail)
  refine (cut_ok a len cap (p : Int) 10 _ hl hc (by omega) (by omega) (by omega)).mono ?_
  rintro e w2 ⟨rfl, hb2⟩
  have c2 := (hb2.cell (p := ⟨w.heap.size, 0, none⟩) hz1).trans c1
  have HB2 : Below w.heap.size w w2 := HB1.trans (hb2.mono HB1.size)
  have hz2 : w.heap.size < w2.heap.size := Nat.lt_of_lt_of_le hz1 hb2.size
  clear c1 hb1 hb2
  go_wp2_with (fail)
  refine (need_yesb _ _ (by first | rfl | (simp; done) | (simp; omega))).mono ?_
  rintro e w' ⟨rfl, rfl⟩
  go_wp2_with (fail)
  refine (rows_ok a len cap _ _ _ _ hl hc hrow).mono ?_
  rintro e w3 ⟨rfl, hb3⟩
  have c3 := (hb3.cell (p := ⟨w.heap.size, 0, none⟩) hz2).trans c2
  have HB3 : Below w.heap.size w w3 := HB2.trans (hb3.mono HB2.size)
  have hz3 : w.heap.size < w3.heap.size := Nat.lt_of_lt_of_le hz2 hb3.size
  clear c2 hb3
  have ep : ((p : Int) + 10).toNat = p + 10 := by omega
  have en : ((n : Int) * (s : Int)).toNat = n * s := by rw [← Int.natCast_mul, Int.toNat_natCast]
  rw [ep, en]
  have hns : n * s ≤ len := by
    have := hrow.2.2.2.2
    rw [← Int.natCast_mul] at this
    omega
  generalize hA : sub a (p + 10) (n * s) = A
  have HA := Bas.hid hA
  have HROW := Bas.hid hrow
  clear hA hrow ep en
  go_wp2_with (fail)
  generalize hW3 : w3.alloc (.cells #[.slice A (n * s) (n * s)] 54) = W3
  have hz4 : w3.heap.size < W3.heap.size := by rw [← hW3]; simp
  have c4 : W3.cell? ⟨w3.heap.size, 0, none⟩ = some (.slice A (n * s) (n * s)) := by rw [← hW3]; simp
  have HB4 : Below w.heap.size w W3 := by rw [← hW3]; exact HB3.alloc HB3.size _
  clear hW3 c3 HB3
  go_loopw [12, 35] (fun v c wr => ∃ i : Nat, i ≤ n ∧ c = .int .i64 i ∧ wr.ownsRow W3.heap.size 54 1 v i (rowsV A s i) ∧ Below W3.heap.size W3 wr) (fun _ c _ => n - (intOf c).toNat)
  case atStart => exact ⟨0, by omega, rfl, Row.owned_nil _ _ _ _, Below.refl _ _⟩
  case round =>
    obtain ⟨i, hi, rfl, hown, hb⟩ := hrel
    have hbs2 := hb.size
    have c5 := (hb.cell (p := ⟨w3.heap.size, 0, none⟩) (by show w3.heap.size < _; omega)).trans c4
    by_cases hin : i < n
    · have hsi : s * i + s ≤ n * s := by
        have := Nat.mul_le_mul_left s (show i + 1 ≤ n from hin)
        rw [Nat.mul_add, Nat.mul_one, Nat.mul_comm s n] at this
        exact this
      have em : (s : Int) * (i : Int) = ((s * i : Nat) : Int) := by rw [Int.natCast_mul]
      have C := cut_nat A (n * s) (n * s) (s * i) s wr (Nat.le_refl _) (by unfold maxLen; omega) hsi
      rw [← em] at C
      have hm0 : 0 ≤ (s : Int) * (i : Int) := by omega
      have hm1 : (s : Int) * (i : Int) ≤ 140737488355328 := by omega
      have HC := Bas.hid C
      have HS := Bas.hid (rowsV_succ A s i)
      have HO := Bas.hid hown
      clear C em hsi hown
      go_wp2_with (fail)
      refine HC.out.mono ?_
      rintro e w5 ⟨rfl, hb5⟩
      have d5 := Row.owned_below HO.out hb5
      have HB5 : Below W3.heap.size W3 w5 := hb.trans (hb5.mono hb.size)
      have hs5 := HB5.size
      clear hb5 HC
      go_wp2_with (at_builtin; refine Row.append_any rfl _ _ 86 54 rfl (.agg #[.slice none 0 0]) 1 24 Try.underlying86 infoV rfl (by decide) W3.heap.size _ i _ rfl (d5.alloc _) (.slice (some ⟨w5.heap.size, 0, none⟩) 1 1) 1 [rowV A s i] rfl (Row.leads_one _ _ _) rfl (by simp; rfl) (by unfold maxLen; omega) (by omega) (by simp; omega) ?_)
      intro v' w' hown' hgrow _
      have hown2 : w'.ownsRow W3.heap.size 54 1 v' (i + 1) (rowsV A s (i + 1)) := by rw [HS.out]; exact hown'
      have hb2 : Below W3.heap.size W3 w' := (HB5.alloc hs5 _).grown hgrow (by simp; omega) (fun g hg => by
        rcases Row.owned_parts d5 with ⟨rfl, _⟩ | ⟨g', cp, rfl, hg', _⟩
        · cases hg
        · cases hg; exact hg')
      clear hown' hgrow d5
      go_wp2_with (fail)
      go_roundw
      case rel => exact ⟨i + 1, by omega, by go_num, hown2, hb2⟩
      case measure => simp [intOf]; omega
    · have : i = n := by omega
      subst this
      have HBr : Below w.heap.size w wr := HB4.trans (hb.mono HB4.size)
      have hbase : w.heap.size ≤ W3.heap.size := HB4.size
      have HCNT : Hid (rowCount bs p s i keys = if 0 < i ∧ noneB ((bs.drop (p + 10 + s * (i - 1))).take s) keys = true then i - 1 else i) := rfl
      by_cases hi0 : 0 < i
      · have hvr : VB wr (sub A (s * (i - 1)) s) ((bs.drop (p + 10 + s * (i - 1))).take s) := by
          have h1 := (hv.below HBr).sub (p + 10) (i * s) (by rw [hbl]; have := HROW.out.2.2.2.2; rw [← Int.natCast_mul] at this; omega)
          rw [HA.out] at h1
          have hs1 : s * (i - 1) + s = i * s := by
            obtain ⟨m, rfl⟩ : ∃ m, i = m + 1 := ⟨i - 1, by omega⟩
            rw [Nat.add_sub_cancel, Nat.add_mul, Nat.one_mul, Nat.mul_comm]
          have h2 := h1.sub (s * (i - 1)) s (by
            rw [List.length_take, List.length_drop, hbl]
            have := HROW.out.2.2.2.2; rw [← Int.natCast_mul] at this; omega)
          rw [List.drop_take, List.take_take, List.drop_drop, Nat.min_eq_left (by omega)] at h2
          exact h2
        have hrl : ((bs.drop (p + 10 + s * (i - 1))).take s).length = s := by
          have hs1 : s * (i - 1) + s = i * s := by
            obtain ⟨m, rfl⟩ : ∃ m, i = m + 1 := ⟨i - 1, by omega⟩
            rw [Nat.add_sub_cancel, Nat.add_mul, Nat.one_mul, Nat.mul_comm]
          rw [List.length_take, List.length_drop, hbl]
          have := HROW.out.2.2.2.2; rw [← Int.natCast_mul] at this; omega
        have hsm : s ≤ maxLen := by unfold maxLen; omega
        have NC := none_any (sub A (s * (i - 1)) s) s s _ keys wr (Nat.le_refl _) hsm hvr hrl hk
        generalize hnb : noneB ((bs.drop (p + 10 + s * (i - 1))).take s) keys = nb at NC HCNT
        have HNC := Bas.hid NC
        have HO := Bas.hid hown
        rcases Row.owned_parts hown with ⟨_, h0, _⟩ | ⟨g, cg, rfl, hg, hgl, hgc, hgm, hcl, hfr⟩
        · omega
        have cl : wr.cell? ⟨g, i - 1, none⟩ = some (rowV A s (i - 1)) := hcl (i - 1) _ (by
          unfold rowsV; rw [List.getElem?_map, List.getElem?_range (by omega)]; rfl)
        unfold rowV at cl
        have ei : (i : Int) - 1 = ((i - 1 : Nat) : Int) := by omega
        have HEI := Bas.hid ei
        clear NC hnb hvr hrl hsm hcl hfr hown ei
        go_wp2_with (fail)
        refine HNC.out.mono ?_
        rintro e w6 ⟨rfl, hb6⟩
        have HB6 : Below w.heap.size w w6 := HBr.trans (hb6.mono HBr.size)
        have d6 := Row.owned_base (Row.owned_below HO.out hb6) hbase
        have D6 := Bas.hid d6
        clear HNC HO hb6 cl d6
        cases nb with
        | true =>
          go_wp2_with (fail)
          go_ret
          refine ⟨_, rfl, ?_, HB6⟩
          rw [HCNT.out, if_pos ⟨hi0, trivial⟩, HA.out]
          have hT := owned_init D6.out (by omega)
          simpa using hT
        | false =>
          go_wp2_with (fail)
          go_ret
          refine ⟨_, rfl, ?_, HB6⟩
          rw [HCNT.out, if_neg (by simp), HA.out]
          exact D6.out
      · have hi00 : i = 0 := by omega
        subst hi00
        go_wp2_with (fail)
        go_ret
        exact ⟨_, rfl, by rw [HCNT.out, HA.out]; simpa using Row.owned_base hown hbase, HBr⟩
set_option maxRecDepth 20000 in
set_option maxHeartbeats 4000000 in
theorem take_short (a : Option Addr) (len cap : Nat) (bs : List Int) (p s n keys : Nat) (need : Int) (w : World) (hl : len ≤ cap) (hc : cap ≤ maxLen) (hv : VB w a bs) (hbl : bs.length = len)
    (h4 : p + 4 ≤ len) (hs : be bs p 2 = s) (hn : be bs (p + 2) 2 = n) (hno : ¬ (p + 10 ≤ len ∧ need ≤ s ∧ rowsB len ((p : Int) + 10) n s)) :
    Calls Try.prog 33 #[.agg #[.slice a len cap], .int .i64 p, .int .i64 need, .int .i64 keys] w (fun e w' => e = .panicked short ∧ Below w.heap.size w w') := by
  have hbs := be2_bd bs hv.byte p (by omega)
  have hbn := be2_bd bs hv.byte (p + 2) (by omega)
  rw [hs] at hbs
  rw [hn] at hbn
  have hvl := hv.len
  have hlm : len ≤ 9223372036854775807 := by unfold maxLen at hc; omega
  have hv0 : VB (w.alloc (.cells #[.slice a len cap] 54)) a bs := hv.below ((Below.refl _ _).alloc (Nat.le_refl _) _)
  generalize hW : w.alloc (.cells #[.slice a len cap] 54) = W at hv0
  have hWs : W.heap.size = w.heap.size + 1 := by rw [← hW]; simp
  have cv : W.cell? ⟨w.heap.size, 0, none⟩ = some (.slice a len cap) := by rw [← hW]; simp
  have HBW : Below w.heap.size w W := by rw [← hW]; exact (Below.refl w.heap.size w).alloc (Nat.le_refl _) _
  have HW := Bas.hid hW
  clear hW
  obtain ⟨I, F, hI, HF⟩ := Bas.fam W.heap.size W
  have hB0 : W.heap.size ≤ W.heap.size := Nat.le_refl _
  have cvF := fun i => Bas.cell_fam HF (by omega) cv i
  have hst := HF.1 _ ((Below.refl _ _).drew)
  have HST := Bas.hid hst
  have e2 : ((p : Int) + 2) = ((p + 2 : Nat) : Int) := by omega
  have U1 := fun i => u16_ok a len cap bs ((p : Nat) : Int) (F i) hl hc (hv0.below (HF.2 i)) hbl (by omega) (by omega)
  have U2 := fun i => u16_ok a len cap bs ((p + 2 : Nat) : Int) (F i) hl hc (hv0.below (HF.2 i)) hbl (by omega) (by omega)
  simp only [Int.toNat_natCast] at U1 U2
  simp only [hs] at U1
  simp only [hn] at U2
  rw [← e2] at U2
  have HU1 := Bas.hid U1
  have HU2 := Bas.hid U2
  clear hst U1 U2 e2
  go_enter Try.func33, Try.ntmps33
  go_wp2_with (fail)
  rw [HW.out]
  refine Bas.region_fam (by kernel_rfl) (by kernel_rfl) HST.out ?_
  repeat (go_big_quiet_step ((go_at_call 44; first | with_reducible exact Bas.call_fam HF hB0 (HU1.out _) | with_reducible exact Bas.call_fam HF hB0 (HU2.out _))))
  refine wpQuiet_nil ?_
  intro i0
  have hb1 := HF.2 i0
  have c1 := cvF i0
  generalize F i0 = W1 at *
  have HB1 : Below w.heap.size w W1 := HBW.trans (hb1.mono HBW.size)
  have hz1 : w.heap.size < W1.heap.size := by have := hb1.size; omega
  clear cvF HU1 HU2 HST HF hv0 cv
  go_wp2_with (fail)
  have HNO := Bas.hid hno
  clear hno
  by_cases h10 : p + 10 ≤ len
  · refine (cut_ok a len cap (p : Int) 10 _ hl hc (by omega) (by omega) (by omega)).mono ?_
    rintro e w2 ⟨rfl, hb2⟩
    have c2 := (hb2.cell (p := ⟨w.heap.size, 0, none⟩) hz1).trans c1
    have HB2 : Below w.heap.size w w2 := HB1.trans (hb2.mono HB1.size)
    clear c1 hb1 hb2
    by_cases hneed : need ≤ s
    · go_wp2_with (fail)
      refine (need_yesb _ _ (by first | rfl | (simp; done) | (simp; omega))).mono ?_
      rintro e w' ⟨rfl, rfl⟩
      go_wp2_with (fail)
      refine (rows_no a len cap _ _ _ _ hl hc (fun h => HNO.out ⟨h10, hneed, h⟩)).mono ?_
      rintro e w3 ⟨rfl, hb3⟩
      go_wp2_with (fail)
      exact ⟨rfl, rfl, HB2.trans (hb3.mono HB2.size)⟩
    · go_wp2_with (fail)
      refine (need_nob _ _ (by first | (simp; done) | (simp; omega))).mono ?_
      rintro e w' ⟨rfl, rfl⟩
      go_wp2_with (fail)
      exact ⟨rfl, rfl, HB2⟩
  · refine (cut_no a len cap (p : Int) 10 _ hl hc (by omega)).mono ?_
    rintro e w2 ⟨rfl, hb2⟩
    go_wp2_with (fail)
    exact ⟨rfl, rfl, HB1.trans (hb2.mono HB1.size)⟩
set_option maxRecDepth 20000 in
set_option maxHeartbeats 4000000 in
theorem take_out (a : Option Addr) (len cap : Nat) (bs : List Int) (at' : Int) (keys need : Int) (w : World) (hl : len ≤ cap) (hc : cap ≤ maxLen) (hv : VB w a bs) (hbl : bs.length = len)
    (hno : ¬ (0 ≤ at' ∧ at' + 4 ≤ len)) :
    Calls Try.prog 33 #[.agg #[.slice a len cap], .int .i64 at', .int .i64 need, .int .i64 keys] w (fun e w' => e = .panicked short ∧ Below w.heap.size w w') := by
  have hlm : len ≤ 9223372036854775807 := by unfold maxLen at hc; omega
  have hv0 : VB (w.alloc (.cells #[.slice a len cap] 54)) a bs := hv.below ((Below.refl _ _).alloc (Nat.le_refl _) _)
  generalize hW : w.alloc (.cells #[.slice a len cap] 54) = W at hv0
  have cv : W.cell? ⟨w.heap.size, 0, none⟩ = some (.slice a len cap) := by rw [← hW]; simp
  have hWs : W.heap.size = w.heap.size + 1 := by rw [← hW]; simp
  have HBW : Below w.heap.size w W := by rw [← hW]; exact (Below.refl w.heap.size w).alloc (Nat.le_refl _) _
  have HW := Bas.hid hW
  clear hW
  obtain ⟨I, F, hI, HF⟩ := Bas.fam W.heap.size W
  have hB0 : W.heap.size ≤ W.heap.size := Nat.le_refl _
  have cvF := fun i => Bas.cell_fam HF (by omega) cv i
  have hst := HF.1 _ ((Below.refl _ _).drew)
  have HST := Bas.hid hst
  clear hst
  go_enter Try.func33, Try.ntmps33
  go_wp2_with (fail)
  rw [HW.out]
  by_cases f1 : 0 ≤ at' ∧ at' + 2 ≤ len
  · have e2 : at' + 2 ≤ 9223372036854775807 := by omega
    have HU := Bas.hid (fun i => u16_ok a len cap bs at' (F i) hl hc (hv0.below (HF.2 i)) hbl f1.1 f1.2)
    refine Ord.region_halt (fun ch w' => ch = short ∧ Below W.heap.size W w') [true, true, true, true, true, true, false, false, false] 6 _ rfl (by kernel_rfl) (by kernel_rfl) HST.out ?_ ?_
    · rintro ch a' w' hd ⟨rfl, hz⟩
      exact ⟨hd, rfl, HBW.trans (hz.mono HBW.size)⟩
    · simp only [Ord.pick]
      repeat (go_big_quiet_step ((go_at_call 44; with_reducible exact Bas.call_fam HF hB0 (HU.out _))))
      refine wpQuiet_nil ?_
      refine ⟨rfl, ?_⟩
      unfold Ord.haltsIn
      rintro w' ⟨i, rfl⟩
      go_simp
      simp only [Ord.haltUpon, true_and]
      refine (u16_no _ _ _ _ _ hl hc (by omega)).mono ?_
      rintro e w'' ⟨he, hb⟩
      exact ⟨short, he, rfl, by rw [← hWs]; exact (HF.2 i).trans (hb.mono (HF.2 i).size)⟩
  · refine Ord.region_halt (fun ch w' => ch = short ∧ Below W.heap.size W w') [true, true, false, true, true, true, false, false, false] 2 _ rfl (by kernel_rfl) (by kernel_rfl) HST.out ?_ ?_
    · rintro ch a' w' hd ⟨rfl, hz⟩
      exact ⟨hd, rfl, HBW.trans (hz.mono HBW.size)⟩
    · simp only [Ord.pick]
      repeat (go_big_quiet_step (fail))
      refine wpQuiet_nil ?_
      refine ⟨rfl, ?_⟩
      unfold Ord.haltsIn
      rintro w' ⟨i, rfl⟩
      go_simp
      simp only [Ord.haltUpon, true_and]
      refine (u16_no _ _ _ _ _ hl hc f1).mono ?_
      rintro e w'' ⟨he, hb⟩
      exact ⟨short, he, rfl, by rw [← hWs]; exact (HF.2 i).trans (hb.mono (HF.2 i).size)⟩
/-- The table at this place is whole and its rows are wide enough. -/
def takeB (len : Nat) (bs : List Int) (at' need : Int) : Prop :=
  0 ≤ at' ∧ at' + 10 ≤ len ∧ need ≤ be bs at'.toNat 2 ∧ rowsB len (at' + 10) (be bs (at'.toNat + 2) 2) (be bs at'.toNat 2)

theorem take_no (a : Option Addr) (len cap : Nat) (bs : List Int) (at' need : Int) (k : Nat) (w : World) (hl : len ≤ cap) (hc : cap ≤ maxLen) (hv : VB w a bs) (hbl : bs.length = len) (hno : ¬ takeB len bs at' need) :
    Calls Try.prog 33 #[.agg #[.slice a len cap], .int .i64 at', .int .i64 need, .int .i64 k] w (fun e w' => e = .panicked short ∧ Below w.heap.size w w') := by
  by_cases h : 0 ≤ at' ∧ at' + 4 ≤ len
  · obtain ⟨p, rfl⟩ := Int.eq_ofNat_of_zero_le h.1
    have hbs := be2_bd bs hv.byte p (by omega)
    have hbn := be2_bd bs hv.byte (p + 2) (by omega)
    have hs : be bs p 2 = ((be bs p 2).toNat : Int) := by omega
    have hn : be bs (p + 2) 2 = ((be bs (p + 2) 2).toNat : Int) := by omega
    refine take_short a len cap bs p _ _ k need w hl hc hv hbl (by omega) hs hn ?_
    rintro ⟨h1, h2, h3⟩
    rw [← hs, ← hn] at h3
    rw [← hs] at h2
    exact hno ⟨h.1, by omega, by simpa using h2, by simpa using h3⟩
  · exact take_out a len cap bs at' _ need w hl hc hv hbl h
end Sk
end Go.Proofs.Ytgddghplhdmfdaa
