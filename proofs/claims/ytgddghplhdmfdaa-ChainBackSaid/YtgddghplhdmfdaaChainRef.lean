/- The reference of layer 19: one. -/
import Derived.Test.YtgddghplhdmfdaaChainD
import Derived.Test.YtgddghplhdmfdaaRegV
import Derived.Test.YtgddghplhdmfdaaRef01B
import Derived.Lib.SlBytesRow
namespace Go.Proofs.Ytgddghplhdmfdaa
open Go.RowKit
namespace Ch
open Vw Ref01

theorem infoRR : (Try.prog.info? 102).map (fun i => (i.zero, i.size, i.bytes)) = some (some (.agg #[.int .i64 0, .int .i64 0, .int .u32 0, .int .u32 0]), 4, 24) := by kernel_rfl
theorem infoRS : (Try.prog.info? 103).map (fun i => (i.zero, i.size, i.bytes)) = some (some (.agg #[.int .u32 0, .int .u32 0, .slice none 0 0]), 3, 32) := by kernel_rfl

/-- 's[l:h]' of a slice of bytes. -/
theorem run_win (W : World) (a : Option Addr) (len cap l h : Nat) (hlh : l ≤ h) (hh : h ≤ cap) :
    (Instr.slice 26 (.slice a len cap) (some (.int .i64 (l : Int))) (some (.int .i64 (h : Int))) none).run Try.prog W = .ok (.slice (sub a l (cap - l)) (h - l) (cap - l)) W := by
  have hz : ∀ w, (Go.sizeOf 5).run Try.prog w = .ok 1 w := fun _ => by kernel_rfl
  have ht' : Try.prog.underlying 26 = some (.slice (Try.prog.elem 26)) := by simp [Program.elem, Try.underlying26]
  have he : Try.prog.elem 26 = 5 := by simp [Program.elem, Try.underlying26]
  rw [run_slice_lh W 26 _ _ _ ht' .i64 .i64 _ _ (by omega) (by omega) (by omega), he, hz]
  cases a with
  | none => simp [Result.andThen, sliced, sub]
  | some x =>
    by_cases hc : cap - l = 0
    · have : cap = l := by omega
      subst this
      simp [Result.andThen, sliced, sub]
    · have : ¬ cap = l := by omega
      simp [Result.andThen, sliced, sub, hc, this]

/-- A subtable's cells in the document's answer. -/
def subR (a : Option Addr) (cap : Nat) (s : SubD) : List Value := [.int .u32 s.cover, .int .u32 s.flags, .slice (sub a (s.at' + 12) (cap - (s.at' + 12))) (s.len - 12) (cap - (s.at' + 12))]
def subsR (a : Option Addr) (cap : Nat) (l : List SubD) : List Value := l.flatMap (subR a cap)
theorem subsR_snoc (a : Option Addr) (cap : Nat) (l : List SubD) (s : SubD) : subsR a cap (l ++ [s]) = subsR a cap l ++ subR a cap s := by simp [subsR]

def RefOnePost (w : World) (a : Option Addr) (cap : Nat) (bs : List Int) (e : Ending) (w' : World) : Prop :=
  Below w.heap.size w w' ∧ match parseOne bs with
    | none => ∃ f a1 n1 c1 a2 n2 c2, e = .returned (.tuple #[.agg #[.int .u32 f, .slice a1 n1 c1, .slice a2 n2 c2], .bool false])
    | some c => ∃ vr vs, e = .returned (.tuple #[.agg #[.int .u32 c.first, vr, vs], .bool true]) ∧ w'.ownsRow w.heap.size 102 4 vr c.rules.length (rulesC c.rules) ∧ w'.ownsRow w.heap.size 103 3 vs c.subs.length (subsR a cap c.subs)

set_option maxRecDepth 100000 in
set_option maxHeartbeats 8000000 in
theorem refOne_rows (a : Option Addr) (len cap : Nat) (bs : List Int) (w : World) (hlm : len ≤ 1000000000) (hv : VB w a bs) (hbl : bs.length = len)
    (hrow : ¬ (16 ≤ len ∧ 16 + 12 * (be bs 8 4).toNat ≤ len)) :
    Calls Try.prog 42 #[.slice a len cap] w (RefOnePost w a cap bs) := by
  have HNO : Hid (parseOne bs = none) := by unfold Hid parseOne; rw [if_neg (by omega)]
  have b0 := uval_bd bs hv.byte 0 4 (by omega)
  have b1 := uval_bd bs hv.byte 8 4 (by omega)
  have b2 := uval_bd bs hv.byte 12 4 (by omega)
  have hrB : ¬ rowsB len 16 (uval bs 8 4) 12 := by
    intro h
    obtain ⟨h1, h2, h3, h4, h5⟩ := h
    refine hrow ⟨by omega, ?_⟩
    have e : uval bs 8 4 = be bs 8 4 := uval_nat bs 8 4 (by omega)
    rw [e] at h5 h1
    omega
  have U := fun (x : Int) (w' : World) (hb : Below w.heap.size w w') => u_any a len cap bs x 4 4 rfl w' (by omega) (hv.below hb) hbl (by omega)
  have HU1 := Bas.hid (U 8)
  have HU2 := Bas.hid (U 12)
  have HU0 := Bas.hid (U 0)
  have hcm : len ≤ 9223372036854775807 := by omega
  generalize uval bs 0 4 = first at *
  generalize uval bs 8 4 = rules at *
  generalize uval bs 12 4 = nsubs at *
  have HW := Bas.hid ((Below.refl w.heap.size w).alloc (Nat.le_refl _) (.cells #[.int .u32 0, .slice none 0 0, .slice none 0 0] 99))
  have K1 := Bas.heap_new w (.cells #[.int .u32 0, .slice none 0 0, .slice none 0 0] 99)
  clear U hrow hv
  go_enter Try.func42, Try.ntmps42
  go_wp2_with (fail)
  generalize w.alloc (.cells #[.int .u32 0, .slice none 0 0, .slice none 0 0] 99) = W1 at *
  refine (HU1.out _ HW.out).mono ?_
  rintro e w' ⟨rfl, rfl⟩
  go_wp2_with (fail)
  refine (HU2.out _ HW.out).mono ?_
  rintro e w' ⟨rfl, rfl⟩
  go_wp2_with (fail)
  refine (HU0.out _ HW.out).mono ?_
  rintro e w' ⟨rfl, rfl⟩
  go_wp2_with (fail)
  refine (rows_no len _ _ _ _ (by omega) (by omega) (by omega) hrB).mono ?_
  rintro e w' ⟨rfl, rfl⟩
  have k1 : (W1.alloc (.cells #[.int .u32 (first % 4294967296), .slice none 0 0, .slice none 0 0] 99)).heap[w.heap.size]? = some (.cells #[.int .u32 0, .slice none 0 0, .slice none 0 0] 99 (0, 0)) := (Below.heap_alloc W1 _ _ (heap_lt K1)).trans K1
  have k2 := Bas.heap_new W1 (.cells #[.int .u32 (first % 4294967296), .slice none 0 0, .slice none 0 0] 99)
  have HW2 := Bas.hid (HW.out.alloc HW.out.size (.cells #[.int .u32 (first % 4294967296), .slice none 0 0, .slice none 0 0] 99))
  have x0 := cell_of_heap (i := 0) k2 rfl
  have x1 := cell_of_heap (i := 1) k2 rfl
  have x2 := cell_of_heap (i := 2) k2 rfl
  have y0 := cell_of_heap (i := 0) k1 rfl
  have y1 := cell_of_heap (i := 1) k1 rfl
  have y2 := cell_of_heap (i := 2) k1 rfl
  have f0 := free_of_heap (i := 0) k1
  have f1 := free_of_heap (i := 1) k1
  have f2 := free_of_heap (i := 2) k1
  generalize W1.alloc (.cells #[.int .u32 (first % 4294967296), .slice none 0 0, .slice none 0 0] 99) = W2 at *
  go_wp2_with (fail)
  refine bodyPost_ret (v := .tuple #[.agg #[.int .u32 (first % 4294967296), .slice none 0 0, .slice none 0 0], .bool false]) (by simp [results, Try.results42, go_sem, y0, y1, y2]) rfl ?_
  refine ⟨((HW2.out.setCell (p := ⟨w.heap.size, 0, none⟩) (Nat.le_refl _) _).setCell (p := ⟨w.heap.size, 1, none⟩) (Nat.le_refl _) _).setCell (p := ⟨w.heap.size, 2, none⟩) (Nat.le_refl _) _, ?_⟩
  rw [HNO.out]
  exact ⟨_, _, _, _, _, _, _, rfl⟩

set_option maxRecDepth 100000 in
set_option maxHeartbeats 8000000 in
theorem refOne_main (a : Option Addr) (len cap : Nat) (bs : List Int) (rules nsubs : Nat) (w : World) (hlc : len ≤ cap) (hcm : cap ≤ maxLen) (hlm : len ≤ 1000000000) (hv : VB w a bs) (hbl : bs.length = len)
    (h16 : 16 ≤ len) (hr : be bs 8 4 = rules) (hn : be bs 12 4 = nsubs) (hrow : 16 + 12 * rules ≤ len) :
    Calls Try.prog 42 #[.slice a len cap] w (RefOnePost w a cap bs) := by
  have hb0 := be4_bd bs hv.byte 0 (by omega)
  have hrB : rowsB len 16 rules 12 := ⟨by omega, by omega, .inr (by omega), by omega, by omega⟩
  have hn32 : nsubs ≤ 4294967295 := by have := be4_bd bs hv.byte 12 (by omega); omega
  have U := fun (q k : Nat) (hk : k ≤ 4) (x m : Int) (hx : x = q) (hm : m = k) (hq : q + k ≤ len) (w' : World) (hb : Below w.heap.size w w') => (by
    have h := u_any a len cap bs x k m hm w' (by omega) (hv.below hb) hbl hk
    rw [hx, uval_nat bs q k (by omega)] at h
    rw [← hx] at h
    exact h : Calls Try.prog 40 #[.slice a len cap, .int .i64 x, .int .i64 m] w' fun e w'' => e = .returned (.int .i64 (be bs q k)) ∧ w' = w'')
  have HPO : Hid (parseOne bs = (subsAt bs nsubs (16 + 12 * rules)).map fun l => ⟨be bs 0 4, rulesAt bs rules, l⟩) := by
    unfold Hid parseOne
    rw [hr, hn]
    simp only [Int.toNat_natCast]
    rw [if_pos ⟨by omega, by omega⟩]
  have U0 := U 0 4 (by omega) 0 4 rfl rfl (by omega)
  have U1 := U 8 4 (by omega) 8 4 rfl rfl (by omega)
  have U2 := U 12 4 (by omega) 12 4 rfl rfl (by omega)
  rw [hr] at U1
  rw [hn] at U2
  have HU := Bas.hid U
  have HU0 := Bas.hid U0
  have HU1 := Bas.hid U1
  have HU2 := Bas.hid U2
  have HV := Bas.hid hv
  generalize be bs 0 4 = first at *
  obtain ⟨hf0, hf1⟩ := hb0
  have hcm' : len ≤ 9223372036854775807 := by omega
  have hfm : first % 4294967296 = first := by omega
  have HW := Bas.hid ((Below.refl w.heap.size w).alloc (Nat.le_refl _) (.cells #[.int .u32 0, .slice none 0 0, .slice none 0 0] 99))
  have K1 := Bas.heap_new w (.cells #[.int .u32 0, .slice none 0 0, .slice none 0 0] 99)
  clear U U0 U1 U2 hr hn hv
  go_enter Try.func42, Try.ntmps42
  go_wp2_with (fail)
  generalize w.alloc (.cells #[.int .u32 0, .slice none 0 0, .slice none 0 0] 99) = W1 at *
  refine (HU1.out _ HW.out).mono ?_
  rintro e w' ⟨rfl, rfl⟩
  go_wp2_with (fail)
  refine (HU2.out _ HW.out).mono ?_
  rintro e w' ⟨rfl, rfl⟩
  go_wp2_with (fail)
  refine (HU0.out _ HW.out).mono ?_
  rintro e w' ⟨rfl, rfl⟩
  go_wp2_with (fail)
  refine (rows_yes len _ _ _ _ (by omega) (by omega) (by omega) hrB).mono ?_
  rintro e w' ⟨rfl, rfl⟩
  have k1 : (W1.alloc (.cells #[.int .u32 first, .slice none 0 0, .slice none 0 0] 99)).heap[w.heap.size]? = some (.cells #[.int .u32 0, .slice none 0 0, .slice none 0 0] 99 (0, 0)) := (Below.heap_alloc W1 _ _ (heap_lt K1)).trans K1
  have k2 := Bas.heap_new W1 (.cells #[.int .u32 first, .slice none 0 0, .slice none 0 0] 99)
  have HW2 := Bas.hid (HW.out.alloc HW.out.size (.cells #[.int .u32 first, .slice none 0 0, .slice none 0 0] 99))
  generalize W1.alloc (.cells #[.int .u32 first, .slice none 0 0, .slice none 0 0] 99) = W2 at *
  have hs1 : w.heap.size < W1.heap.size := heap_lt K1
  clear K1 HW HU0 HU1 HU2
  go_wp2_with (fail)
  go_loopw [7, 8] (fun xi xa wr => ∃ (i : Nat) (vr : Value), i ≤ rules ∧ xi = .int .i64 i ∧ wr.ownsRow w.heap.size 102 4 vr i (rulesC (rulesAt bs i)) ∧ Below w.heap.size w wr ∧ wr.heap[w.heap.size]? = some (.cells #[.int .u32 0, .slice none 0 0, .slice none 0 0] 99 (0, 0)) ∧
    wr.heap[W1.heap.size]? = some (.cells #[.int .u32 first, vr, .slice none 0 0] 99 (0, 0))) (fun xi _ _ => rules - (intOf xi).toNat)
  case atStart => exact ⟨0, _, Nat.zero_le _, rfl, Row.owned_nil _ _ _ _, HW2.out, k1, k2⟩
  case round =>
    obtain ⟨i, vr, hi, rfl, hown, hb, n1, n2⟩ := hrel
    by_cases hir : i < rules
    · have HO := Bas.hid hown
      have HBB := Bas.hid hb
      clear hown hb k1 k2
      go_wp2_with (fail)
      have eq : (16 : Int) + 12 * (i : Int) = ((16 + 12 * i : Nat) : Int) := by omega
      rw [eq]
      have HRA : Hid (ruleAt bs i = ⟨be bs (16 + 12 * i) 2, be bs (16 + 12 * i + 2) 2, be bs (16 + 12 * i + 4) 4, be bs (16 + 12 * i + 8) 4⟩) := rfl
      have hq : 16 + 12 * i + 12 ≤ len := by omega
      generalize 16 + 12 * i = q at *
      have V1 := HU.out q 2 (by omega) q 2 rfl rfl (by omega)
      have V2 := HU.out (q + 2) 2 (by omega) ((q : Int) + 2) 2 (by omega) rfl (by omega)
      have V3 := HU.out (q + 4) 4 (by omega) ((q : Int) + 4) 4 (by omega) rfl (by omega)
      have V4 := HU.out (q + 8) 4 (by omega) ((q : Int) + 8) 4 (by omega) rfl (by omega)
      have g3 := be4_bd bs HV.out.byte (q + 4) (by omega)
      have g4 := be4_bd bs HV.out.byte (q + 8) (by omega)
      generalize be bs q 2 = r1 at *
      generalize be bs (q + 2) 2 = r2 at *
      generalize be bs (q + 4) 4 = r3 at *
      generalize be bs (q + 8) 4 = r4 at *
      have m3 : r3 % 4294967296 = r3 := by omega
      have m4 : r4 % 4294967296 = r4 := by omega
      have HV1 := Bas.hid V1
      have HV2 := Bas.hid V2
      have HV3 := Bas.hid V3
      have HV4 := Bas.hid V4
      clear V1 V2 V3 V4 eq
      refine' Pl.region_v1 106 [] [0, 1, 2, 3, 4, 5, 6, 7, 8, 9, 10, 11, 12, 13, 14, 15, 16, 17, 18, 19] 20 54 [21, 22, 23] _ (fun v u => ∃ g, v = .slice (some ⟨g, 0, none⟩) 1 1 ∧ wr.heap.size ≤ g ∧ u.heap[g]? = some (.cells #[.int .i64 r1, .int .i64 r2, .int .u32 r3, .int .u32 r4] 102 (0, 0))) (by kernel_rfl) (by kernel_rfl) (by simp) (fun _ _ _ _ e h => ⟨e ▸ h.1, h.2⟩) ?_ ?_ ?_ ?_
      rotate_left
      · intro I F hI hF
        simp only [Pl.selN, List.nil_append, List.drop_succ_cons, List.drop_zero]
        have x1 := fun i => hF.cell (heap_lt n2) (cell_of_heap (i := 1) n2 rfl) i
        repeat (go_big_quiet_step ((go_at_call 40; first | with_reducible exact hF.same (HV1.out _ (hF.on HBB.out _)) | with_reducible exact hF.same (HV2.out _ (hF.on HBB.out _)) | with_reducible exact hF.same (HV3.out _ (hF.on HBB.out _)) | with_reducible exact hF.same (HV4.out _ (hF.on HBB.out _)))))
        refine wpQuiet_nil ?_
        rfl
      · rintro v u u' ⟨g, h1, h2, h3⟩ hu hu'
        exact ⟨g, h1, h2, (hu'.block g (heap_lt h3)).trans h3⟩
      · simp only [Pl.selN, List.drop_succ_cons, List.drop_zero, List.mem_singleton, forall_eq]
        intro u hu
        go_simp
        simp only [Pl.valsAt]
        exact ⟨(Below.refl _ _).alloc (Nat.le_refl _) _, _, rfl, hu.size, Bas.heap_new _ _⟩
      · intro v u hu hv
        obtain ⟨g, rfl, hg, hgc⟩ := hv
        simp only [Pl.selN, List.drop_succ_cons, List.drop_zero, Act.put, List.setIfInBounds_toArray, List.set_cons_zero, List.set_cons_succ]
        have u1 := (hu.block _ (heap_lt n1)).trans n1
        have u2 := (hu.block _ (heap_lt n2)).trans n2
        have HOu := Bas.hid (Row.owned_below HO.out hu)
        have HBu := Bas.hid (HBB.out.trans (hu.mono HBB.out.size))
        have hvr1 := own_ty HOu.out u1 (by decide)
        have hvr2 := own_ty HOu.out u2 (by decide)
        have hus := hu.size
        clear n1 n2 hu HO HBB
        refine (Row.append_any rfl _ _ 96 102 rfl (.agg #[.int .i64 0, .int .i64 0, .int .u32 0, .int .u32 0]) 4 24 Try.underlying96 infoRR rfl (by decide) w.heap.size vr i (rulesC (rulesAt bs i)) rfl HOu.out (.slice (some ⟨g, 0, none⟩) 1 1) 1 [.int .i64 r1, .int .i64 r2, .int .u32 r3, .int .u32 r4] rfl (leads_heap hgc) rfl (by simp; exact ⟨rfl, rfl, rfl, rfl⟩) (by unfold maxLen; omega) (by omega) HBu.out.size ?_)
        intro v' w8 hown8 hg8 _
        obtain ⟨ad8, cp8, rfl⟩ := own_slice hown8
        have z1 := (hg8.block _ (heap_lt u1) (fun e => hvr1 e.symm)).trans u1
        have z2 := (hg8.block _ (heap_lt u2) (fun e => hvr2 e.symm)).trans u2
        have hnew : Hid (rulesC (rulesAt bs (i + 1)) = rulesC (rulesAt bs i) ++ [.int .i64 r1, .int .i64 r2, .int .u32 r3, .int .u32 r4]) := by
          unfold Hid; rw [rulesAt_succ, rulesC_snoc, HRA.out]; rfl
        have HO8 := Bas.hid hown8
        have HB8 := Bas.hid (HBu.out.grown hg8 HBu.out.size (fun g' hg' => (Row.own_block HOu.out hg').1))
        have zc := cell_of_heap (i := 1) z2 rfl
        have zf := free_of_heap (i := 1) z2
        clear hown8 hg8 u1 u2 hgc HOu HBu
        go_wp2_with (fail)
        have y1 := (Below.heap_setCell w8 ⟨W1.heap.size, 1, none⟩ (.slice ad8 (i + 1) cp8) w.heap.size (by show w.heap.size ≠ W1.heap.size; omega)).trans z1
        have y2 := heap_set (i := 1) z2 (.slice ad8 (i + 1) cp8)
        have HO9 := Bas.hid (Row.owned_keep HO8.out (w' := w8.setCell ⟨W1.heap.size, 1, none⟩ (.slice ad8 (i + 1) cp8)) fun g' hg' => Below.heap_setCell _ _ _ _ (fun e => own_ty HO8.out z2 (by decide) (by rw [hg', e])))
        have HB9 := Bas.hid (HB8.out.setCell (p := ⟨W1.heap.size, 1, none⟩) (by show w.heap.size ≤ W1.heap.size; omega) (.slice ad8 (i + 1) cp8))
        generalize w8.setCell ⟨W1.heap.size, 1, none⟩ (.slice ad8 (i + 1) cp8) = W9 at *
        go_wp2_with (fail)
        go_roundw
        case rel => exact ⟨i + 1, _, by omega, by go_num, by rw [hnew.out]; exact HO9.out, HB9.out, y1, y2⟩
        case measure => simp [intOf]; omega
    · have hir2 : i = rules := by omega
      subst hir2
      obtain ⟨adr, cpr, rfl⟩ := own_slice hown
      have HO := Bas.hid hown
      have HBB := Bas.hid hb
      clear hown hb k1 k2
      go_wp2_with (fail)
      obtain ⟨wo, hwo⟩ : ∃ wo : World, wo = wr := ⟨_, rfl⟩
      rw [← hwo] at HO HBB n1 n2
      rw [← hwo]
      clear hwo
      go_loopw [9, 10, 11] (fun av c xn wr => ∃ (k p : Nat) (vs : Value) (dn : List SubD), k ≤ nsubs ∧ c = .int .i64 k ∧ av = .int .i64 p ∧ p ≤ len ∧ dn.length = k ∧ subsAt bs nsubs (16 + 12 * i) = (subsAt bs (nsubs - k) p).map (fun l => dn ++ l) ∧
        wr.ownsRow w.heap.size 102 4 (.slice adr i cpr) i (rulesC (rulesAt bs i)) ∧ wr.ownsRow w.heap.size 103 3 vs k (subsR a cap dn) ∧ Below w.heap.size w wr ∧ wr.heap[w.heap.size]? = some (.cells #[.int .u32 0, .slice none 0 0, .slice none 0 0] 99 (0, 0)) ∧
        wr.heap[W1.heap.size]? = some (.cells #[.int .u32 first, .slice adr i cpr, vs] 99 (0, 0))) (fun _ c _ _ => nsubs - (intOf c).toNat)
      case atStart => exact ⟨0, 16 + 12 * i, _, [], Nat.zero_le _, rfl, by go_num, hrow, rfl, by simp, HO.out, Row.owned_nil _ _ _ _, HBB.out, n1, n2⟩
      case round =>
        obtain ⟨k, p, vs, dn, hk, rfl, rfl, hp, hdl, hsub, hown, hows, hb, n5, n6⟩ := hrel
        have HSUB := Bas.hid hsub
        have HDL := Bas.hid hdl
        have HOR := Bas.hid hown
        have HOS := Bas.hid hows
        have HBL := Bas.hid hb
        obtain ⟨ads, cps, rfl⟩ := own_slice hows
        have x0 := cell_of_heap (i := 0) n6 rfl
        have x1 := cell_of_heap (i := 1) n6 rfl
        have x2 := cell_of_heap (i := 2) n6 rfl
        have y0 := cell_of_heap (i := 0) n5 rfl
        have y1 := cell_of_heap (i := 1) n5 rfl
        have y2 := cell_of_heap (i := 2) n5 rfl
        have f0 := free_of_heap (i := 0) n5
        have f1 := free_of_heap (i := 1) n5
        have f2 := free_of_heap (i := 2) n5
        have HEND := Bas.hid fun (v0 v1 v2 : Value) => (((hb.setCell (p := ⟨w.heap.size, 0, none⟩) (Nat.le_refl _) v0).setCell (p := ⟨w.heap.size, 1, none⟩) (Nat.le_refl _) v1).setCell (p := ⟨w.heap.size, 2, none⟩) (Nat.le_refl _) v2)
        clear hsub hdl hown hows hb n1 n2
        by_cases hkn : k < nsubs
        · have hfail : ¬ (p + 4 ≤ bs.length ∧ 12 ≤ (be bs p 4).toNat ∧ p + (be bs p 4).toNat ≤ bs.length) → parseOne bs = none := fun hn => by
            rw [HPO.out, HSUB.out, show nsubs - k = (nsubs - k - 1) + 1 by omega, subsAt, if_neg hn]
            rfl
          have HFAIL := Bas.hid hfail
          have UP := u_any a len cap bs (p : Int) 4 4 rfl wr (by omega) (HV.out.below HBL.out) hbl (by omega)
          have gb := uval_bd bs HV.out.byte (p : Int) 4 (by omega)
          have hun : 0 ≤ uval bs (p : Int) 4 → p + 4 ≤ len ∧ uval bs (p : Int) 4 = be bs p 4 := fun h => by
            by_cases h4 : p + 4 ≤ len
            · exact ⟨h4, uval_nat bs p 4 (by omega)⟩
            · exfalso
              unfold uval at h
              rw [if_neg (by omega)] at h
              omega
          have hun2 : p + 4 ≤ len → uval bs (p : Int) 4 = be bs p 4 := fun h => uval_nat bs p 4 (by omega)
          generalize uval bs (p : Int) 4 = n at *
          have HUP := Bas.hid UP
          have HUN := Bas.hid hun
          have HUN2 := Bas.hid hun2
          clear hfail UP hun hun2
          go_wp2_with (fail)
          refine HUP.out.mono ?_
          rintro e w' ⟨rfl, rfl⟩
          by_cases f2 : 12 ≤ n
          · obtain ⟨h4, hnb⟩ := HUN.out (by omega)
            obtain ⟨m, rfl⟩ := Int.eq_ofNat_of_zero_le (show 0 ≤ n by omega)
            have d2 : decide ((m : Int) < 12) = false := by simp; omega
            have HN := Bas.hid hnb.symm
            rw [← hnb, Int.toNat_natCast] at HFAIL
            clear hnb HUN HUN2 HUP
            go_wp2_with (fail)
            by_cases f3 : p + m ≤ len
            · refine (in_yes _ _ _ _ (by omega) (by omega) (by omega) (by omega)).mono ?_
              rintro e w' ⟨rfl, rfl⟩
              have HCC : Hid (subR a cap ⟨be bs (p + 4) 4, be bs (p + 8) 4, p, m⟩ = [.int .u32 (be bs (p + 4) 4), .int .u32 (be bs (p + 8) 4), .slice (sub a (p + 12) (cap - (p + 12))) (m - 12) (cap - (p + 12))]) := rfl
              have HSUB2 : Hid (subsAt bs (nsubs - k) p = (subsAt bs (nsubs - (k + 1)) (p + m)).map fun l => ⟨be bs (p + 4) 4, be bs (p + 8) 4, p, m⟩ :: l) := by
                unfold Hid
                rw [show nsubs - k = (nsubs - (k + 1)) + 1 by omega, subsAt, HN.out, Int.toNat_natCast, if_pos ⟨by omega, by omega, by omega⟩]
              have V1 := HU.out (p + 4) 4 (by omega) ((p : Int) + 4) 4 (by omega) rfl (by omega)
              have V2 := HU.out (p + 8) 4 (by omega) ((p : Int) + 8) 4 (by omega) rfl (by omega)
              have g1 := be4_bd bs HV.out.byte (p + 4) (by omega)
              have g2 := be4_bd bs HV.out.byte (p + 8) (by omega)
              generalize be bs (p + 4) 4 = r1 at *
              generalize be bs (p + 8) 4 = r2 at *
              have m1 : r1 % 4294967296 = r1 := by omega
              have m2 : r2 % 4294967296 = r2 := by omega
              have SW : ∀ W, (Instr.slice 26 (.slice a len cap) (some (.int .i64 ((p : Int) + 12))) (some (.int .i64 ((p : Int) + (m : Int)))) none).run Try.prog W = .ok (.slice (sub a (p + 12) (cap - (p + 12))) (m - 12) (cap - (p + 12))) W := fun W => by
                have h := run_win W a len cap (p + 12) (p + m) (by omega) (by omega)
                rw [show p + m - (p + 12) = m - 12 by omega, Int.natCast_add, Int.natCast_add] at h
                exact h
              generalize sub a (p + 12) (cap - (p + 12)) = S at *
              generalize cap - (p + 12) = sc at *
              obtain ⟨ml, hml⟩ : ∃ ml, ml = m - 12 := ⟨_, rfl⟩
              rw [← hml] at SW HCC
              have HV1 := Bas.hid V1
              have HV2 := Bas.hid V2
              clear V1 V2 HFAIL x0 x1 y0 y1 y2 f0 f1 HEND
              go_wp2_with (fail)
              refine' Pl.region_v1 106 [] [0, 1, 2, 3, 4, 5, 6, 7, 8, 9, 10, 11, 12, 13, 14, 15, 16, 17, 18, 19] 20 99 [21, 22, 23] _ (fun v u => ∃ g, v = .slice (some ⟨g, 0, none⟩) 1 1 ∧ wr.heap.size ≤ g ∧ u.heap[g]? = some (.cells #[.int .u32 r1, .int .u32 r2, .slice S ml sc] 103 (0, 0))) (by kernel_rfl) (by kernel_rfl) (by simp) (fun _ _ _ _ e h => ⟨e ▸ h.1, h.2⟩) ?_ ?_ ?_ ?_
              rotate_left
              · intro I F hI hF
                simp only [Pl.selN, List.nil_append, List.drop_succ_cons, List.drop_zero]
                have x1 := fun i => hF.cell (heap_lt n6) (cell_of_heap (i := 2) n6 rfl) i
                repeat (go_big_quiet_step ((go_at_call 40; first | with_reducible exact hF.same (HV1.out _ (hF.on HBL.out _)) | with_reducible exact hF.same (HV2.out _ (hF.on HBL.out _)))))
                refine wpQuiet_nil ?_
                rfl
              · rintro v u u' ⟨g, h1, h2, h3⟩ hu hu'
                exact ⟨g, h1, h2, (hu'.block g (heap_lt h3)).trans h3⟩
              · simp only [Pl.selN, List.drop_succ_cons, List.drop_zero, List.mem_singleton, forall_eq]
                intro u hu
                go_simp
                simp only [Pl.valsAt]
                exact ⟨(Below.refl _ _).alloc (Nat.le_refl _) _, _, rfl, hu.size, Bas.heap_new _ _⟩
              · intro v u hu hv
                obtain ⟨g, rfl, hg, hgc⟩ := hv
                simp only [Pl.selN, List.drop_succ_cons, List.drop_zero, Act.put, List.setIfInBounds_toArray, List.set_cons_zero, List.set_cons_succ]
                have u5 := (hu.block _ (heap_lt n5)).trans n5
                have u6 := (hu.block _ (heap_lt n6)).trans n6
                have HRu := Bas.hid (Row.owned_below HOR.out hu)
                have HSu := Bas.hid (Row.owned_below HOS.out hu)
                have HBu := Bas.hid (HBL.out.trans (hu.mono HBL.out.size))
                have hv5 := own_ty HSu.out u5 (by decide)
                have hv6 := own_ty HSu.out u6 (by decide)
                have hus := hu.size
                have hkb : k ≤ 4294967295 := by omega
                clear n5 n6 hu HOR HOS HBL SW
                refine (Row.append_any rfl _ _ 97 103 rfl (.agg #[.int .u32 0, .int .u32 0, .slice none 0 0]) 3 32 Try.underlying97 infoRS rfl (by decide) w.heap.size (.slice ads k cps) k (subsR a cap dn) rfl HSu.out (.slice (some ⟨g, 0, none⟩) 1 1) 1 [.int .u32 r1, .int .u32 r2, .slice S ml sc] rfl (leads_heap hgc) rfl (by simp; exact ⟨rfl, rfl, rfl⟩) (by unfold maxLen; omega) (by omega) HBu.out.size ?_)
                intro v' w9 hown9 hg9 _
                obtain ⟨ad9, cp9, rfl⟩ := own_slice hown9
                have z5 := (hg9.block _ (heap_lt u5) (fun e => hv5 e.symm)).trans u5
                have z6 := (hg9.block _ (heap_lt u6) (fun e => hv6 e.symm)).trans u6
                have HR9 := Bas.hid (Row.owned_keep HRu.out fun g' hg' => hg9.block g' (Row.own_block HRu.out hg').2 (fun e => own_rows_ne HRu.out HSu.out (by decide) hg' e.symm))
                have hnew : Hid (subsR a cap (dn ++ [⟨r1, r2, p, m⟩]) = subsR a cap dn ++ [.int .u32 r1, .int .u32 r2, .slice S ml sc]) := by
                  unfold Hid; rw [subsR_snoc, HCC.out]
                have HS9 := Bas.hid hown9
                have HB9 := Bas.hid (HBu.out.grown hg9 HBu.out.size (fun g' hg' => (Row.own_block HSu.out hg').1))
                have zc := cell_of_heap (i := 2) z6 rfl
                have zf := free_of_heap (i := 2) z6
                clear hown9 hg9 u5 u6 hgc HRu HSu HBu
                go_wp2_with (fail)
                have y5 := (Below.heap_setCell w9 ⟨W1.heap.size, 2, none⟩ (.slice ad9 (k + 1) cp9) w.heap.size (by show w.heap.size ≠ W1.heap.size; omega)).trans z5
                have y6 := heap_set (i := 2) z6 (.slice ad9 (k + 1) cp9)
                have HR10 := Bas.hid (Row.owned_keep HR9.out (w' := w9.setCell ⟨W1.heap.size, 2, none⟩ (.slice ad9 (k + 1) cp9)) fun g' hg' => Below.heap_setCell _ _ _ _ (fun e => own_ty HR9.out z6 (by decide) (by rw [hg', e])))
                have HS10 := Bas.hid (Row.owned_keep HS9.out (w' := w9.setCell ⟨W1.heap.size, 2, none⟩ (.slice ad9 (k + 1) cp9)) fun g' hg' => Below.heap_setCell _ _ _ _ (fun e => own_ty HS9.out z6 (by decide) (by rw [hg', e])))
                have HB10 := Bas.hid (HB9.out.setCell (p := ⟨W1.heap.size, 2, none⟩) (by show w.heap.size ≤ W1.heap.size; omega) (.slice ad9 (k + 1) cp9))
                generalize w9.setCell ⟨W1.heap.size, 2, none⟩ (.slice ad9 (k + 1) cp9) = W10 at *
                go_wp2_with (fail)
                go_roundw
                case rel => exact ⟨k + 1, p + m, _, dn ++ [⟨r1, r2, p, m⟩], by omega, by go_num, by go_num, f3, by rw [List.length_append, HDL.out]; rfl, by rw [HSUB.out, HSUB2.out]; simp [Option.map_map, Function.comp_def], HR10.out, by rw [hnew.out]; exact HS10.out, HB10.out, y5, y6⟩
                case measure => simp [intOf]; omega
            · refine (in_no _ _ _ _ (by omega) (by omega) (by omega)).mono ?_
              rintro e w' ⟨rfl, rfl⟩
              go_wp2_with (fail)
              refine bodyPost_ret (v := .tuple #[.agg #[.int .u32 first, .slice adr i cpr, .slice ads k cps], .bool false]) (by simp [results, Try.results42, go_sem, y0, y1, y2]) rfl ⟨HEND.out _ _ _, ?_⟩
              rw [HFAIL.out (by omega)]
              exact ⟨_, _, _, _, _, _, _, rfl⟩
          · have d2 : decide (n < 12) = true := by simp; omega
            go_wp2_with (fail)
            refine bodyPost_ret (v := .tuple #[.agg #[.int .u32 first, .slice adr i cpr, .slice ads k cps], .bool false]) (by simp [results, Try.results42, go_sem, y0, y1, y2]) rfl ⟨HEND.out _ _ _, ?_⟩
            rw [HFAIL.out (fun h => by have := HUN2.out (by omega); omega)]
            exact ⟨_, _, _, _, _, _, _, rfl⟩
        · have hkn2 : k = nsubs := by omega
          have hdone : parseOne bs = some ⟨first, rulesAt bs i, dn⟩ := by
            rw [HPO.out, HSUB.out, hkn2, Nat.sub_self, subsAt]; simp
          have HD := Bas.hid hdone
          clear hdone hkn2
          go_wp2_with (fail)
          refine bodyPost_ret (v := .tuple #[.agg #[.int .u32 first, .slice adr i cpr, .slice ads k cps], .bool true]) (by simp [results, Try.results42, go_sem, y0, y1, y2]) rfl ⟨HEND.out _ _ _, ?_⟩
          have hkeep : ∀ g', g' ≠ w.heap.size → (((wr.setCell ⟨w.heap.size, 0, none⟩ (.int .u32 first)).setCell ⟨w.heap.size, 1, none⟩ (.slice adr i cpr)).setCell ⟨w.heap.size, 2, none⟩ (.slice ads k cps)).heap[g']? = wr.heap[g']? := fun g' hg' =>
            (Below.heap_setCell _ _ _ _ hg').trans ((Below.heap_setCell _ _ _ _ hg').trans (Below.heap_setCell _ _ _ _ hg'))
          rw [HD.out]
          refine ⟨_, _, rfl, ?_, ?_⟩
          · rw [rulesAt_len]
            exact Row.owned_keep HOR.out fun g' hg' => hkeep g' (fun e => own_ty HOR.out n5 (by decide) (by rw [hg', e]))
          · rw [show dn.length = k from HDL.out]
            exact Row.owned_keep HOS.out fun g' hg' => hkeep g' (fun e => own_ty HOS.out n5 (by decide) (by rw [hg', e]))

theorem refOne_any (a : Option Addr) (len cap : Nat) (bs : List Int) (w : World) (hlc : len ≤ cap) (hcm : cap ≤ maxLen) (hlm : len ≤ 1000000000) (hv : VB w a bs) (hbl : bs.length = len) :
    Calls Try.prog 42 #[.slice a len cap] w (RefOnePost w a cap bs) := by
  by_cases h : 16 ≤ len ∧ 16 + 12 * (be bs 8 4).toNat ≤ len
  · have h1 := be4_bd bs hv.byte 8 (by omega)
    have h2 := be4_bd bs hv.byte 12 (by omega)
    exact refOne_main a len cap bs (be bs 8 4).toNat (be bs 12 4).toNat w hlc hcm hlm hv hbl h.1 (by omega) (by omega) h.2
  · exact refOne_rows a len cap bs w hlm hv hbl h
end Ch
end Go.Proofs.Ytgddghplhdmfdaa
