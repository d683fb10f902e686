/- Layer 19 (chain): one. -/
import Derived.Test.YtgddghplhdmfdaaChainD
import Derived.Test.YtgddghplhdmfdaaRegV
namespace Go.Proofs.Ytgddghplhdmfdaa
open Go.RowKit
namespace Ch
open Vw

theorem infoR : (Try.prog.info? 50).map (fun i => (i.zero, i.size, i.bytes)) = some (some (.agg #[.int .i64 0, .int .i64 0, .int .u32 0, .int .u32 0]), 4, 24) := by kernel_rfl
theorem infoSub : (Try.prog.info? 56).map (fun i => (i.zero, i.size, i.bytes)) = some (some (.agg #[.int .u32 0, .int .u32 0, .slice none 0 0]), 3, 32) := by kernel_rfl

set_option maxRecDepth 100000 in
set_option maxHeartbeats 8000000 in
theorem one_main (a : Option Addr) (len cap : Nat) (bs : List Int) (rules nsubs : Nat) (w : World) (hl : len ≤ cap) (hc : cap ≤ maxLen) (hv : VB w a bs) (hbl : bs.length = len) (hsmall : len ≤ 1000000000)
    (h16 : 16 ≤ len) (hr : be bs 8 4 = rules) (hn : be bs 12 4 = nsubs) (hrow : 16 + 12 * rules ≤ len) :
    Calls Try.prog 47 #[.agg #[.slice a len cap]] w (OnePost w a bs) := by
  have hb0 := be4_bd bs hv.byte 0 (by omega)
  have hrB : rowsB len 16 rules 12 := ⟨by omega, by omega, .inr (by omega), by omega, by omega⟩
  have hcm : len ≤ 9223372036854775807 := by omega
  have hn32 : nsubs ≤ 4294967295 := by have := be4_bd bs hv.byte 12 (by omega); omega
  have U1 := fun (w' : World) (hb : Below w.heap.size w w') => u32_ok a len cap bs 0 w' hl hc (hv.below hb) hbl (by omega) (by omega)
  have U2 := fun (w' : World) (hb : Below w.heap.size w w') => u32_ok a len cap bs 8 w' hl hc (hv.below hb) hbl (by omega) (by omega)
  have U3 := fun (w' : World) (hb : Below w.heap.size w w') => u32_ok a len cap bs 12 w' hl hc (hv.below hb) hbl (by omega) (by omega)
  simp only [show Int.toNat 0 = 0 from rfl, show Int.toNat 8 = 8 from rfl, show Int.toNat 12 = 12 from rfl] at U1 U2 U3
  rw [hr] at U2
  rw [hn] at U3
  have HPO : Hid (parseOne bs = (subsAt bs nsubs (16 + 12 * rules)).map fun l => ⟨be bs 0 4, rulesAt bs rules, l⟩) := by
    unfold Hid parseOne
    rw [hr, hn]
    simp only [Int.toNat_natCast]
    rw [if_pos ⟨by omega, by omega⟩]
  have HU1 := Bas.hid U1
  have HU2 := Bas.hid U2
  have HU3 := Bas.hid U3
  have HV := Bas.hid hv
  generalize be bs 0 4 = first at *
  obtain ⟨hf0, hf1⟩ := hb0
  clear U1 U2 U3 hr hn hv
  go_enter Try.func47, Try.ntmps47
  go_wp2_with (fail)
  refine (HU1.out _ (((Below.refl w.heap.size w).alloc (Nat.le_refl _) _).alloc (by simp) _)).mono ?_
  rintro e w1 ⟨rfl, hb1⟩
  have hs1 := hb1.size
  simp only [World.size_alloc] at hs1
  have HB1 := Bas.hid (Bas.on (((Below.refl w.heap.size w).alloc (Nat.le_refl _) _).alloc (by simp) _) hb1)
  have k1 : w1.heap[w.heap.size]? = some (.cells #[.slice a len cap] 54 (0, 0)) := by
    rw [hb1.block _ (by simp; omega)]
    rw [Below.heap_alloc _ _ _ (by simp)]
    exact Bas.heap_new _ _
  have k2 : w1.heap[w.heap.size + 1]? = some (.cells #[.int .u32 0, .slice none 0 0, .slice none 0 0] 46 (0, 0)) := by
    rw [hb1.block _ (by simp)]
    exact Bas.heap_new2 _ _ _
  clear hb1
  go_wp2_with (fail)
  have k1' := (Below.heap_alloc w1 (.cells #[.int .u32 first, .slice none 0 0, .slice none 0 0] 46) _ (heap_lt k1)).trans k1
  have k2' := (Below.heap_alloc w1 (.cells #[.int .u32 first, .slice none 0 0, .slice none 0 0] 46) _ (heap_lt k2)).trans k2
  have k3 := Bas.heap_new w1 (.cells #[.int .u32 first, .slice none 0 0, .slice none 0 0] 46)
  have HB2 := Bas.hid (HB1.out.alloc HB1.out.size (.cells #[.int .u32 first, .slice none 0 0, .slice none 0 0] 46))
  generalize w1.alloc (.cells #[.int .u32 first, .slice none 0 0, .slice none 0 0] 46) = W2 at *
  clear k1 k2 HB1
  refine' Pl.region_v0 83 [] [0, 1, 2, 3, 4, 5] [] _ (by kernel_rfl) (by kernel_rfl) (by simp) (fun _ _ _ _ e h => ⟨e ▸ h.1, h.2⟩) ?_ ?_
  rotate_left
  · intro I F hI hF
    simp only [Pl.selN, List.nil_append, List.drop_succ_cons, List.drop_zero]
    have x1 := fun i => hF.cell (heap_lt k1') (cell_of_heap (i := 0) k1' rfl) i
    repeat (go_big_quiet_step ((first | (go_at_call 45; with_reducible exact hF.call (HU2.out _ (hF.on HB2.out _))) | (go_at_call 45; with_reducible exact hF.call (HU3.out _ (hF.on HB2.out _))))))
    refine wpQuiet_nil ?_
    rfl
  intro u hu
  simp only [Pl.selN]
  have k4 := (hu.block _ (heap_lt k1')).trans k1'
  have k5 := (hu.block _ (heap_lt k2')).trans k2'
  have k6 := (hu.block _ (heap_lt k3)).trans k3
  have HB3 := Bas.hid (HB2.out.trans (hu.mono HB2.out.size))
  have c1 := cell_of_heap (i := 0) k4 rfl
  have R := fun w' => rows_ok a len cap 16 rules 12 w' hl hc hrB
  have e12 : ((rules : Int) * 12).toNat = rules * 12 := by omega
  simp only [show Int.toNat 16 = 16 from rfl, e12] at R
  have HR := Bas.hid R
  clear hu k1' k2' k3 HB2 R e12
  go_wp2_with (fail)
  refine (HR.out _).mono ?_
  rintro e w3 ⟨rfl, hb3⟩
  have k7 := (hb3.block _ (heap_lt k4)).trans k4
  have k8 := (hb3.block _ (heap_lt k5)).trans k5
  have k9 := (hb3.block _ (heap_lt k6)).trans k6
  have HB4 := Bas.hid (HB3.out.trans (hb3.mono HB3.out.size))
  have hs3 : w1.heap.size < w3.heap.size := Nat.lt_of_lt_of_le (heap_lt k6) hb3.size
  generalize hA : sub a 16 (rules * 12) = A
  have HA := Bas.hid hA
  clear hb3 c1 k4 k5 k6 HB3 HR hA
  go_wp2_with (fail)
  have m7 := (Below.heap_alloc w3 (.cells #[.slice A (rules * 12) (rules * 12)] 54) _ (heap_lt k7)).trans k7
  have m8 := (Below.heap_alloc w3 (.cells #[.slice A (rules * 12) (rules * 12)] 54) _ (heap_lt k8)).trans k8
  have m9 := (Below.heap_alloc w3 (.cells #[.slice A (rules * 12) (rules * 12)] 54) _ (heap_lt k9)).trans k9
  have m10 := Bas.heap_new w3 (.cells #[.slice A (rules * 12) (rules * 12)] 54)
  have HB5 := Bas.hid (HB4.out.alloc HB4.out.size (.cells #[.slice A (rules * 12) (rules * 12)] 54))
  generalize w3.alloc (.cells #[.slice A (rules * 12) (rules * 12)] 54) = W5 at *
  clear k7 k8 k9 HB4
  go_loopw [24] (fun c wr => ∃ (i : Nat) (vr : Value), i ≤ rules ∧ c = .int .i64 i ∧ wr.ownsRow w.heap.size 50 4 vr i (rulesC (rulesAt bs i)) ∧ Below w.heap.size w wr ∧ wr.heap[w.heap.size]? = some (.cells #[.slice a len cap] 54 (0, 0)) ∧
    wr.heap[w1.heap.size]? = some (.cells #[.int .u32 first, vr, .slice none 0 0] 46 (0, 0)) ∧ wr.heap[w3.heap.size]? = some (.cells #[.slice A (rules * 12) (rules * 12)] 54 (0, 0)) ∧ wr.heap[w.heap.size + 1]? = some (.cells #[.int .u32 0, .slice none 0 0, .slice none 0 0] 46 (0, 0))) (fun c _ => rules - (intOf c).toNat)
  case atStart => exact ⟨0, _, Nat.zero_le _, rfl, Row.owned_nil _ _ _ _, HB5.out, m7, m9, m10, m8⟩
  case round =>
    obtain ⟨i, vr, hi, rfl, hown, hb, n1, n2, n3, n4⟩ := hrel
    by_cases hir : i < rules
    · have c6 := cell_of_heap (i := 0) n3 rfl
      have e12 : (12 : Int) * (i : Int) = ((12 * i : Nat) : Int) := by omega
      have C := cut_nat A (rules * 12) (rules * 12) (12 * i) 12 wr (Nat.le_refl _) (by unfold maxLen; omega) (by omega)
      rw [← e12] at C
      have HC := Bas.hid C
      have HO := Bas.hid hown
      have HBB := Bas.hid hb
      clear C e12 hown hb m7 m8 m9 m10
      go_wp2_with (fail)
      refine HC.out.mono ?_
      rintro e w6 ⟨rfl, hb6⟩
      have p1 := (hb6.block _ (heap_lt n1)).trans n1
      have p2 := (hb6.block _ (heap_lt n2)).trans n2
      have p3 := (hb6.block _ (heap_lt n3)).trans n3
      have p4 := (hb6.block _ (heap_lt n4)).trans n4
      have HO6 := Bas.hid (Row.owned_below HO.out hb6)
      have HB6 := Bas.hid (HBB.out.trans (hb6.mono HBB.out.size))
      have hs6 : w3.heap.size < w6.heap.size := heap_lt p3
      generalize hS : sub A (12 * i) 12 = S
      have HVS := Bas.hid (vb_sub_sub (HV.out.below HB6.out) 16 (rules * 12) (12 * i) 12 (by omega) (by omega))
      rw [HA.out, hS] at HVS
      clear hb6 n1 n2 n3 n4 c6 HC hS
      go_wp2_with (fail)
      have q1 := (Below.heap_alloc w6 (.cells #[.slice S 12 12] 54) _ (heap_lt p1)).trans p1
      have q2 := (Below.heap_alloc w6 (.cells #[.slice S 12 12] 54) _ (heap_lt p2)).trans p2
      have q3 := (Below.heap_alloc w6 (.cells #[.slice S 12 12] 54) _ (heap_lt p3)).trans p3
      have q5 := (Below.heap_alloc w6 (.cells #[.slice S 12 12] 54) _ (heap_lt p4)).trans p4
      have q4 := Bas.heap_new w6 (.cells #[.slice S 12 12] 54)
      have hbW := (Below.refl w6.heap.size w6).alloc (Nat.le_refl _) (.cells #[.slice S 12 12] 54)
      have HO7 := Bas.hid (Row.owned_below HO6.out hbW)
      have HB7 := Bas.hid (HB6.out.trans (hbW.mono HB6.out.size))
      have HVS7 := Bas.hid (HVS.out.below hbW)
      generalize w6.alloc (.cells #[.slice S 12 12] 54) = W7 at *
      clear p1 p2 p3 p4 HO6 HB6 HVS hbW
      have hbl12 : ((bs.drop (16 + 12 * i)).take 12).length = 12 := by rw [List.length_take, List.length_drop]; omega
      have hm12 : 12 ≤ maxLen := by simp [maxLen]
      have V1 := fun (w' : World) (hb : Below W7.heap.size W7 w') => u16_ok S 12 12 _ 0 w' (Nat.le_refl _) hm12 (HVS7.out.below hb) hbl12 (by omega) (by omega)
      have V2 := fun (w' : World) (hb : Below W7.heap.size W7 w') => u16_ok S 12 12 _ 2 w' (Nat.le_refl _) hm12 (HVS7.out.below hb) hbl12 (by omega) (by omega)
      have V3 := fun (w' : World) (hb : Below W7.heap.size W7 w') => u32_ok S 12 12 _ 4 w' (Nat.le_refl _) hm12 (HVS7.out.below hb) hbl12 (by omega) (by omega)
      have V4 := fun (w' : World) (hb : Below W7.heap.size W7 w') => u32_ok S 12 12 _ 8 w' (Nat.le_refl _) hm12 (HVS7.out.below hb) hbl12 (by omega) (by omega)
      rw [show Int.toNat 0 = 0 from rfl, be_sub bs _ 12 0 2 (by omega)] at V1
      rw [show Int.toNat 2 = 2 from rfl, be_sub bs _ 12 2 2 (by omega)] at V2
      rw [show Int.toNat 4 = 4 from rfl, be_sub bs _ 12 4 4 (by omega)] at V3
      rw [show Int.toNat 8 = 8 from rfl, be_sub bs _ 12 8 4 (by omega)] at V4
      have g3 := be4_bd bs HV.out.byte (16 + 12 * i + 4) (by omega)
      have g4 := be4_bd bs HV.out.byte (16 + 12 * i + 8) (by omega)
      have HRA : Hid (ruleAt bs i = ⟨be bs (16 + 12 * i + 0) 2, be bs (16 + 12 * i + 2) 2, be bs (16 + 12 * i + 4) 4, be bs (16 + 12 * i + 8) 4⟩) := rfl
      generalize be bs (16 + 12 * i + 0) 2 = r1 at *
      generalize be bs (16 + 12 * i + 2) 2 = r2 at *
      generalize be bs (16 + 12 * i + 4) 4 = r3 at *
      generalize be bs (16 + 12 * i + 8) 4 = r4 at *
      obtain ⟨g31, g32⟩ := g3
      obtain ⟨g41, g42⟩ := g4
      have HV1 := Bas.hid V1
      have HV2 := Bas.hid V2
      have HV3 := Bas.hid V3
      have HV4 := Bas.hid V4
      clear V1 V2 V3 V4 hbl12 hm12
      refine' Pl.region_v1 83 [] [0, 1, 2, 3, 4, 5, 6, 7, 8, 9, 10, 11, 12] 13 44 [14, 15, 16] _ (fun v u => ∃ g, v = .slice (some ⟨g, 0, none⟩) 1 1 ∧ W7.heap.size ≤ g ∧ u.heap[g]? = some (.cells #[.int .i64 r1, .int .i64 r2, .int .u32 r3, .int .u32 r4] 50 (0, 0))) (by kernel_rfl) (by kernel_rfl) (by simp) (fun _ _ _ _ e h => ⟨e ▸ h.1, h.2⟩) ?_ ?_ ?_ ?_
      rotate_left
      · intro I F hI hF
        simp only [Pl.selN, List.nil_append, List.drop_succ_cons, List.drop_zero]
        have x1 := fun i => hF.cell (heap_lt q2) (cell_of_heap (i := 1) q2 rfl) i
        have x2 := fun i => hF.cell (heap_lt q4) (cell_of_heap (i := 0) q4 rfl) i
        repeat (go_big_quiet_step ((first | (go_at_call 44; first | with_reducible exact hF.call (HV1.out _ (hF.bel _)) | with_reducible exact hF.call (HV2.out _ (hF.bel _))) | (go_at_call 45; first | with_reducible exact hF.call (HV3.out _ (hF.bel _)) | with_reducible exact hF.call (HV4.out _ (hF.bel _))))))
        refine wpQuiet_nil ?_
        rfl
      · rintro v u u' ⟨g, h1, h2, h3⟩ hu hu'
        exact ⟨g, h1, h2, (hu'.block g (heap_lt h3)).trans h3⟩
      · simp only [Pl.selN, List.drop_succ_cons, List.drop_zero, List.mem_singleton, forall_eq]
        intro u hu
        go_simp
        simp only [Pl.valsAt]
        exact ⟨(Below.refl _ _).alloc (Nat.le_refl _) _, _, rfl, hu.size, Bas.heap_new _ _⟩
      · intro v u hu hv
        obtain ⟨g, rfl, hg, hgc⟩ := hv
        simp only [Pl.selN, List.drop_succ_cons, List.drop_zero, Act.put, List.setIfInBounds_toArray, List.set_cons_zero, List.set_cons_succ]
        have u1 := (hu.block _ (heap_lt q1)).trans q1
        have u2 := (hu.block _ (heap_lt q2)).trans q2
        have u3 := (hu.block _ (heap_lt q3)).trans q3
        have u4 := (hu.block _ (heap_lt q5)).trans q5
        have HOu := Bas.hid (Row.owned_below HO7.out hu)
        have HBu := Bas.hid (HB7.out.trans (hu.mono HB7.out.size))
        have hvr1 := own_ty HOu.out u1 (by decide)
        have hvr2 := own_ty HOu.out u2 (by decide)
        have hvr3 := own_ty HOu.out u3 (by decide)
        have hvr4 := own_ty HOu.out u4 (by decide)
        have cb1 := cell_of_heap (i := 1) u2 rfl
        have hus := hu.size
        clear q1 q2 q3 q4 q5 hu HO7 HB7
        refine (Row.append_any rfl _ _ 43 50 rfl (.agg #[.int .i64 0, .int .i64 0, .int .u32 0, .int .u32 0]) 4 24 Try.underlying43 infoR rfl (by decide) w.heap.size vr i (rulesC (rulesAt bs i)) rfl HOu.out (.slice (some ⟨g, 0, none⟩) 1 1) 1 [.int .i64 r1, .int .i64 r2, .int .u32 r3, .int .u32 r4] rfl (leads_heap hgc) rfl (by simp; exact ⟨rfl, rfl, rfl, rfl⟩) (by unfold maxLen; omega) (by omega) HBu.out.size ?_)
        intro v' w8 hown8 hg8 _
        obtain ⟨ad8, cp8, rfl⟩ := own_slice hown8
        have z1 := (hg8.block _ (heap_lt u1) (fun e => hvr1 e.symm)).trans u1
        have z2 := (hg8.block _ (heap_lt u2) (fun e => hvr2 e.symm)).trans u2
        have z3 := (hg8.block _ (heap_lt u3) (fun e => hvr3 e.symm)).trans u3
        have z4 := (hg8.block _ (heap_lt u4) (fun e => hvr4 e.symm)).trans u4
        have hnew : Hid (rulesC (rulesAt bs (i + 1)) = rulesC (rulesAt bs i) ++ [.int .i64 r1, .int .i64 r2, .int .u32 r3, .int .u32 r4]) := by
          unfold Hid; rw [rulesAt_succ, rulesC_snoc, HRA.out]; rfl
        have HO8 := Bas.hid hown8
        have HB8 := Bas.hid (HBu.out.grown hg8 HBu.out.size (fun g' hg' => (Row.own_block HOu.out hg').1))
        have zc := cell_of_heap (i := 1) z2 rfl
        have zf := free_of_heap (i := 1) z2
        clear hown8 hg8 u1 u2 u3 u4 hgc cb1 HOu HBu
        go_wp2_with (fail)
        have y1 := (Below.heap_setCell w8 ⟨w1.heap.size, 1, none⟩ (.slice ad8 (i + 1) cp8) w.heap.size (by show w.heap.size ≠ w1.heap.size; omega)).trans z1
        have y2 := heap_set (i := 1) z2 (.slice ad8 (i + 1) cp8)
        have y3 := (Below.heap_setCell w8 ⟨w1.heap.size, 1, none⟩ (.slice ad8 (i + 1) cp8) w3.heap.size (by show w3.heap.size ≠ w1.heap.size; omega)).trans z3
        have y4 := (Below.heap_setCell w8 ⟨w1.heap.size, 1, none⟩ (.slice ad8 (i + 1) cp8) (w.heap.size + 1) (by show w.heap.size + 1 ≠ w1.heap.size; omega)).trans z4
        have HO9 := Bas.hid (Row.owned_keep HO8.out (w' := w8.setCell ⟨w1.heap.size, 1, none⟩ (.slice ad8 (i + 1) cp8)) fun g' hg' => Below.heap_setCell _ _ _ _ (fun e => own_ty HO8.out z2 (by decide) (by rw [hg', e])))
        have HB9 := Bas.hid (HB8.out.setCell (p := ⟨w1.heap.size, 1, none⟩) (by show w.heap.size ≤ w1.heap.size; omega) (.slice ad8 (i + 1) cp8))
        generalize w8.setCell ⟨w1.heap.size, 1, none⟩ (.slice ad8 (i + 1) cp8) = W9 at *
        go_wp2_with (fail)
        go_roundw
        case rel => exact ⟨i + 1, _, by omega, by go_num, by rw [hnew.out]; exact HO9.out, HB9.out, y1, y2, y3, y4⟩
        case measure => simp [intOf]; omega
    · have hir2 : i = rules := by omega
      subst hir2
      obtain ⟨adr, cpr, rfl⟩ := own_slice hown
      have HO := Bas.hid hown
      have HBB := Bas.hid hb
      clear hown hb m7 m8 m9 m10 n3
      go_wp2_with (fail)
      obtain ⟨wo, hwo⟩ : ∃ wo : World, wo = wr := ⟨_, rfl⟩
      rw [← hwo] at HO HBB n1 n2 n4
      rw [← hwo]
      clear hwo
      go_loopw [9, 52] (fun av c wl => ∃ (k p : Nat) (vs : Value) (dn : List SubD), k ≤ nsubs ∧ c = .int .i64 k ∧ av = .int .i64 p ∧ p ≤ len ∧ dn.length = k ∧ subsAt bs nsubs (16 + 12 * i) = (subsAt bs (nsubs - k) p).map (fun l => dn ++ l) ∧
        wl.ownsRow w.heap.size 50 4 (.slice adr i cpr) i (rulesC (rulesAt bs i)) ∧ wl.ownsRow w.heap.size 56 3 vs k (subsC a dn) ∧ Below w.heap.size w wl ∧ wl.heap[w.heap.size]? = some (.cells #[.slice a len cap] 54 (0, 0)) ∧
        wl.heap[w1.heap.size]? = some (.cells #[.int .u32 first, .slice adr i cpr, vs] 46 (0, 0)) ∧ wl.heap[w.heap.size + 1]? = some (.cells #[.int .u32 0, .slice none 0 0, .slice none 0 0] 46 (0, 0))) (fun _ c _ => nsubs - (intOf c).toNat)
      case atStart => exact ⟨0, 16 + 12 * i, _, [], Nat.zero_le _, rfl, by go_num, hrow, rfl, by simp, HO.out, Row.owned_nil _ _ _ _, HBB.out, n1, n2, n4⟩
      case round =>
        obtain ⟨k, p, vs, dn, hk, rfl, rfl, hp, hdl, hsub, hown, hows, hb, n5, n6, n7⟩ := hrel
        have HSUB := Bas.hid hsub
        have HDL := Bas.hid hdl
        have HOR := Bas.hid hown
        have HOS := Bas.hid hows
        have HBL := Bas.hid hb
        have c5 := cell_of_heap (i := 0) n5 rfl
        clear hsub hdl hown hows hb n1 n2 n4
        by_cases hkn : k < nsubs
        · have hfail : ¬ (p + 4 ≤ bs.length ∧ 12 ≤ (be bs p 4).toNat ∧ p + (be bs p 4).toNat ≤ bs.length) → parseOne bs = none := fun hn => by
            rw [HPO.out, HSUB.out, show nsubs - k = (nsubs - k - 1) + 1 by omega, subsAt, if_neg hn]
            rfl
          have HFAIL := Bas.hid hfail
          clear hfail
          by_cases f1 : p + 4 ≤ len
          · have gb := be4_bd bs HV.out.byte p (by omega)
            have UP := fun (w' : World) (hb : Below w.heap.size w w') => u32_ok a len cap bs (p : Int) w' hl hc (HV.out.below hb) hbl (by omega) (by omega)
            simp only [Int.toNat_natCast] at UP
            obtain ⟨n, hn⟩ : ∃ n : Nat, be bs p 4 = n := ⟨(be bs p 4).toNat, by omega⟩
            rw [hn] at UP gb
            rw [hn, Int.toNat_natCast] at HFAIL
            have HUP := Bas.hid UP
            have HN := Bas.hid hn
            clear UP hn
            have hn32 : n ≤ 4294967295 := by omega
            go_wp2_with (fail)
            refine (HUP.out _ HBL.out).mono ?_
            rintro e w6 ⟨rfl, hb6⟩
            have p5 := (hb6.block _ (heap_lt n5)).trans n5
            have p6 := (hb6.block _ (heap_lt n6)).trans n6
            have p7 := (hb6.block _ (heap_lt n7)).trans n7
            have c5 := cell_of_heap (i := 0) p5 rfl
            have HB6 := Bas.hid (HBL.out.trans (hb6.mono HBL.out.size))
            have HR6 := Bas.hid (Row.owned_below HOR.out hb6)
            have HS6 := Bas.hid (Row.owned_below HOS.out hb6)
            clear hb6 n5 n6 n7 HUP HOR HOS HBL
            by_cases f2 : 12 ≤ n
            · have d2 : decide ((12 : Int) ≤ (n : Int)) = true := by simp; omega
              go_wp2_with (go_at_call 46; refine (need_yesb _ _ (by first | rfl | (simp; done) | (simp; omega))).mono ?_; rintro e w' ⟨rfl, rfl⟩)
              by_cases f3 : p + n ≤ len
              · refine (cut_nat a len cap p n _ hl hc f3).mono ?_
                rintro e w7 ⟨rfl, hb7⟩
                have o5 := (hb7.block _ (heap_lt p5)).trans p5
                have o6 := (hb7.block _ (heap_lt p6)).trans p6
                have o7 := (hb7.block _ (heap_lt p7)).trans p7
                have HB7 := Bas.hid (HB6.out.trans (hb7.mono HB6.out.size))
                have HR7 := Bas.hid (Row.owned_below HR6.out hb7)
                have HS7 := Bas.hid (Row.owned_below HS6.out hb7)
                generalize hS : sub a p n = S
                have HVS := Bas.hid ((HV.out.below HB7.out).sub p n (by omega))
                rw [hS] at HVS
                have HSS := Bas.hid hS
                have hs7 : w1.heap.size < w7.heap.size := heap_lt o6
                clear hb7 p5 p6 p7 c5 HB6 HR6 HS6 hS HFAIL
                go_wp2_with (fail)
                have q5 := (Below.heap_alloc w7 (.cells #[.slice S n n] 54) _ (heap_lt o5)).trans o5
                have q6 := (Below.heap_alloc w7 (.cells #[.slice S n n] 54) _ (heap_lt o6)).trans o6
                have q7 := (Below.heap_alloc w7 (.cells #[.slice S n n] 54) _ (heap_lt o7)).trans o7
                have q4 := Bas.heap_new w7 (.cells #[.slice S n n] 54)
                have hbW := (Below.refl w7.heap.size w7).alloc (Nat.le_refl _) (.cells #[.slice S n n] 54)
                have HR8 := Bas.hid (Row.owned_below HR7.out hbW)
                have HS8 := Bas.hid (Row.owned_below HS7.out hbW)
                have HB8 := Bas.hid (HB7.out.trans (hbW.mono HB7.out.size))
                have HVS8 := Bas.hid (HVS.out.below hbW)
                generalize w7.alloc (.cells #[.slice S n n] 54) = W8 at *
                clear o5 o6 o7 HR7 HS7 HB7 HVS hbW
                have hbln : ((bs.drop p).take n).length = n := by rw [List.length_take, List.length_drop]; omega
                have hmn : n ≤ maxLen := by unfold maxLen; omega
                have V1 := fun (w' : World) (hb : Below W8.heap.size W8 w') => u32_ok S n n _ 4 w' (Nat.le_refl _) hmn (HVS8.out.below hb) hbln (by omega) (by omega)
                have V2 := fun (w' : World) (hb : Below W8.heap.size W8 w') => u32_ok S n n _ 8 w' (Nat.le_refl _) hmn (HVS8.out.below hb) hbln (by omega) (by omega)
                have V3 := fun (w' : World) => rest_ok S n n 12 w' (Nat.le_refl _) hmn (by omega) (by omega)
                rw [show Int.toNat 4 = 4 from rfl, be_sub bs _ n 4 4 (by omega)] at V1
                rw [show Int.toNat 8 = 8 from rfl, be_sub bs _ n 8 4 (by omega)] at V2
                simp only [show Int.toNat 12 = 12 from rfl] at V3
                have g1 := be4_bd bs HV.out.byte (p + 4) (by omega)
                have g2 := be4_bd bs HV.out.byte (p + 8) (by omega)
                have HSUB2 : Hid (subsAt bs (nsubs - k) p = (subsAt bs (nsubs - (k + 1)) (p + n)).map fun l => ⟨be bs (p + 4) 4, be bs (p + 8) 4, p, n⟩ :: l) := by
                  unfold Hid
                  rw [show nsubs - k = (nsubs - (k + 1)) + 1 by omega, subsAt, HN.out, Int.toNat_natCast, if_pos ⟨by omega, f2, by omega⟩]
                generalize be bs (p + 4) 4 = r1 at *
                generalize be bs (p + 8) 4 = r2 at *
                obtain ⟨g11, g12⟩ := g1
                obtain ⟨g21, g22⟩ := g2
                have HV1 := Bas.hid V1
                have HV2 := Bas.hid V2
                have HV3 := Bas.hid V3
                clear V1 V2 V3 hbln
                refine' Pl.region_v1 83 [] [0, 1, 2, 3, 4, 5, 6, 7, 8, 9, 10] 11 75 [12, 13, 14] _ (fun v u => ∃ g, v = .slice (some ⟨g, 0, none⟩) 1 1 ∧ W8.heap.size ≤ g ∧ u.heap[g]? = some (.cells #[.int .u32 r1, .int .u32 r2, .slice (sub S 12 (n - 12)) (n - 12) (n - 12)] 56 (0, 0))) (by kernel_rfl) (by kernel_rfl) (by simp) (fun _ _ _ _ e h => ⟨e ▸ h.1, h.2⟩) ?_ ?_ ?_ ?_
                rotate_left
                · intro I F hI hF
                  simp only [Pl.selN, List.nil_append, List.drop_succ_cons, List.drop_zero]
                  have x1 := fun i => hF.cell (heap_lt q6) (cell_of_heap (i := 2) q6 rfl) i
                  have x2 := fun i => hF.cell (heap_lt q4) (cell_of_heap (i := 0) q4 rfl) i
                  repeat (go_big_quiet_step ((first | (go_at_call 45; first | with_reducible exact hF.call (HV1.out _ (hF.bel _)) | with_reducible exact hF.call (HV2.out _ (hF.bel _))) | (go_at_call 59; with_reducible exact hF.call (HV3.out _)))))
                  refine wpQuiet_nil ?_
                  rfl
                · rintro v u u' ⟨g, h1, h2, h3⟩ hu hu'
                  exact ⟨g, h1, h2, (hu'.block g (heap_lt h3)).trans h3⟩
                · simp only [Pl.selN, List.drop_succ_cons, List.drop_zero, List.mem_singleton, forall_eq]
                  intro u hu
                  go_simp
                  simp only [Pl.valsAt]
                  exact ⟨(Below.refl _ _).alloc (Nat.le_refl _) _, _, rfl, hu.size, Bas.heap_new _ _⟩
                · intro v u hu hv
                  obtain ⟨g, rfl, hg, hgc⟩ := hv
                  simp only [Pl.selN, List.drop_succ_cons, List.drop_zero, Act.put, List.setIfInBounds_toArray, List.set_cons_zero, List.set_cons_succ]
                  have u5 := (hu.block _ (heap_lt q5)).trans q5
                  have u6 := (hu.block _ (heap_lt q6)).trans q6
                  have u7 := (hu.block _ (heap_lt q7)).trans q7
                  have HRu := Bas.hid (Row.owned_below HR8.out hu)
                  have HSu := Bas.hid (Row.owned_below HS8.out hu)
                  have HBu := Bas.hid (HB8.out.trans (hu.mono HB8.out.size))
                  have hv5 := own_ty HSu.out u5 (by decide)
                  have hv6 := own_ty HSu.out u6 (by decide)
                  have hv7 := own_ty HSu.out u7 (by decide)
                  have hus := hu.size
                  have hkb : k ≤ 4294967295 := by omega
                  clear q4 q5 q6 q7 hu HR8 HS8 HB8
                  refine (Row.append_any rfl _ _ 44 56 rfl (.agg #[.int .u32 0, .int .u32 0, .slice none 0 0]) 3 32 Try.underlying44 infoSub rfl (by decide) w.heap.size vs k (subsC a dn) rfl HSu.out (.slice (some ⟨g, 0, none⟩) 1 1) 1 [.int .u32 r1, .int .u32 r2, .slice (sub S 12 (n - 12)) (n - 12) (n - 12)] rfl (leads_heap hgc) rfl (by simp; exact ⟨rfl, rfl, rfl⟩) (by unfold maxLen; omega) (by omega) HBu.out.size ?_)
                  intro v' w9 hown9 hg9 _
                  obtain ⟨ad9, cp9, rfl⟩ := own_slice hown9
                  have z5 := (hg9.block _ (heap_lt u5) (fun e => hv5 e.symm)).trans u5
                  have z6 := (hg9.block _ (heap_lt u6) (fun e => hv6 e.symm)).trans u6
                  have z7 := (hg9.block _ (heap_lt u7) (fun e => hv7 e.symm)).trans u7
                  have HR9 := Bas.hid (Row.owned_keep HRu.out fun g' hg' => hg9.block g' (Row.own_block HRu.out hg').2 (fun e => own_rows_ne HRu.out HSu.out (by decide) hg' e.symm))
                  have hnew : Hid (subsC a (dn ++ [⟨r1, r2, p, n⟩]) = subsC a dn ++ [.int .u32 r1, .int .u32 r2, .slice (sub S 12 (n - 12)) (n - 12) (n - 12)]) := by
                    unfold Hid; rw [subsC_snoc]; unfold subC; rw [HSS.out]
                  have HS9 := Bas.hid hown9
                  have HB9 := Bas.hid (HBu.out.grown hg9 HBu.out.size (fun g' hg' => (Row.own_block HSu.out hg').1))
                  have zc := cell_of_heap (i := 2) z6 rfl
                  have zf := free_of_heap (i := 2) z6
                  clear hown9 hg9 u5 u6 u7 hgc HRu HSu HBu
                  go_wp2_with (fail)
                  have y5 := (Below.heap_setCell w9 ⟨w1.heap.size, 2, none⟩ (.slice ad9 (k + 1) cp9) w.heap.size (by show w.heap.size ≠ w1.heap.size; omega)).trans z5
                  have y6 := heap_set (i := 2) z6 (.slice ad9 (k + 1) cp9)
                  have y7 := (Below.heap_setCell w9 ⟨w1.heap.size, 2, none⟩ (.slice ad9 (k + 1) cp9) (w.heap.size + 1) (by show w.heap.size + 1 ≠ w1.heap.size; omega)).trans z7
                  have HR10 := Bas.hid (Row.owned_keep HR9.out (w' := w9.setCell ⟨w1.heap.size, 2, none⟩ (.slice ad9 (k + 1) cp9)) fun g' hg' => Below.heap_setCell _ _ _ _ (fun e => own_ty HR9.out z6 (by decide) (by rw [hg', e])))
                  have HS10 := Bas.hid (Row.owned_keep HS9.out (w' := w9.setCell ⟨w1.heap.size, 2, none⟩ (.slice ad9 (k + 1) cp9)) fun g' hg' => Below.heap_setCell _ _ _ _ (fun e => own_ty HS9.out z6 (by decide) (by rw [hg', e])))
                  have HB10 := Bas.hid (HB9.out.setCell (p := ⟨w1.heap.size, 2, none⟩) (by show w.heap.size ≤ w1.heap.size; omega) (.slice ad9 (k + 1) cp9))
                  generalize w9.setCell ⟨w1.heap.size, 2, none⟩ (.slice ad9 (k + 1) cp9) = W10 at *
                  go_wp2_with (fail)
                  go_roundw
                  case rel => exact ⟨k + 1, p + n, _, dn ++ [⟨r1, r2, p, n⟩], by omega, by go_num, by go_num, f3, by rw [List.length_append, HDL.out]; rfl, by rw [HSUB.out, HSUB2.out]; simp [Option.map_map, Function.comp_def], HR10.out, by rw [hnew.out]; exact HS10.out, HB10.out, y5, y6, y7⟩
                  case measure => simp [intOf]; omega
              · refine (cut_no a len cap _ _ _ hl hc (by omega)).mono ?_
                rintro e w7 ⟨rfl, hb7⟩
                go_wp2_with (fail)
                exact ⟨rfl, HB6.out.trans (hb7.mono HB6.out.size), by rw [HFAIL.out (by omega)]⟩
            · go_wp2_with (go_at_call 46; refine (need_nob _ _ (by first | (simp; done) | (simp; omega))).mono ?_; rintro e w' ⟨rfl, rfl⟩)
              exact ⟨rfl, HB6.out, by rw [HFAIL.out (by omega)]⟩
          · go_wp2_with (fail)
            refine (u32_no a len cap _ _ hl hc (by omega)).mono ?_
            rintro e w6 ⟨rfl, hb6⟩
            go_wp2_with (fail)
            exact ⟨rfl, HBL.out.trans (hb6.mono HBL.out.size), by rw [HFAIL.out (by omega)]⟩
        · have hkn2 : k = nsubs := by omega
          have hdone : parseOne bs = some ⟨first, rulesAt bs i, dn⟩ := by
            rw [HPO.out, HSUB.out, hkn2, Nat.sub_self, subsAt]; simp
          have HD := Bas.hid hdone
          obtain ⟨ads, cps, rfl⟩ := own_slice HOS.out
          have x0 := cell_of_heap (i := 0) n6 rfl
          have x1 := cell_of_heap (i := 1) n6 rfl
          have x2 := cell_of_heap (i := 2) n6 rfl
          have y0 := cell_of_heap (i := 0) n7 rfl
          have y1 := cell_of_heap (i := 1) n7 rfl
          have y2 := cell_of_heap (i := 2) n7 rfl
          have f0 := free_of_heap (i := 0) n7
          have f1 := free_of_heap (i := 1) n7
          have f2 := free_of_heap (i := 2) n7
          clear hdone hkn2
          go_wp2_with (fail)
          refine bodyPost_ret (v := .agg #[.int .u32 first, .slice adr i cpr, .slice ads k cps]) (by simp [results, Try.results47, go_sem, y0, y1, y2]) rfl ?_
          have hkeep : ∀ g', g' ≠ w.heap.size + 1 → (((wr.setCell ⟨w.heap.size + 1, 0, none⟩ (.int .u32 first)).setCell ⟨w.heap.size + 1, 1, none⟩ (.slice adr i cpr)).setCell ⟨w.heap.size + 1, 2, none⟩ (.slice ads k cps)).heap[g']? = wr.heap[g']? := fun g' hg' =>
            (Below.heap_setCell _ _ _ _ hg').trans ((Below.heap_setCell _ _ _ _ hg').trans (Below.heap_setCell _ _ _ _ hg'))
          refine ⟨((HBL.out.setCell (p := ⟨w.heap.size + 1, 0, none⟩) (Nat.le_succ _) _).setCell (p := ⟨w.heap.size + 1, 1, none⟩) (Nat.le_succ _) _).setCell (p := ⟨w.heap.size + 1, 2, none⟩) (Nat.le_succ _) _, ?_⟩
          rw [HD.out]
          refine ⟨_, _, rfl, ?_, ?_⟩
          · rw [rulesAt_len]
            exact Row.owned_keep HOR.out fun g' hg' => hkeep g' (fun e => own_ty HOR.out n7 (by decide) (by rw [hg', e]))
          · rw [show dn.length = k from HDL.out]
            exact Row.owned_keep HOS.out fun g' hg' => hkeep g' (fun e => own_ty HOS.out n7 (by decide) (by rw [hg', e]))
end Ch
end Go.Proofs.Ytgddghplhdmfdaa
