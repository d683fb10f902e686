/- The walk of the law SeekTakes. -/
import Derived.Test.YtgddghplhdmfdaaSeekTakesA
import Derived.Deep.RegionHeld3
namespace Go.Proofs.Ytgddghplhdmfdaa
open Go.RowKit
namespace Sk
open Vw

set_option maxHeartbeats 4000000 in
theorem seekTakes_walk (a : Option Addr) (len cap : Nat) (z : List Int) (at' need keys : Int) (w : World) (hz : Bas.IsRow .u8 w a len cap z)
    (hn0 : -9223372036854775808 ≤ need) (hn1 : need ≤ 9223372036854775807) :
    Calls Try.prog 12 #[.slice a len cap, .int .i64 at', .agg #[.int .i64 need, .int .i64 keys]] w fun e w' => e = .returned (.bool true) ∧ Below w.heap.size w w' := by
  have hmf : ∀ (fn : Fn) (first cap : Array Value) (w : World), (Instr.makeFunc fn first cap).run Try.prog w = .ok (.func fn first cap) w := fun _ _ _ _ => rfl
  have hlm : len ≤ 9223372036854775807 := by
    rcases hz with ⟨rfl, rfl, rfl, rfl⟩ | ⟨x, rfl, hl, hm, _⟩
    · omega
    · unfold maxLen at hm; omega
  have HZ := Bas.hid hz
  clear hz
  go_enter Try.func12, Try.ntmps12
  go_wp2_with (fail)
  refine (speaks_any _).mono ?_
  rintro e w1 ⟨rfl, hb1⟩
  have hs1 := hb1.size
  simp only [World.size_alloc] at hs1
  have c0 := (hb1.cell (p := ⟨w.heap.size, 0, none⟩) (by simp; omega)).trans (by simp [go_sem] : _ = some (.slice a len cap))
  have c1 := (hb1.cell (p := ⟨w.heap.size + 1, 0, none⟩) (by simp)).trans (by simp [go_sem] : _ = some (.int .i64 at'))
  have k0 := (hb1.cell (p := ⟨w.heap.size + 1 + 1, 0, none⟩) (by simp)).trans (by simp [go_sem] : _ = some (.int .i64 need))
  have k1 := (hb1.cell (p := ⟨w.heap.size + 1 + 1, 1, none⟩) (by simp)).trans (by simp [go_sem] : _ = some (.int .i64 keys))
  have HB1 := Bas.hid (Bas.on ((((Below.refl w.heap.size w).alloc (Nat.le_refl _) _).alloc (by simp) _).alloc (by simp; omega) _) hb1)
  clear hb1
  go_wp2_with (fail)
  have := World.new_ne w1 _ k0
  have := World.new_ne w1 _ k1
  go_region_held3 (fun w' => w'.cell? ⟨w.heap.size + 1 + 1, 0, none⟩ = some (.int .i64 need) ∧ w'.cell? ⟨w.heap.size + 1 + 1, 1, none⟩ = some (.int .i64 keys)) (go_keep) (fail)
  · obtain ⟨b7, hb7⟩ : ∃ b, b = w1.heap.size := ⟨_, rfl⟩
    obtain ⟨b8, hb8⟩ : ∃ b, b = w1.heap.size + 1 := ⟨_, rfl⟩
    have c7 : (((w1.alloc (.cells #[.int .i64 need] 3)).alloc (.cells #[.int .i64 keys] 3)).drew).cell? ⟨b7, 0, none⟩ = some (.int .i64 need) := by rw [hb7]; simp [go_sem]
    have c8 : (((w1.alloc (.cells #[.int .i64 need] 3)).alloc (.cells #[.int .i64 keys] 3)).drew).cell? ⟨b8, 0, none⟩ = some (.int .i64 keys) := by rw [hb8]; simp [go_sem]
    generalize hW : ((w1.alloc (.cells #[.int .i64 need] 3)).alloc (.cells #[.int .i64 keys] 3)).drew = W at *
    rw [← hb8, ← hb7]
    have l71 : w1.heap.size ≤ b7 := by omega
    have l72 : b7 ≤ w1.heap.size + 1 := by omega
    have l81 : w1.heap.size ≤ b8 := by omega
    have l82 : b8 ≤ w1.heap.size + 1 := by omega
    clear hb7 hb8
    have HW := Bas.hid hW.symm
    clear hW
    have hWs : W.heap.size = w1.heap.size + 2 := by rw [HW.out]; simp [World.drew]
    have HBW : Below w.heap.size w W := by rw [HW.out]; exact (((HB1.out.alloc HB1.out.size _).alloc (by simp; omega) _).drew)
    have cB : W.cell? ⟨w.heap.size, 0, none⟩ = some (.slice a len cap) := by
      rw [HW.out, World.cell?_drew, World.cell?_alloc_lt _ _ _ (by simp; omega), World.cell?_alloc_lt _ _ _ (by show w.heap.size < _; omega)]; exact c0
    have cA : W.cell? ⟨w.heap.size + 1, 0, none⟩ = some (.int .i64 at') := by
      rw [HW.out, World.cell?_drew, World.cell?_alloc_lt _ _ _ (by simp; omega), World.cell?_alloc_lt _ _ _ (by show w.heap.size + 1 < _; omega)]; exact c1
    have hWa : W.heap.size ≤ w1.heap.size + 2 := by omega
    have hWb : w1.heap.size + 2 ≤ W.heap.size := by omega
    clear HW c0 c1 HB1 k0 k1 hWs
    have HBW2 := Bas.hid HBW
    clear HBW
    have b70 : b7 < W.heap.size := by omega
    have b80 : b8 < W.heap.size := by omega
    have b71 : w.heap.size + 3 ≤ b7 := by omega
    have b81 : w.heap.size + 3 ≤ b8 := by omega
    by_cases hbig : 2000 < len
    · have d0 : decide (2000 < (len : Int)) = true := by simp; omega
      go_wp2_with (fail)
      go_ret
      exact ⟨rfl, HBW2.out⟩
    · have d0 : decide (2000 < (len : Int)) = false := by simp; omega
      by_cases hbad : need < 2 ∨ keys < 1 ∨ need / 2 < keys
      · rcases (show need < 2 ∨ (¬ need < 2 ∧ keys < 1) ∨ (¬ need < 2 ∧ ¬ keys < 1 ∧ need / 2 < keys) by omega) with h | ⟨h, h'⟩ | ⟨h, h', h''⟩
        · have d1 : decide (need < 2) = true := by simpa using h
          clear hbad
          go_wp2_with (fail)
          go_ret
          exact ⟨rfl, HBW2.out⟩
        · have d1 : decide (need < 2) = false := by simpa using h
          have d2 : decide (keys < 1) = true := by simpa using h'
          clear hbad
          go_wp2_with (fail)
          go_ret
          exact ⟨rfl, HBW2.out⟩
        · have d1 : decide (need < 2) = false := by simpa using h
          have d2 : decide (keys < 1) = false := by simpa using h'
          have d3 : decide (need / 2 < keys) = true := by simpa using h''
          have b1 : 0 ≤ need := by omega
          clear hbad
          go_wp2_with (fail)
          go_ret
          exact ⟨rfl, HBW2.out⟩
      · obtain ⟨hv, hbl, hlc, hcm, hnil⟩ := VB_of_row HZ.out (by omega)
        generalize z.take len = bs at hv hbl
        have h1 : 2 ≤ need := by omega
        have h2 : 1 ≤ keys := by omega
        have h3 : keys ≤ need / 2 := by omega
        clear hbad HZ hnil
        obtain ⟨k, rfl⟩ := Int.eq_ofNat_of_zero_le (show 0 ≤ keys by omega)
        have d1 : decide (need < 2) = false := by simpa using h1
        have d2 : decide ((k : Int) < 1) = false := by simp; omega
        have d3 : decide (need / 2 < (k : Int)) = false := by simpa using h3
        have b1 : 0 ≤ need := by omega
        have HV := Bas.hid hv
        clear hv
        have hcf : ∀ (caps : Array Value) w, (callFunc 32 caps).run Try.prog w = .ok (.enter 32 caps) w := fun caps w => by simp [go_sem]
        have HCF := Bas.hid hcf
        clear hcf
        go_wp2_with (fail)
        generalize hW2 : W.alloc (.cells #[.slice none 0 0] 85) = W2
        have hW2s : W2.heap.size = W.heap.size + 1 := by rw [← hW2]; simp
        have HB2 := Bas.hid (show Below w.heap.size w W2 by rw [← hW2]; exact HBW2.out.alloc HBW2.out.size _)
        have oldc : ∀ b o, b < W.heap.size → (W2.alloc (.cells #[.bool false] 4)).cell? ⟨b, o, none⟩ = W.cell? ⟨b, o, none⟩ := fun b o hb => by
          rw [World.cell?_alloc_lt _ _ _ (by show b < _; omega), ← hW2, World.cell?_alloc_lt _ _ _ hb]
        have e0 := (oldc w.heap.size 0 (by omega)).trans cB
        have e1 := (oldc (w.heap.size + 1) 0 (by omega)).trans cA
        have e7 := (oldc b7 0 b70).trans c7
        have e8 := (oldc b8 0 b80).trans c8
        have e9 : (W2.alloc (.cells #[.bool false] 4)).cell? ⟨W.heap.size, 0, none⟩ = some (.slice none 0 0) := by
          rw [World.cell?_alloc_lt _ _ _ (by show W.heap.size < _; omega), ← hW2]; simp
        have f9 : (W2.alloc (.cells #[.bool false] 4)).frozen? ⟨W.heap.size, 0, none⟩ = false := by
          rw [frozen?_alloc_cells, ← hW2]; simp
        have hvT : VB (W2.alloc (.cells #[.bool false] 4)) a bs := (HV.out.below HB2.out).below ((Below.refl _ _).alloc (Nat.le_refl _) _)
        have hW2a : W2.heap.size ≤ W.heap.size + 1 := by omega
        have hW2b : W.heap.size + 1 ≤ W2.heap.size := by omega
        clear hW2 oldc cB cA c7 c8 hW2s
        have hbk : w.heap.size < W2.heap.size := by omega
        -- what was there, behind Try
        have after : ∀ (good : Bool) (rows : List (List Int)) (ok : Bool) (w2 w5 : World), TakesR (W2.alloc (.cells #[.bool false] 4)) W.heap.size good rows ok w2 → w2.grownBy w5 (some W2.heap.size) →
            ok = good ∧ Below w.heap.size w w5 ∧ W2.heap.size < w5.heap.size ∧ w5.cell? ⟨w.heap.size, 0, none⟩ = some (.slice a len cap) ∧ w5.cell? ⟨w.heap.size + 1, 0, none⟩ = some (.int .i64 at') ∧ w5.cell? ⟨b7, 0, none⟩ = some (.int .i64 need) ∧ w5.cell? ⟨b8, 0, none⟩ = some (.int .i64 k) ∧
            ∃ v, w5.cell? ⟨W.heap.size, 0, none⟩ = some v ∧ (good = true → StrRow w5 w.heap.size v rows) := by
          rintro good rows ok w2 w5 ⟨hg2, hok, _, v, hcv, hm⟩ hg5
          have hs2 := hg2.size
          simp only [World.size_alloc] at hs2
          have hs5 := hg5.size
          have cell : ∀ b o x, b < W2.heap.size → b ≠ W.heap.size → (W2.alloc (.cells #[.bool false] 4)).cell? ⟨b, o, none⟩ = some x → w5.cell? ⟨b, o, none⟩ = some x := fun b o x hb hne h => by
            rw [Bas.gcell hg5 (by omega) (by simp; omega), Bas.gcell hg2 (by simp; omega) (by simp; omega)]; exact h
          refine ⟨hok, Bas.below_g (Bas.below_g (HB2.out.alloc HB2.out.size _) hg2 (by simp; omega) (by omega)) hg5 (by omega) (by omega), by omega, cell _ _ _ (by omega) (by omega) e0, cell _ _ _ (by omega) (by omega) e1, cell _ _ _ (by omega) (by omega) e7, cell _ _ _ (by omega) (by omega) e8, v, (Bas.gcell hg5 (by omega) (by simp; omega)).trans hcv, fun h => ?_⟩
          have h4 := hm h
          refine Row.owned_base (Row.owned_keep h4 fun g hg => ?_) (by simp; omega)
          obtain ⟨h5, h6⟩ := Row.own_block h4 hg
          simp only [World.size_alloc] at h5
          exact hg5.block g h6 (by simp; omega)
        have HAF := Bas.hid after
        clear after
        by_cases ht : takeB len bs at' need
        · obtain ⟨t0, t1, t2, t3⟩ := ht
          obtain ⟨p, rfl⟩ := Int.eq_ofNat_of_zero_le t0
          have hbs := be2_bd bs HV.out.byte p (by omega)
          have hbn := be2_bd bs HV.out.byte (p + 2) (by omega)
          have RD := fun (w' : World) (hb : Below w.heap.size w w') => read_yes a len cap bs p need k w' hlc hcm hbl (by omega) h1 (by omega) h3 hn1 (HV.out.below hb) ⟨t0, t1, t2, t3⟩
          unfold readRows at RD
          simp only [Int.toNat_natCast] at t2 t3 RD
          have hs : be bs p 2 = ((be bs p 2).toNat : Int) := by omega
          have hn : be bs (p + 2) 2 = ((be bs (p + 2) 2).toNat : Int) := by omega
          generalize (be bs p 2).toNat = s at *
          generalize (be bs (p + 2) 2).toNat = n at *
          rw [hs] at t2 t3
          rw [hn] at t3
          have hn65 : n ≤ 65535 := by omega
          have hmn : rowCount bs p s n k ≤ n := by unfold rowCount; split <;> omega
          have HC := takes1_yes a len cap bs p s n k need w.heap.size (w.heap.size + 1) b7 b8 W.heap.size W2.heap.size (W2.alloc (.cells #[.bool false] 4)) hlc hcm hvT hbl e0 e1 e7 e8 e9 f9
            (fun x hx hp => by
              obtain ⟨b, o, h4, h5⟩ := HV.out.cell 0 hp
              have h6 : b < w.heap.size := World.block_lt_of_cell? _ _ h5
              rw [h4] at hx
              cases hx
              show b ≠ _
              omega) (by omega) (Bas.heap_new _ _) (by omega) hs hn t2 (by omega) (by omega) t3 (by omega)
          generalize rowCount bs p s n k = m at *
          have hget : ∀ i, i < m → (rowL bs p s m)[i]? = some (rowB bs p s i) := fun i hi => by unfold rowL; rw [List.getElem?_map, List.getElem?_range hi]; rfl
          have hrl0 := rowL_len bs p s m
          generalize rowL bs p s m = rows at *
          subst hrl0
          have HRD := Bas.hid RD
          have HGET := Bas.hid hget
          clear RD hget hs hn t0 t1 t2 t3 hbs hbn e0 e1 e7 e8 e9 f9 hvT
          refine (try_any 32 _ W2 _ (HCF.out _) HC).mono ?_
          clear HC HCF
          rintro e w5 ⟨ok, w2, rfl, hR, hlt2, hg5⟩
          obtain ⟨rfl, hb5, hs5, g0, g1, g7, g8, v, g9, hst⟩ := HAF.out true rows ok w2 w5 hR hg5
          have hst := hst rfl
          obtain ⟨ad, cp, rfl⟩ : ∃ ad cp, v = .slice ad rows.length cp := by
            rcases Row.owned_parts hst with ⟨rfl, h0, _⟩ | ⟨_, _, h, _⟩
            · exact ⟨none, 0, by rw [h0]⟩
            · exact ⟨_, _, h⟩
          have HST := Bas.hid hst
          have HB5 := Bas.hid hb5
          have RD := Bas.hid (HRD.out w5 hb5)
          clear HAF hR hg5 hst hb5 HRD
          go_wp2_with (fail)
          refine RD.out.mono ?_
          rintro e w6 ⟨v6, rfl, hb6, hm6⟩
          obtain ⟨ad6, cp6, rfl⟩ := mat_slice hm6
          have g9' := (hb6.cell (p := ⟨W.heap.size, 0, none⟩) (by show W.heap.size < _; omega)).trans g9
          have HB6 := Bas.hid (HB5.out.trans (hb6.mono HB5.out.size))
          have HST6 := Bas.hid (Row.owned_below HST.out hb6)
          have HM6 := Bas.hid hm6
          have hs6 := hb6.size
          clear g0 g1 g7 g8 g9 hm6 hb6 HST RD
          go_wp2_with (fail)
          have q1 : ((rows.length : Int) == (rows.length : Int)) = true := by simp
          go_loopw [54] (fun c wr => ∃ i : Nat, i ≤ rows.length ∧ c = .int .i64 i ∧ Below w6.heap.size w6 wr) (fun c _ => rows.length - (intOf c).toNat)
          case atStart => exact ⟨0, Nat.zero_le _, rfl, Below.refl _ _⟩
          case round =>
            obtain ⟨i, hi, rfl, hbr⟩ := hrel
            have g10 := (hbr.cell (p := ⟨W.heap.size, 0, none⟩) (by show W.heap.size < _; omega)).trans g9'
            by_cases him : i < rows.length
            · have hri := HGET.out i him
              generalize rowB bs p s i = r at hri
              obtain ⟨xs, hx1, hx2⟩ := HM6.out
              obtain ⟨g, cg, h5, h6, h7, h8, h9, h10, -⟩ := hx2 i _ hri
              rcases Row.owned_parts hx1 with ⟨_, hn0, _⟩ | ⟨G, cG, hvG, hG, hGl, hGc, hGm, hcl, -⟩
              · omega
              cases hvG
              have hcG := (hbr.cell (p := ⟨G, i, none⟩) hGl).trans (hcl i _ h5)
              rcases Row.owned_parts HST6.out with ⟨_, hn0, _⟩ | ⟨G2, cG2, hvG2, hG2, hGl2, hGc2, hGm2, hcl2, -⟩
              · omega
              cases hvG2
              have hcG2 := (hbr.cell (p := ⟨G2, i, none⟩) hGl2).trans (hcl2 i (.string (strOfNums r)) (by rw [List.getElem?_map, hri]; rfl))
              have cv1 := fun n => conv_vb (h10.below (Bas.below_drewN hbr n)) r.length cg rfl
              have HBR := Bas.hid hbr
              have di : decide ((rows.length : Int) ≤ (i : Int)) = false := by simp; omega
              clear hx1 hx2 h5 h10 hcl hcl2 hbr hri
              go_wp2_with (fail)
              go_quiet (fail)
              clear cv1
              go_wp2_with (fail)
              go_roundw
              case rel => exact ⟨i + 1, by omega, by go_num, Bas.below_drewN HBR.out _⟩
              case measure => simp [intOf]; omega
            · have him2 : i = rows.length := by omega
              subst him2
              have HBR := Bas.hid hbr
              clear hbr
              go_wp2_with (fail)
              go_ret
              exact ⟨rfl, HB6.out.trans (HBR.out.mono HB6.out.size)⟩
        · have RD := fun (w' : World) (hb : Below w.heap.size w w') => read_no a len cap bs at' need k w' hlc hcm hbl h1 (by omega) h3 hn1 (HV.out.below hb) ht
          have HC := takes1_no a len cap bs at' need k w.heap.size (w.heap.size + 1) b7 b8 W.heap.size W2.heap.size (W2.alloc (.cells #[.bool false] 4)) [] hlc hcm hvT hbl e0 e1 e7 e8 e9 f9 (Bas.heap_new _ _) ht
          have HRD := Bas.hid RD
          clear RD e0 e1 e7 e8 e9 f9 hvT ht
          refine (try_any 32 _ W2 _ (HCF.out _) HC).mono ?_
          clear HC HCF
          rintro e w5 ⟨ok, w2, rfl, hR, hlt2, hg5⟩
          obtain ⟨rfl, hb5, hs5, g0, g1, g7, g8, v, g9, -⟩ := HAF.out false [] ok w2 w5 hR hg5
          have HB5 := Bas.hid hb5
          have RD := Bas.hid (HRD.out w5 hb5)
          clear HAF hR hg5 hb5 HRD
          go_wp2_with (fail)
          refine RD.out.mono ?_
          rintro e w6 ⟨v6, rfl, hb6, hm6⟩
          obtain ⟨ad6, cp6, rfl⟩ := mat_slice hm6
          have HB6 := Bas.hid (HB5.out.trans (hb6.mono HB5.out.size))
          clear g0 g1 g7 g8 g9 hm6 hb6 RD
          go_wp2_with (fail)
          go_loopw [54] (fun c wr => c = .int .i64 0 ∧ w6 = wr) (fun c _ => 0)
          case atStart => exact ⟨rfl, rfl⟩
          case round =>
            obtain ⟨rfl, rfl⟩ := hrel
            go_wp2_with (fail)
            go_ret
            exact ⟨rfl, HB6.out⟩
  · obtain ⟨b7, hb7⟩ : ∃ b, b = w1.heap.size + 1 := ⟨_, rfl⟩
    obtain ⟨b8, hb8⟩ : ∃ b, b = w1.heap.size := ⟨_, rfl⟩
    have c7 : (((w1.alloc (.cells #[.int .i64 keys] 3)).alloc (.cells #[.int .i64 need] 3)).drew).cell? ⟨b7, 0, none⟩ = some (.int .i64 need) := by rw [hb7]; simp [go_sem]
    have c8 : (((w1.alloc (.cells #[.int .i64 keys] 3)).alloc (.cells #[.int .i64 need] 3)).drew).cell? ⟨b8, 0, none⟩ = some (.int .i64 keys) := by rw [hb8]; simp [go_sem]
    generalize hW : ((w1.alloc (.cells #[.int .i64 keys] 3)).alloc (.cells #[.int .i64 need] 3)).drew = W at *
    rw [← hb7, ← hb8]
    have l71 : w1.heap.size ≤ b7 := by omega
    have l72 : b7 ≤ w1.heap.size + 1 := by omega
    have l81 : w1.heap.size ≤ b8 := by omega
    have l82 : b8 ≤ w1.heap.size + 1 := by omega
    clear hb7 hb8
    have HW := Bas.hid hW.symm
    clear hW
    have hWs : W.heap.size = w1.heap.size + 2 := by rw [HW.out]; simp [World.drew]
    have HBW : Below w.heap.size w W := by rw [HW.out]; exact (((HB1.out.alloc HB1.out.size _).alloc (by simp; omega) _).drew)
    have cB : W.cell? ⟨w.heap.size, 0, none⟩ = some (.slice a len cap) := by
      rw [HW.out, World.cell?_drew, World.cell?_alloc_lt _ _ _ (by simp; omega), World.cell?_alloc_lt _ _ _ (by show w.heap.size < _; omega)]; exact c0
    have cA : W.cell? ⟨w.heap.size + 1, 0, none⟩ = some (.int .i64 at') := by
      rw [HW.out, World.cell?_drew, World.cell?_alloc_lt _ _ _ (by simp; omega), World.cell?_alloc_lt _ _ _ (by show w.heap.size + 1 < _; omega)]; exact c1
    have hWa : W.heap.size ≤ w1.heap.size + 2 := by omega
    have hWb : w1.heap.size + 2 ≤ W.heap.size := by omega
    clear HW c0 c1 HB1 k0 k1 hWs
    have HBW2 := Bas.hid HBW
    clear HBW
    have b70 : b7 < W.heap.size := by omega
    have b80 : b8 < W.heap.size := by omega
    have b71 : w.heap.size + 3 ≤ b7 := by omega
    have b81 : w.heap.size + 3 ≤ b8 := by omega
    by_cases hbig : 2000 < len
    · have d0 : decide (2000 < (len : Int)) = true := by simp; omega
      go_wp2_with (fail)
      go_ret
      exact ⟨rfl, HBW2.out⟩
    · have d0 : decide (2000 < (len : Int)) = false := by simp; omega
      by_cases hbad : need < 2 ∨ keys < 1 ∨ need / 2 < keys
      · rcases (show need < 2 ∨ (¬ need < 2 ∧ keys < 1) ∨ (¬ need < 2 ∧ ¬ keys < 1 ∧ need / 2 < keys) by omega) with h | ⟨h, h'⟩ | ⟨h, h', h''⟩
        · have d1 : decide (need < 2) = true := by simpa using h
          clear hbad
          go_wp2_with (fail)
          go_ret
          exact ⟨rfl, HBW2.out⟩
        · have d1 : decide (need < 2) = false := by simpa using h
          have d2 : decide (keys < 1) = true := by simpa using h'
          clear hbad
          go_wp2_with (fail)
          go_ret
          exact ⟨rfl, HBW2.out⟩
        · have d1 : decide (need < 2) = false := by simpa using h
          have d2 : decide (keys < 1) = false := by simpa using h'
          have d3 : decide (need / 2 < keys) = true := by simpa using h''
          have b1 : 0 ≤ need := by omega
          clear hbad
          go_wp2_with (fail)
          go_ret
          exact ⟨rfl, HBW2.out⟩
      · obtain ⟨hv, hbl, hlc, hcm, hnil⟩ := VB_of_row HZ.out (by omega)
        generalize z.take len = bs at hv hbl
        have h1 : 2 ≤ need := by omega
        have h2 : 1 ≤ keys := by omega
        have h3 : keys ≤ need / 2 := by omega
        clear hbad HZ hnil
        obtain ⟨k, rfl⟩ := Int.eq_ofNat_of_zero_le (show 0 ≤ keys by omega)
        have d1 : decide (need < 2) = false := by simpa using h1
        have d2 : decide ((k : Int) < 1) = false := by simp; omega
        have d3 : decide (need / 2 < (k : Int)) = false := by simpa using h3
        have b1 : 0 ≤ need := by omega
        have HV := Bas.hid hv
        clear hv
        have hcf : ∀ (caps : Array Value) w, (callFunc 32 caps).run Try.prog w = .ok (.enter 32 caps) w := fun caps w => by simp [go_sem]
        have HCF := Bas.hid hcf
        clear hcf
        go_wp2_with (fail)
        generalize hW2 : W.alloc (.cells #[.slice none 0 0] 85) = W2
        have hW2s : W2.heap.size = W.heap.size + 1 := by rw [← hW2]; simp
        have HB2 := Bas.hid (show Below w.heap.size w W2 by rw [← hW2]; exact HBW2.out.alloc HBW2.out.size _)
        have oldc : ∀ b o, b < W.heap.size → (W2.alloc (.cells #[.bool false] 4)).cell? ⟨b, o, none⟩ = W.cell? ⟨b, o, none⟩ := fun b o hb => by
          rw [World.cell?_alloc_lt _ _ _ (by show b < _; omega), ← hW2, World.cell?_alloc_lt _ _ _ hb]
        have e0 := (oldc w.heap.size 0 (by omega)).trans cB
        have e1 := (oldc (w.heap.size + 1) 0 (by omega)).trans cA
        have e7 := (oldc b7 0 b70).trans c7
        have e8 := (oldc b8 0 b80).trans c8
        have e9 : (W2.alloc (.cells #[.bool false] 4)).cell? ⟨W.heap.size, 0, none⟩ = some (.slice none 0 0) := by
          rw [World.cell?_alloc_lt _ _ _ (by show W.heap.size < _; omega), ← hW2]; simp
        have f9 : (W2.alloc (.cells #[.bool false] 4)).frozen? ⟨W.heap.size, 0, none⟩ = false := by
          rw [frozen?_alloc_cells, ← hW2]; simp
        have hvT : VB (W2.alloc (.cells #[.bool false] 4)) a bs := (HV.out.below HB2.out).below ((Below.refl _ _).alloc (Nat.le_refl _) _)
        have hW2a : W2.heap.size ≤ W.heap.size + 1 := by omega
        have hW2b : W.heap.size + 1 ≤ W2.heap.size := by omega
        clear hW2 oldc cB cA c7 c8 hW2s
        have hbk : w.heap.size < W2.heap.size := by omega
        -- what was there, behind Try
        have after : ∀ (good : Bool) (rows : List (List Int)) (ok : Bool) (w2 w5 : World), TakesR (W2.alloc (.cells #[.bool false] 4)) W.heap.size good rows ok w2 → w2.grownBy w5 (some W2.heap.size) →
            ok = good ∧ Below w.heap.size w w5 ∧ W2.heap.size < w5.heap.size ∧ w5.cell? ⟨w.heap.size, 0, none⟩ = some (.slice a len cap) ∧ w5.cell? ⟨w.heap.size + 1, 0, none⟩ = some (.int .i64 at') ∧ w5.cell? ⟨b7, 0, none⟩ = some (.int .i64 need) ∧ w5.cell? ⟨b8, 0, none⟩ = some (.int .i64 k) ∧
            ∃ v, w5.cell? ⟨W.heap.size, 0, none⟩ = some v ∧ (good = true → StrRow w5 w.heap.size v rows) := by
          rintro good rows ok w2 w5 ⟨hg2, hok, _, v, hcv, hm⟩ hg5
          have hs2 := hg2.size
          simp only [World.size_alloc] at hs2
          have hs5 := hg5.size
          have cell : ∀ b o x, b < W2.heap.size → b ≠ W.heap.size → (W2.alloc (.cells #[.bool false] 4)).cell? ⟨b, o, none⟩ = some x → w5.cell? ⟨b, o, none⟩ = some x := fun b o x hb hne h => by
            rw [Bas.gcell hg5 (by omega) (by simp; omega), Bas.gcell hg2 (by simp; omega) (by simp; omega)]; exact h
          refine ⟨hok, Bas.below_g (Bas.below_g (HB2.out.alloc HB2.out.size _) hg2 (by simp; omega) (by omega)) hg5 (by omega) (by omega), by omega, cell _ _ _ (by omega) (by omega) e0, cell _ _ _ (by omega) (by omega) e1, cell _ _ _ (by omega) (by omega) e7, cell _ _ _ (by omega) (by omega) e8, v, (Bas.gcell hg5 (by omega) (by simp; omega)).trans hcv, fun h => ?_⟩
          have h4 := hm h
          refine Row.owned_base (Row.owned_keep h4 fun g hg => ?_) (by simp; omega)
          obtain ⟨h5, h6⟩ := Row.own_block h4 hg
          simp only [World.size_alloc] at h5
          exact hg5.block g h6 (by simp; omega)
        have HAF := Bas.hid after
        clear after
        by_cases ht : takeB len bs at' need
        · obtain ⟨t0, t1, t2, t3⟩ := ht
          obtain ⟨p, rfl⟩ := Int.eq_ofNat_of_zero_le t0
          have hbs := be2_bd bs HV.out.byte p (by omega)
          have hbn := be2_bd bs HV.out.byte (p + 2) (by omega)
          have RD := fun (w' : World) (hb : Below w.heap.size w w') => read_yes a len cap bs p need k w' hlc hcm hbl (by omega) h1 (by omega) h3 hn1 (HV.out.below hb) ⟨t0, t1, t2, t3⟩
          unfold readRows at RD
          simp only [Int.toNat_natCast] at t2 t3 RD
          have hs : be bs p 2 = ((be bs p 2).toNat : Int) := by omega
          have hn : be bs (p + 2) 2 = ((be bs (p + 2) 2).toNat : Int) := by omega
          generalize (be bs p 2).toNat = s at *
          generalize (be bs (p + 2) 2).toNat = n at *
          rw [hs] at t2 t3
          rw [hn] at t3
          have hn65 : n ≤ 65535 := by omega
          have hmn : rowCount bs p s n k ≤ n := by unfold rowCount; split <;> omega
          have HC := takes1_yes a len cap bs p s n k need w.heap.size (w.heap.size + 1) b7 b8 W.heap.size W2.heap.size (W2.alloc (.cells #[.bool false] 4)) hlc hcm hvT hbl e0 e1 e7 e8 e9 f9
            (fun x hx hp => by
              obtain ⟨b, o, h4, h5⟩ := HV.out.cell 0 hp
              have h6 : b < w.heap.size := World.block_lt_of_cell? _ _ h5
              rw [h4] at hx
              cases hx
              show b ≠ _
              omega) (by omega) (Bas.heap_new _ _) (by omega) hs hn t2 (by omega) (by omega) t3 (by omega)
          generalize rowCount bs p s n k = m at *
          have hget : ∀ i, i < m → (rowL bs p s m)[i]? = some (rowB bs p s i) := fun i hi => by unfold rowL; rw [List.getElem?_map, List.getElem?_range hi]; rfl
          have hrl0 := rowL_len bs p s m
          generalize rowL bs p s m = rows at *
          subst hrl0
          have HRD := Bas.hid RD
          have HGET := Bas.hid hget
          clear RD hget hs hn t0 t1 t2 t3 hbs hbn e0 e1 e7 e8 e9 f9 hvT
          refine (try_any 32 _ W2 _ (HCF.out _) HC).mono ?_
          clear HC HCF
          rintro e w5 ⟨ok, w2, rfl, hR, hlt2, hg5⟩
          obtain ⟨rfl, hb5, hs5, g0, g1, g7, g8, v, g9, hst⟩ := HAF.out true rows ok w2 w5 hR hg5
          have hst := hst rfl
          obtain ⟨ad, cp, rfl⟩ : ∃ ad cp, v = .slice ad rows.length cp := by
            rcases Row.owned_parts hst with ⟨rfl, h0, _⟩ | ⟨_, _, h, _⟩
            · exact ⟨none, 0, by rw [h0]⟩
            · exact ⟨_, _, h⟩
          have HST := Bas.hid hst
          have HB5 := Bas.hid hb5
          have RD := Bas.hid (HRD.out w5 hb5)
          clear HAF hR hg5 hst hb5 HRD
          go_wp2_with (fail)
          refine RD.out.mono ?_
          rintro e w6 ⟨v6, rfl, hb6, hm6⟩
          obtain ⟨ad6, cp6, rfl⟩ := mat_slice hm6
          have g9' := (hb6.cell (p := ⟨W.heap.size, 0, none⟩) (by show W.heap.size < _; omega)).trans g9
          have HB6 := Bas.hid (HB5.out.trans (hb6.mono HB5.out.size))
          have HST6 := Bas.hid (Row.owned_below HST.out hb6)
          have HM6 := Bas.hid hm6
          have hs6 := hb6.size
          clear g0 g1 g7 g8 g9 hm6 hb6 HST RD
          go_wp2_with (fail)
          have q1 : ((rows.length : Int) == (rows.length : Int)) = true := by simp
          go_loopw [54] (fun c wr => ∃ i : Nat, i ≤ rows.length ∧ c = .int .i64 i ∧ Below w6.heap.size w6 wr) (fun c _ => rows.length - (intOf c).toNat)
          case atStart => exact ⟨0, Nat.zero_le _, rfl, Below.refl _ _⟩
          case round =>
            obtain ⟨i, hi, rfl, hbr⟩ := hrel
            have g10 := (hbr.cell (p := ⟨W.heap.size, 0, none⟩) (by show W.heap.size < _; omega)).trans g9'
            by_cases him : i < rows.length
            · have hri := HGET.out i him
              generalize rowB bs p s i = r at hri
              obtain ⟨xs, hx1, hx2⟩ := HM6.out
              obtain ⟨g, cg, h5, h6, h7, h8, h9, h10, -⟩ := hx2 i _ hri
              rcases Row.owned_parts hx1 with ⟨_, hn0, _⟩ | ⟨G, cG, hvG, hG, hGl, hGc, hGm, hcl, -⟩
              · omega
              cases hvG
              have hcG := (hbr.cell (p := ⟨G, i, none⟩) hGl).trans (hcl i _ h5)
              rcases Row.owned_parts HST6.out with ⟨_, hn0, _⟩ | ⟨G2, cG2, hvG2, hG2, hGl2, hGc2, hGm2, hcl2, -⟩
              · omega
              cases hvG2
              have hcG2 := (hbr.cell (p := ⟨G2, i, none⟩) hGl2).trans (hcl2 i (.string (strOfNums r)) (by rw [List.getElem?_map, hri]; rfl))
              have cv1 := fun n => conv_vb (h10.below (Bas.below_drewN hbr n)) r.length cg rfl
              have HBR := Bas.hid hbr
              have di : decide ((rows.length : Int) ≤ (i : Int)) = false := by simp; omega
              clear hx1 hx2 h5 h10 hcl hcl2 hbr hri
              go_wp2_with (fail)
              go_quiet (fail)
              clear cv1
              go_wp2_with (fail)
              go_roundw
              case rel => exact ⟨i + 1, by omega, by go_num, Bas.below_drewN HBR.out _⟩
              case measure => simp [intOf]; omega
            · have him2 : i = rows.length := by omega
              subst him2
              have HBR := Bas.hid hbr
              clear hbr
              go_wp2_with (fail)
              go_ret
              exact ⟨rfl, HB6.out.trans (HBR.out.mono HB6.out.size)⟩
        · have RD := fun (w' : World) (hb : Below w.heap.size w w') => read_no a len cap bs at' need k w' hlc hcm hbl h1 (by omega) h3 hn1 (HV.out.below hb) ht
          have HC := takes1_no a len cap bs at' need k w.heap.size (w.heap.size + 1) b7 b8 W.heap.size W2.heap.size (W2.alloc (.cells #[.bool false] 4)) [] hlc hcm hvT hbl e0 e1 e7 e8 e9 f9 (Bas.heap_new _ _) ht
          have HRD := Bas.hid RD
          clear RD e0 e1 e7 e8 e9 f9 hvT ht
          refine (try_any 32 _ W2 _ (HCF.out _) HC).mono ?_
          clear HC HCF
          rintro e w5 ⟨ok, w2, rfl, hR, hlt2, hg5⟩
          obtain ⟨rfl, hb5, hs5, g0, g1, g7, g8, v, g9, -⟩ := HAF.out false [] ok w2 w5 hR hg5
          have HB5 := Bas.hid hb5
          have RD := Bas.hid (HRD.out w5 hb5)
          clear HAF hR hg5 hb5 HRD
          go_wp2_with (fail)
          refine RD.out.mono ?_
          rintro e w6 ⟨v6, rfl, hb6, hm6⟩
          obtain ⟨ad6, cp6, rfl⟩ := mat_slice hm6
          have HB6 := Bas.hid (HB5.out.trans (hb6.mono HB5.out.size))
          clear g0 g1 g7 g8 g9 hm6 hb6 RD
          go_wp2_with (fail)
          go_loopw [54] (fun c wr => c = .int .i64 0 ∧ w6 = wr) (fun c _ => 0)
          case atStart => exact ⟨rfl, rfl⟩
          case round =>
            obtain ⟨rfl, rfl⟩ := hrel
            go_wp2_with (fail)
            go_ret
            exact ⟨rfl, HB6.out⟩

set_option maxRecDepth 100000 in
theorem seekTakes_law {H : Type} {enc : TypeId × Value → H} (a : Option Addr) (len cap : Nat) (z : List Int) (at' : Int) (v : Value) (d : DataW H) (p : List MemPlace) (W : World) (hz : Bas.IsRow .u8 W a len cap z) (_hat : (Lit.int .i64 at').wf = true) {base : Nat}
    (hv : Value.okWide Try.prog W .any base 74 v) (ht : DataW.Trod enc Try.prog W 0 (fun _ => true) true 74 v d p) :
    Calls Try.prog 12 #[.slice a len cap, .int .i64 at', v] W fun e w' => e = .returned (.bool true) ∧ Below W.heap.size W w' := by
  obtain ⟨xs, hl, rfl, hw⟩ := Bas.open_arr Try.underlying74 Try.underlying3 (by kernel_rfl) (by kernel_rfl) hv ht
  match xs, hl with
  | [x0, x1], _ =>
    have a0 := Bas.wf_i64 (hw x0 (by simp))
    exact seekTakes_walk a len cap z at' x0 x1 W hz a0.1 a0.2
end Sk
end Go.Proofs.Ytgddghplhdmfdaa
