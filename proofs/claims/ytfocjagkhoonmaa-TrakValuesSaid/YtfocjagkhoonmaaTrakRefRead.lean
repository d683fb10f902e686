/- The reference's table (layer 27), of bytes that begin well. -/
import Derived.Test.YtfocjagkhoonmaaTrakRefData
namespace Go.Proofs.Ytfocjagkhoonmaa
open Go.RowKit
namespace Tk
open Vw Ref01

theorem rdata_flag (a : Option Addr) (len cap : Nat) (bs : List Int) (at' : Nat) (w : World) (hv : VB w a bs) (hbl : bs.length = len) (hsmall : len ≤ 1000000000) (hatb : at' ≤ 65535) :
    Calls Try.prog 41 #[.slice a len cap, .int .i64 at'] w fun e w' => Below w.heap.size w w' ∧ ∃ a1 n1 c1 a2 n2 c2, e = .returned (.tuple #[.agg #[.slice a1 n1 c1, .slice a2 n2 c2], .bool (dataAt bs at').isSome]) ∧
      ∀ t, dataAt bs at' = some t → TrkOwn w' w.heap.size (.slice a1 n1 c1) (.slice a2 n2 c2) t := by
  refine (rdata_any a len cap bs at' w hv hbl hsmall hatb).mono ?_
  rintro e w' ⟨hb, h⟩
  refine ⟨hb, ?_⟩
  cases hd : dataAt bs at' with
  | none =>
    rw [hd] at h
    obtain ⟨a1, n1, c1, a2, n2, c2, rfl⟩ := h
    exact ⟨a1, n1, c1, a2, n2, c2, rfl, fun t h => by cases h⟩
  | some t =>
    rw [hd] at h
    obtain ⟨v1, v2, rfl, ho⟩ := h
    obtain ⟨a1, c1, rfl⟩ := own_slice ho.1
    obtain ⟨a2, c2, rfl⟩ := own_slice ho.2
    exact ⟨_, _, _, _, _, _, rfl, fun t' h => by cases h; exact ho⟩

def RReadP (w : World) (bs : List Int) (e : Ending) (w' : World) : Prop :=
  Below w.heap.size w w' ∧ ∃ a1 n1 c1 a2 n2 c2 a3 n3 c3 a4 n4 c4, e = .returned (.tuple #[.agg #[.slice a1 n1 c1, .slice a2 n2 c2, .slice a3 n3 c3, .slice a4 n4 c4], .bool (tableAt bs).isSome]) ∧
    ∀ t, tableAt bs = some t → TrkOwn w' w.heap.size (.slice a1 n1 c1) (.slice a2 n2 c2) t.1 ∧ TrkOwn w' w.heap.size (.slice a3 n3 c3) (.slice a4 n4 c4) t.2

theorem trk_below {w w' : World} {base : Nat} {v1 v2 : Value} {t : TrackD} (h : TrkOwn w base v1 v2 t) (hb : Below w.heap.size w w') : TrkOwn w' base v1 v2 t := ⟨Row.owned_below h.1 hb, Row.owned_below h.2 hb⟩
theorem trk_base {w : World} {base base' : Nat} {v1 v2 : Value} {t : TrackD} (h : TrkOwn w base v1 v2 t) (hb : base' ≤ base) : TrkOwn w base' v1 v2 t := ⟨Row.owned_base h.1 hb, Row.owned_base h.2 hb⟩

set_option maxRecDepth 100000 in
set_option maxHeartbeats 8000000 in
theorem rread_ok (a : Option Addr) (len cap : Nat) (bs : List Int) (w : World) (hv : VB w a bs) (hbl : bs.length = len) (hsmall : len ≤ 1000000000) (hh : 12 ≤ len ∧ be bs 0 4 = 65536 ∧ be bs 4 2 = 0) :
    Calls Try.prog 18 #[.slice a len cap] w (RReadP w bs) := by
  have U0 := fun w' (hb : Below w.heap.size w w') => u_ok a len cap bs 0 4 w' (by omega) (hv.below hb) hbl (by omega) (by omega) (by omega)
  have U4 := fun w' (hb : Below w.heap.size w w') => u_ok a len cap bs 4 2 w' (by omega) (hv.below hb) hbl (by omega) (by omega) (by omega)
  have U6 := fun w' (hb : Below w.heap.size w w') => u_ok a len cap bs 6 2 w' (by omega) (hv.below hb) hbl (by omega) (by omega) (by omega)
  have U8 := fun w' (hb : Below w.heap.size w w') => u_ok a len cap bs 8 2 w' (by omega) (hv.below hb) hbl (by omega) (by omega) (by omega)
  have hb6 := be2_bd bs hv.byte 6 (by omega)
  have hb8 := be2_bd bs hv.byte 8 (by omega)
  have HTA : Hid (tableAt bs = (dataAt bs (be bs 6 2).toNat).bind fun t1 => (dataAt bs (be bs 8 2).toNat).map fun t2 => (t1, t2)) := by
    unfold Hid tableAt
    rw [if_pos ⟨hbl ▸ hh.1, hh.2⟩]
  obtain ⟨p1, hp1⟩ : ∃ n : Nat, be bs 6 2 = n := ⟨(be bs 6 2).toNat, by omega⟩
  obtain ⟨p2, hp2⟩ : ∃ n : Nat, be bs 8 2 = n := ⟨(be bs 8 2).toNat, by omega⟩
  have e0 : (0 : Int).toNat = 0 := rfl
  have e4 : (4 : Int).toNat = 4 := rfl
  have e6 : (6 : Int).toNat = 6 := rfl
  have e8 : (8 : Int).toNat = 8 := rfl
  simp only [e0, e4, e6, e8] at U0 U4 U6 U8
  rw [hh.2.1] at U0
  rw [hh.2.2] at U4
  rw [hp1] at U6 hb6 HTA
  rw [hp2] at U8 hb8 HTA
  simp only [Int.toNat_natCast] at HTA
  have HU0 := Bas.hid U0
  have HU4 := Bas.hid U4
  have HU6 := Bas.hid U6
  have HU8 := Bas.hid U8
  have D1 := Bas.hid fun w' (hb : Below w.heap.size w w') => rdata_flag a len cap bs p1 w' (hv.below hb) hbl hsmall (by omega)
  have D2 := Bas.hid fun w' (hb : Below w.heap.size w w') => rdata_flag a len cap bs p2 w' (hv.below hb) hbl hsmall (by omega)
  have hl12 := hh.1
  have dl : decide ((len : Int) < 12) = false := by simp; omega
  have dl2 : decide (len < 12) = false := by simp; omega
  have HAL := Bas.hid ((Below.refl w.heap.size w).alloc (Nat.le_refl _) (.cells #[.slice none 0 0, .slice none 0 0, .slice none 0 0, .slice none 0 0] 40))
  have k2 := Bas.heap_new w (.cells #[.slice none 0 0, .slice none 0 0, .slice none 0 0, .slice none 0 0] 40)
  clear U0 U4 U6 U8 hh hv hp1 hp2 e0 e4 e6 e8 hb6 hb8
  go_enter Try.func18, Try.ntmps18
  go_wp2_with (fail)
  generalize w.alloc (.cells #[.slice none 0 0, .slice none 0 0, .slice none 0 0, .slice none 0 0] 40) = W at *
  refine (HU0.out _ HAL.out).mono ?_
  rintro e w1 ⟨rfl, rfl⟩
  go_wp2_with (fail)
  refine (HU4.out _ HAL.out).mono ?_
  rintro e w1 ⟨rfl, rfl⟩
  go_wp2_with (fail)
  refine (HU6.out _ HAL.out).mono ?_
  rintro e w1 ⟨rfl, rfl⟩
  clear HU0 HU4 HU6
  go_wp2_with (fail)
  refine (D1.out _ HAL.out).mono ?_
  rintro e w2 ⟨hb2, a1, n1, c1, a2, n2, c2, rfl, ho1⟩
  have j2 := (hb2.block _ (heap_lt k2)).trans k2
  have HB2 := Bas.hid (HAL.out.trans (hb2.mono HAL.out.size))
  have HO1 := Bas.hid ho1
  obtain ⟨f1, hf1⟩ : ∃ b, b = (dataAt bs p1).isSome := ⟨_, rfl⟩
  have HF1 := Bas.hid hf1
  rw [← hf1]
  clear hb2 k2 ho1 hf1 D1
  go_wp2_with (fail)
  have m2 := (Below.heap_alloc w2 (.cells #[.slice a1 n1 c1, .slice a2 n2 c2] 38) _ (heap_lt j2)).trans j2
  have m4 := Bas.heap_new w2 (.cells #[.slice a1 n1 c1, .slice a2 n2 c2] 38)
  have HB3 := Bas.hid (HB2.out.alloc HB2.out.size (.cells #[.slice a1 n1 c1, .slice a2 n2 c2] 38))
  have HO1' : Hid (∀ t, dataAt bs p1 = some t → TrkOwn (w2.alloc (.cells #[.slice a1 n1 c1, .slice a2 n2 c2] 38)) w.heap.size (.slice a1 n1 c1) (.slice a2 n2 c2) t) := fun t h => trk_below (trk_base (HO1.out t h) HAL.out.size) ((Below.refl _ _).alloc (Nat.le_refl _) _)
  have hT4 : w.heap.size < w2.heap.size := heap_lt j2
  clear j2 HB2 HO1
  generalize w2.alloc (.cells #[.slice a1 n1 c1, .slice a2 n2 c2] 38) = W3 at *
  generalize w2.heap.size = T4 at *
  refine (HU8.out _ HB3.out).mono ?_
  rintro e w1 ⟨rfl, rfl⟩
  clear HU8
  go_wp2_with (fail)
  refine (D2.out _ HB3.out).mono ?_
  rintro e w4 ⟨hb4, a3, n3, c3, a4, n4, c4, rfl, ho2⟩
  have n2' := (hb4.block _ (heap_lt m2)).trans m2
  have n4' := (hb4.block _ (heap_lt m4)).trans m4
  have HB4 := Bas.hid (HB3.out.trans (hb4.mono HB3.out.size))
  have HO2 := Bas.hid ho2
  have HO1 : Hid (∀ t, dataAt bs p1 = some t → TrkOwn w4 w.heap.size (.slice a1 n1 c1) (.slice a2 n2 c2) t) := fun t h => trk_below (HO1'.out t h) hb4
  obtain ⟨f2, hf2⟩ : ∃ b, b = (dataAt bs p2).isSome := ⟨_, rfl⟩
  have HF2 := Bas.hid hf2
  rw [← hf2]
  have HFE : Hid ((tableAt bs).isSome = (f1 && f2)) := by
    unfold Hid
    rw [HTA.out, HF1.out, HF2.out]
    cases dataAt bs p1 <;> cases dataAt bs p2 <;> rfl
  have HB3s := Bas.hid HB3.out.size
  clear hb4 m2 m4 ho2 hf2 D2 HO1' HB3
  have l2 := heap_lt n2'
  have l4 := heap_lt n4'
  have x40 := cell_of_heap (i := 0) (v := .slice a1 n1 c1) n4' rfl
  have x41 := cell_of_heap (i := 1) (v := .slice a2 n2 c2) n4' rfl
  have x20 := cell_of_heap (i := 0) (v := .slice none 0 0) n2' rfl
  have x21 := cell_of_heap (i := 1) (v := .slice none 0 0) n2' rfl
  have x22 := cell_of_heap (i := 2) (v := .slice none 0 0) n2' rfl
  have x23 := cell_of_heap (i := 3) (v := .slice none 0 0) n2' rfl
  have f20 := free_of_heap (i := 0) n2'
  have f21 := free_of_heap (i := 1) n2'
  have f22 := free_of_heap (i := 2) n2'
  have f23 := free_of_heap (i := 3) n2'
  have HBF : Hid (Below w.heap.size w (((((w4.setCell ⟨w.heap.size, 0, none⟩ (.slice a1 n1 c1)).setCell ⟨w.heap.size, 1, none⟩ (.slice a2 n2 c2)).setCell ⟨w.heap.size, 2, none⟩ (.slice a3 n3 c3)).setCell ⟨w.heap.size, 3, none⟩ (.slice a4 n4 c4)).alloc (.cells #[.slice a3 n3 c3, .slice a4 n4 c4] 38))) :=
    ((((HB4.out.setCell (p := ⟨w.heap.size, 0, none⟩) (Nat.le_refl _) _).setCell (p := ⟨w.heap.size, 1, none⟩) (Nat.le_refl _) _).setCell (p := ⟨w.heap.size, 2, none⟩) (Nat.le_refl _) _).setCell (p := ⟨w.heap.size, 3, none⟩) (Nat.le_refl _) _).alloc (by simp [World.setCell]; omega) _
  have HPO : Hid (∀ t, tableAt bs = some t → TrkOwn (((((w4.setCell ⟨w.heap.size, 0, none⟩ (.slice a1 n1 c1)).setCell ⟨w.heap.size, 1, none⟩ (.slice a2 n2 c2)).setCell ⟨w.heap.size, 2, none⟩ (.slice a3 n3 c3)).setCell ⟨w.heap.size, 3, none⟩ (.slice a4 n4 c4)).alloc (.cells #[.slice a3 n3 c3, .slice a4 n4 c4] 38)) w.heap.size (.slice a1 n1 c1) (.slice a2 n2 c2) t.1 ∧ TrkOwn (((((w4.setCell ⟨w.heap.size, 0, none⟩ (.slice a1 n1 c1)).setCell ⟨w.heap.size, 1, none⟩ (.slice a2 n2 c2)).setCell ⟨w.heap.size, 2, none⟩ (.slice a3 n3 c3)).setCell ⟨w.heap.size, 3, none⟩ (.slice a4 n4 c4)).alloc (.cells #[.slice a3 n3 c3, .slice a4 n4 c4] 38)) w.heap.size (.slice a3 n3 c3) (.slice a4 n4 c4) t.2) := by
    intro t ht
    have hk : ∀ g, g < w4.heap.size → g ≠ w.heap.size → (((((w4.setCell ⟨w.heap.size, 0, none⟩ (.slice a1 n1 c1)).setCell ⟨w.heap.size, 1, none⟩ (.slice a2 n2 c2)).setCell ⟨w.heap.size, 2, none⟩ (.slice a3 n3 c3)).setCell ⟨w.heap.size, 3, none⟩ (.slice a4 n4 c4)).alloc (.cells #[.slice a3 n3 c3, .slice a4 n4 c4] 38)).heap[g]? = w4.heap[g]? := fun g hg hne =>
      (Below.heap_alloc _ _ _ (by simp [World.setCell]; omega)).trans ((Below.heap_setCell _ _ _ _ hne).trans ((Below.heap_setCell _ _ _ _ hne).trans ((Below.heap_setCell _ _ _ _ hne).trans (Below.heap_setCell _ _ _ _ hne))))
    have keep : ∀ (v1 v2 : Value) (t : TrackD), TrkOwn w4 w.heap.size v1 v2 t → TrkOwn (((((w4.setCell ⟨w.heap.size, 0, none⟩ (.slice a1 n1 c1)).setCell ⟨w.heap.size, 1, none⟩ (.slice a2 n2 c2)).setCell ⟨w.heap.size, 2, none⟩ (.slice a3 n3 c3)).setCell ⟨w.heap.size, 3, none⟩ (.slice a4 n4 c4)).alloc (.cells #[.slice a3 n3 c3, .slice a4 n4 c4] 38)) w.heap.size v1 v2 t := fun v1 v2 t h =>
      ⟨Row.owned_keep h.1 fun g hg => hk g (Row.own_block h.1 hg).2 (fun e => own_ty h.1 n2' (by decide) (by rw [hg, e])), Row.owned_keep h.2 fun g hg => hk g (Row.own_block h.2 hg).2 (fun e => own_ty h.2 n2' (by decide) (by rw [hg, e]))⟩
    rw [HTA.out] at ht
    cases h1 : dataAt bs p1 with
    | none => rw [h1] at ht; cases ht
    | some t1 =>
      cases h2 : dataAt bs p2 with
      | none => rw [h1, h2] at ht; cases ht
      | some t2 =>
        rw [h1, h2] at ht
        cases ht
        exact ⟨keep _ _ _ (HO1.out t1 h1), keep _ _ _ (trk_base (HO2.out t2 h2) HB3s.out)⟩
  cases f1 <;> cases f2
  · go_wp2_with (fail)
    exact bodyPost_ret (v := .tuple #[.agg #[.slice a1 n1 c1, .slice a2 n2 c2, .slice a3 n3 c3, .slice a4 n4 c4], .bool false]) (by simp [results, Try.results18, go_sem, x20, x21, x22, x23, l2]) rfl ⟨HBF.out, a1, n1, c1, a2, n2, c2, a3, n3, c3, a4, n4, c4, by rw [HFE.out]; rfl, HPO.out⟩
  · go_wp2_with (fail)
    exact bodyPost_ret (v := .tuple #[.agg #[.slice a1 n1 c1, .slice a2 n2 c2, .slice a3 n3 c3, .slice a4 n4 c4], .bool false]) (by simp [results, Try.results18, go_sem, x20, x21, x22, x23, l2]) rfl ⟨HBF.out, a1, n1, c1, a2, n2, c2, a3, n3, c3, a4, n4, c4, by rw [HFE.out]; rfl, HPO.out⟩
  · go_wp2_with (fail)
    exact bodyPost_ret (v := .tuple #[.agg #[.slice a1 n1 c1, .slice a2 n2 c2, .slice a3 n3 c3, .slice a4 n4 c4], .bool false]) (by simp [results, Try.results18, go_sem, x20, x21, x22, x23, l2]) rfl ⟨HBF.out, a1, n1, c1, a2, n2, c2, a3, n3, c3, a4, n4, c4, by rw [HFE.out]; rfl, HPO.out⟩
  · go_wp2_with (fail)
    exact bodyPost_ret (v := .tuple #[.agg #[.slice a1 n1 c1, .slice a2 n2 c2, .slice a3 n3 c3, .slice a4 n4 c4], .bool true]) (by simp [results, Try.results18, go_sem, x20, x21, x22, x23, l2]) rfl ⟨HBF.out, a1, n1, c1, a2, n2, c2, a3, n3, c3, a4, n4, c4, by rw [HFE.out]; rfl, HPO.out⟩
end Tk
end Go.Proofs.Ytfocjagkhoonmaa
