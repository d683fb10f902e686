/- Layer 4 (width): Read, of a font of advances. -/
import Derived.Test.YtfocjagkhoonmaaWidthFont
namespace Go.Proofs.Ytfocjagkhoonmaa
open Go.RowKit
namespace Fo
open Vw Wr

theorem vb_grown {w w' : World} {g B : Nat} {bs : List Int} (h : VB w (some ⟨g, 0, none⟩) bs) (hg : w.grownBy w' (some B)) (hne : g ≠ B) : VB w' (some ⟨g, 0, none⟩) bs :=
  ⟨h.len, h.byte, fun i hi => by
    obtain ⟨b, o, ha, hc⟩ := h.cell i hi
    cases ha
    exact ⟨_, _, rfl, (Bas.gcell hg (World.block_lt_of_cell? _ _ hc) (fun e => hne (by cases e; rfl))).trans hc⟩⟩

/-- What is left when Read's function has ended, or thrown. -/
def WR (W : World) (T : Nat) (good : Bool) (bs : List Int) (ok : Bool) (w2 : World) : Prop :=
  W.grownBy w2 (some T) ∧ ok = good ∧ (good = true → ∃ gb cb, W.heap.size ≤ gb ∧ w2.heap[T]? = some (.cells #[.slice (some ⟨gb, 0, none⟩) bs.length cb] 58 (0, 0)) ∧ bs.length ≤ cb ∧ cb ≤ maxLen ∧ VB w2 (some ⟨gb, 0, none⟩) bs)

set_option maxHeartbeats 4000000 in
theorem wread1_any (X : Option Addr) (n g m L : Nat) (u : Int) (d : List Int) (T4 T6 bt : Nat) (W : World) (hv : VB W X d) (hdl : d.length = n) (hn : n ≤ 1000000) (hL : 4 * m + 2 * (g - m) = L) (hm1 : 1 ≤ m) (hmg : m ≤ g) (hgb : g ≤ 65535)
    (h6 : W.heap[T6]? = some (.cells #[.slice X n n] 58 (0, 0))) (h4 : W.heap[T4]? = some (.cells #[.int .i64 (g : Nat), .int .i64 u, .int .i64 (m : Nat)] 63 (0, 0))) (hne : bt ≠ T6) (hk : W.heap[bt]? = some (.cells #[.bool false] 4 (0, 0))) :
    Calls Try.prog 56 #[.pointer (some ⟨T6, 0, none⟩), .pointer (some ⟨T4, 0, none⟩)] W (TryPost bt (WR W T6 (decide (L ≤ n)) (d.take L))) := by
  have l6 := heap_lt h6
  have lt := heap_lt hk
  have hnm : n ≤ maxLen := by unfold maxLen; omega
  have c6 := cell_of_heap (i := 0) (v := .slice X n n) h6 rfl
  have f6 := free_of_heap (i := 0) h6
  have c40 := cell_of_heap (i := 0) (v := .int .i64 (g : Nat)) h4 rfl
  have c42 := cell_of_heap (i := 2) (v := .int .i64 (m : Nat)) h4 rfl
  have hLe : 4 * (m : Int) + 2 * ((g : Int) - (m : Int)) = (L : Int) := by omega
  by_cases hLn : L ≤ n
  · have HCU : Hid (∀ w', Calls Try.prog 48 #[.agg #[.slice X n n], .int .i64 0, .int .i64 (4 * (m : Int) + 2 * ((g : Int) - (m : Int)))] w' fun e w'' => e = .returned (.agg #[.slice (sub X 0 L) L L]) ∧ Below w'.heap.size w' w'') := fun w' => by
      have h := cut_ok X n n 0 (L : Nat) w' (Nat.le_refl _) hnm (by omega) (by omega) (by omega)
      rw [hLe]; simpa using h
    have HV := Bas.hid (fun w' (hb : Below W.heap.size W w') => (hv.below hb).sub 0 L (by omega))
    have hbl : ((d.drop 0).take L).length = L := by rw [List.drop_zero, List.length_take]; omega
    have HBL := Bas.hid hbl
    have hd0 : (d.drop 0).take L = d.take L := by rw [List.drop_zero]
    have HD0 := Bas.hid hd0
    have hL1 : 1 ≤ L := by omega
    have hLm : L ≤ maxLen := by omega
    have HLE := Bas.hid hLe
    clear hv h4 hLe hbl hd0
    go_enter Try.func56, Try.ntmps56
    go_wp2_with (fail)
    refine (HCU.out _).mono ?_
    rintro e w1 ⟨rfl, hb1⟩
    have HB1 := Bas.hid hb1
    have hvx := HV.out _ hb1
    generalize sub X 0 L = X0 at *
    have HBY := Bas.hid (bytes_any X0 L L _ w1 (Nat.le_refl _) hLm hvx HBL.out (fun h => by
      obtain ⟨b, o, hb, _⟩ := hvx.cell 0 (by rw [HBL.out]; omega)
      rw [h] at hb; cases hb))
    clear hb1 HCU hvx
    go_wp2_with (fail)
    refine HBY.out.mono ?_
    rintro e w2 ⟨v, rfl, hown, -, hb2⟩
    have hLB := HBL.out
    have hwr := written hown (by omega) (fun x hx => by rw [HD0.out] at hx; exact (HV.out _ (Below.refl _ _)).byte x (HD0.out.symm ▸ hx)) (by rw [hLB]; omega)
    obtain ⟨gb, cb, rfl, hcb, hcm, hvb⟩ := hwr
    have hgB : W.heap.size ≤ gb := Nat.le_trans HB1.out.size (Row.own_block hown rfl).1
    have HB2 := Bas.hid (HB1.out.trans (hb2.mono HB1.out.size))
    have HVB := Bas.hid hvb
    rw [hLB] at hcb
    rw [hLB]
    clear hown hb2 hvb HBY HB1
    go_wp2_with (fail)
    refine (of_any (some ⟨gb, 0, none⟩) L cb w2).mono ?_
    rintro e w3 ⟨rfl, hb3⟩
    have HB3 := Bas.hid (HB2.out.trans (hb3.mono HB2.out.size))
    have HVB3 := Bas.hid (HVB.out.below hb3)
    have k6 := (HB3.out.block T6 l6).trans h6
    have c6' := cell_of_heap (i := 0) (v := .slice X n n) k6 rfl
    have f6' := free_of_heap (i := 0) k6
    have HP : Hid (TryPost bt (WR W T6 (decide (L ≤ n)) (d.take L)) (.returned (.tuple #[])) (w3.setCell ⟨T6, 0, none⟩ (.slice (some ⟨gb, 0, none⟩) L cb))) := by
      refine ⟨(Below.heap_setCell _ _ _ _ hne).trans ((HB3.out.block bt lt).trans hk), .inl ⟨rfl, Bas.gset (Bas.gbelow (Bas.grefl _ _) HB3.out) 0 _, by simp [hLn], fun _ => ⟨gb, cb, hgB, ?_, ?_, hcm, ?_⟩⟩⟩
      · rw [← HD0.out, hLB]; exact heap_set (i := 0) k6 _
      · rw [← HD0.out, hLB]; exact hcb
      · rw [← HD0.out]
        exact vb_grown HVB3.out ⟨rfl, rfl, rfl, by simp [World.setCell], fun k _ hk => Below.heap_setCell _ _ _ _ (fun e => hk (by rw [e]))⟩ (show gb ≠ T6 by omega)
    clear hb3 HB2 HVB HVB3 HB3 c6 f6 k6 h6
    go_wp2_with (fail)
    exact bodyPost_ret (v := .tuple #[]) (by simp [results, Try.results56, go_sem]) rfl HP.out
  · have HCU : Hid (∀ w', Calls Try.prog 48 #[.agg #[.slice X n n], .int .i64 0, .int .i64 (4 * (m : Int) + 2 * ((g : Int) - (m : Int)))] w' fun e w'' => e = .panicked short ∧ Below w'.heap.size w' w'') := fun w' => by
      rw [hLe]
      exact cut_no X n n 0 (L : Nat) w' (Nat.le_refl _) hnm (by omega)
    have HG : Hid (∀ w', W.grownBy w' (some T6) → w'.heap[bt]? = some (.cells #[.bool false] 4 (0, 0)) → TryPost bt (WR W T6 (decide (L ≤ n)) (d.take L)) (.panicked short) w') := fun w' hg hb => ⟨hb, .inr ⟨rfl, hg, by simp [hLn], fun h => absurd (of_decide_eq_true h) hLn⟩⟩
    generalize hQ : TryPost bt (WR W T6 (decide (L ≤ n)) (d.take L)) = Q at HG ⊢
    have HLn := Bas.hid hLn
    clear hv h4 hLe hLn hQ
    go_enter Try.func56, Try.ntmps56
    go_wp2_with (fail)
    refine (HCU.out _).mono ?_
    rintro e w1 ⟨rfl, hb1⟩
    have HP : Hid (Q (.panicked short) w1) := HG.out _ (Bas.gbelow (Bas.grefl _ _) hb1) ((hb1.block bt lt).trans hk)
    clear hb1 HCU HG
    go_wp2_with (fail)
    exact ⟨rfl, HP.out⟩
end Fo
end Go.Proofs.Ytfocjagkhoonmaa
