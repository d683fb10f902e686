/- The function that the law ViewDeep hands to Try. -/
import Derived.Test.YtakpppgikgimnaaOwn
namespace Go.Proofs.Ytakpppgikgimnaa
open Go.RowKit
namespace Vw

/-- What is left in the variable for the answer. -/
def OutR (W : World) (bo : Nat) (fits : Bool) (cs : List Int) (ok : Bool) (w2 : World) : Prop :=
  W.grownBy w2 (some bo) ∧ ok = fits ∧ ∃ v, w2.cell? ⟨bo, 0, none⟩ = some v ∧ w2.frozen? ⟨bo, 0, none⟩ = false ∧ (fits = false → v = .slice none 0 0) ∧
    (fits = true → ∃ g cp, v = .slice (some ⟨g, 0, none⟩) cs.length cp ∧ W.heap.size ≤ g ∧ g < w2.heap.size ∧ cs.length ≤ cp ∧ cp ≤ maxLen ∧ VB w2 (some ⟨g, 0, none⟩) cs ∧ OwnB w2 g cs.length)

set_option maxHeartbeats 2000000 in
theorem twice1_yes (a : Option Addr) (len cap : Nat) (bs : List Int) (p0 p1 p2 p3 : Nat) (bb ba bo bk : Nat) (W : World) (hl : len ≤ cap) (hc : cap ≤ maxLen) (hv : VB W a bs) (hbl : bs.length = len)
    (h1 : W.cell? ⟨bb, 0, none⟩ = some (.slice a len cap)) (a0 : W.cell? ⟨ba, 0, none⟩ = some (.int .i64 p0)) (a1 : W.cell? ⟨ba, 1, none⟩ = some (.int .i64 p1)) (a2 : W.cell? ⟨ba, 2, none⟩ = some (.int .i64 p2)) (a3 : W.cell? ⟨ba, 3, none⟩ = some (.int .i64 p3))
    (h2 : W.cell? ⟨bo, 0, none⟩ = some (.slice none 0 0)) (h3 : W.frozen? ⟨bo, 0, none⟩ = false) (_hne1 : bb ≠ bo) (_hne2 : ba ≠ bo) (hne3 : bk ≠ bo)
    (hk : W.heap[bk]? = some (.cells #[.bool false] 4)) (f1 : p0 + p1 ≤ len) (f2 : p2 + p3 ≤ p1) :
    Calls Try.prog 58 #[.pointer (some ⟨bb, 0, none⟩), .pointer (some ⟨ba, 0, none⟩), .pointer (some ⟨bo, 0, none⟩)] W (TryPost bk (OutR W bo true ((((bs.drop p0).take p1).drop p2).take p3))) := by
  have l1 := World.block_lt_of_cell? _ _ h1
  have l2 := World.block_lt_of_cell? _ _ a0
  have l3 := World.block_lt_of_cell? _ _ h2
  obtain ⟨I, F, hI, HF⟩ := Bas.fam W.heap.size W
  have hB0 : W.heap.size ≤ W.heap.size := Nat.le_refl _
  have hv1 : ∀ i, VB (F i) (sub a p0 p1) ((bs.drop p0).take p1) := fun i => (hv.below (HF.2 i)).sub p0 p1 (by omega)
  have hln : ((bs.drop p0).take p1).length = p1 := by simp; omega
  have HV := Bas.hid hv1
  have HLN := Bas.hid hln
  clear hv1 hln
  have g1 := fun i => Bas.cell_fam HF l1 h1 i
  have ga0 := fun i => Bas.cell_fam HF l2 a0 i
  have ga1 := fun i => Bas.cell_fam HF l2 a1 i
  have ga2 := fun i => Bas.cell_fam HF l2 a2 i
  have ga3 := fun i => Bas.cell_fam HF l2 a3 i
  have hst := HF.1 _ ((Below.refl _ _).drew)
  have HST := Bas.hid hst
  clear hst
  go_enter Try.func58, Try.ntmps58
  go_wp2_with (fail)
  refine Ord.region_tail 12 (by kernel_rfl) (by kernel_rfl) HST.out ?_
  simp only [List.take_succ_cons, List.take_zero, List.drop_succ_cons, List.drop_zero]
  repeat (go_big_quiet_step ((first | (go_at_call 32; exact Bas.call_fam HF hB0 (of_any _ _ _ _)) | (go_at_call 59; with_reducible exact Bas.call_fam HF hB0 (cut_nat a len cap p0 p1 _ hl hc f1)) | (go_at_call 59; with_reducible exact Bas.call_fam HF hB0 (cut_nat (sub a p0 p1) p1 p1 p2 p3 _ (Nat.le_refl _) (by omega) f2)))))
  refine wpQuiet_nil ?_
  intro i0
  have hbel := HF.2 i0
  have hvi := (HV.out i0).sub p2 p3 (by rw [HLN.out]; omega)
  have hl3 : ((((bs.drop p0).take p1).drop p2).take p3).length = p3 := by simp; omega
  have ho := (Bas.bcell hbel).1 _ 0 l3
  rw [h2] at ho
  have hof : (F i0).frozen? ⟨bo, 0, none⟩ = false := ((Bas.bcell hbel).2 _ 0 l3).trans h3
  generalize F i0 = W1 at *
  have hbs := hbel.size
  clear g1 ga0 ga1 ga2 ga3 h1 a0 a1 a2 a3 h2 h3
  go_wp2_with (fail)
  refine (bytes_any _ _ _ _ _ (Nat.le_refl _) (by omega) hvi hl3 (fun e => ?_)).mono ?_
  · have := sub_none (sub_none e)
    subst this
    have := hv.nil
    subst this
    have : len = 0 := by simpa using hbl.symm
    omega
  rintro e w2 ⟨v2, rfl, hown, hne, hb2⟩
  have hs2 := hb2.size
  obtain ⟨g, cg, rfl, hgb, hgl, hgc, hgm, hvg, hOg⟩ := owned hown hne rfl hvi.byte hvi.len
  have hbo : w2.cell? ⟨bo, 0, none⟩ = some (.slice none 0 0) := ((Bas.bcell hb2).1 _ 0 (by omega)).trans ho
  have hbf : w2.frozen? ⟨bo, 0, none⟩ = false := ((Bas.bcell hb2).2 _ 0 (by omega)).trans hof
  have hgr : W.grownBy w2 (some bo) := Bas.gbelow (Bas.gbelow (Bas.grefl _ _) hbel) hb2
  have HOWN := Bas.hid hown
  clear hown hne hb2 hbel ho hof
  go_wp2_with (fail)
  go_end0
  have hh : ∀ k u, k ≠ bo → (w2.setCell ⟨bo, 0, none⟩ u).heap[k]? = w2.heap[k]? := fun k u hk => Below.heap_setCell _ _ _ _ hk
  have lbk : bk < W.heap.size := (Array.getElem?_eq_some_iff.1 hk).1
  refine ⟨by rw [hh bk _ hne3, hgr.block bk lbk (by simp; omega)]; exact hk, .inl ⟨rfl, Bas.gset hgr _ _, rfl, _, by simp [go_sem, hbo]; rfl, by simp [go_sem, hbf], by simp, fun _ => ⟨g, cg, by rw [hl3], by omega, by simp; omega, hgc, hgm, hvg.block (hh g _ (by omega)), hOg.block (hh g _ (by omega))⟩⟩⟩

set_option maxHeartbeats 2000000 in
theorem twice1_no (a : Option Addr) (len cap : Nat) (cs : List Int) (p0 p1 p2 p3 : Nat) (bb ba bo bk : Nat) (W : World) (hl : len ≤ cap) (hc : cap ≤ maxLen)
    (h1 : W.cell? ⟨bb, 0, none⟩ = some (.slice a len cap)) (a0 : W.cell? ⟨ba, 0, none⟩ = some (.int .i64 p0)) (a1 : W.cell? ⟨ba, 1, none⟩ = some (.int .i64 p1)) (a2 : W.cell? ⟨ba, 2, none⟩ = some (.int .i64 p2)) (a3 : W.cell? ⟨ba, 3, none⟩ = some (.int .i64 p3))
    (h2 : W.cell? ⟨bo, 0, none⟩ = some (.slice none 0 0)) (h3 : W.frozen? ⟨bo, 0, none⟩ = false)
    (hk : W.heap[bk]? = some (.cells #[.bool false] 4)) (f : ¬ (p0 + p1 ≤ len ∧ p2 + p3 ≤ p1)) :
    Calls Try.prog 58 #[.pointer (some ⟨bb, 0, none⟩), .pointer (some ⟨ba, 0, none⟩), .pointer (some ⟨bo, 0, none⟩)] W (TryPost bk (OutR W bo false cs)) := by
  have l1 := World.block_lt_of_cell? _ _ h1
  have l2 := World.block_lt_of_cell? _ _ a0
  have l3 := World.block_lt_of_cell? _ _ h2
  have lbk : bk < W.heap.size := (Array.getElem?_eq_some_iff.1 hk).1
  obtain ⟨I, F, hI, HF⟩ := Bas.fam W.heap.size W
  have hB0 : W.heap.size ≤ W.heap.size := Nat.le_refl _
  have g1 := fun i => Bas.cell_fam HF l1 h1 i
  have ga0 := fun i => Bas.cell_fam HF l2 a0 i
  have ga1 := fun i => Bas.cell_fam HF l2 a1 i
  have ga2 := fun i => Bas.cell_fam HF l2 a2 i
  have ga3 := fun i => Bas.cell_fam HF l2 a3 i
  have hst := HF.1 _ ((Below.refl _ _).drew)
  have HST := Bas.hid hst
  have post : ∀ w', Below W.heap.size W w' → TryPost bk (OutR W bo false cs) (.panicked short) w' := fun w' hb =>
    ⟨(hb.block bk lbk).trans hk, .inr ⟨rfl, Bas.gbelow (Bas.grefl _ _) hb, rfl, _, (hb.cell (p := ⟨bo, 0, none⟩) l3).trans h2, (hb.frozen (p := ⟨bo, 0, none⟩) l3).trans h3, fun _ => rfl, fun h => by cases h⟩⟩
  have POST := Bas.hid post
  clear hst post
  go_enter Try.func58, Try.ntmps58
  go_wp2_with (fail)
  by_cases f1 : p0 + p1 ≤ len
  · refine Ord.region_halt (fun ch w' => ch = short ∧ Below W.heap.size W w') [true, true, true, true, true, true, true, true, true, true, true, false, false, false] 11 _ rfl (by kernel_rfl) (by kernel_rfl) HST.out ?_ ?_
    · rintro ch a' w' hd ⟨rfl, hz⟩
      exact ⟨hd, POST.out _ hz⟩
    · simp only [Ord.pick]
      repeat (go_big_quiet_step ((first | (go_at_call 32; exact Bas.call_fam HF hB0 (of_any _ _ _ _)) | (go_at_call 59; with_reducible exact Bas.call_fam HF hB0 (cut_nat a len cap p0 p1 _ hl hc f1)))))
      refine wpQuiet_nil ?_
      refine ⟨rfl, ?_⟩
      unfold Ord.haltsIn
      rintro w' ⟨i, rfl⟩
      go_simp
      simp only [Ord.haltUpon, true_and]
      refine (cut_no _ _ _ _ _ _ (Nat.le_refl _) (by omega) (by omega)).mono ?_
      rintro e w'' ⟨he, hb⟩
      exact ⟨short, he, rfl, (HF.2 i).trans (hb.mono (HF.2 i).size)⟩
  · refine Ord.region_halt (fun ch w' => ch = short ∧ Below W.heap.size W w') [true, true, true, true, true, true, false, true, true, true, true, false, false, false] 6 _ rfl (by kernel_rfl) (by kernel_rfl) HST.out ?_ ?_
    · rintro ch a' w' hd ⟨rfl, hz⟩
      exact ⟨hd, POST.out _ hz⟩
    · simp only [Ord.pick]
      repeat (go_big_quiet_step ((go_at_call 32; exact Bas.call_fam HF hB0 (of_any _ _ _ _))))
      refine wpQuiet_nil ?_
      refine ⟨rfl, ?_⟩
      unfold Ord.haltsIn
      rintro w' ⟨i, rfl⟩
      go_simp
      simp only [Ord.haltUpon, true_and]
      refine (cut_no _ _ _ _ _ _ hl hc (by omega)).mono ?_
      rintro e w'' ⟨he, hb⟩
      exact ⟨short, he, rfl, (HF.2 i).trans (hb.mono (HF.2 i).size)⟩
end Vw
end Go.Proofs.Ytakpppgikgimnaa
