/- The walk of the law SeekTakes. -/
import Derived.Test.YtgddghplhdmfdaaSpeak5
import Derived.Test.YtgddghplhdmfdaaArr
namespace Go.Proofs.Ytgddghplhdmfdaa
open Go.RowKit
namespace Sk
open Vw

/-- A row of strings of the call's own. -/
def StrRow (w : World) (base : Nat) (v : Value) (rows : List (List Int)) : Prop := w.ownsRow base 9 1 v rows.length (rows.map fun r => Value.string (strOfNums r))
theorem strRow_nil (w : World) (base : Nat) : StrRow w base (Value.slice none 0 0) [] := Row.owned_nil _ _ _ _

/-- What is left when the law's function has ended, or thrown. -/
def TakesR (W : World) (bo : Nat) (good : Bool) (rows : List (List Int)) (ok : Bool) (w2 : World) : Prop :=
  W.grownBy w2 (some bo) ∧ ok = good ∧ w2.frozen? ⟨bo, 0, none⟩ = false ∧ ∃ v, w2.cell? ⟨bo, 0, none⟩ = some v ∧ (good = true → StrRow w2 W.heap.size v rows)

theorem infoS : (Try.prog.info? 9).map (fun i => (i.zero, i.size, i.bytes)) = some (some (.string ⟨#[]⟩), 1, 16) := by kernel_rfl

set_option maxRecDepth 20000 in
set_option maxHeartbeats 4000000 in
theorem takes1_yes (a : Option Addr) (len cap : Nat) (bs : List Int) (p s n keys : Nat) (need : Int) (bb ba bd bk bo bt : Nat) (W : World) (hl : len ≤ cap) (hc : cap ≤ maxLen) (hv : VB W a bs) (hbl : bs.length = len)
    (h1 : W.cell? ⟨bb, 0, none⟩ = some (.slice a len cap)) (h2 : W.cell? ⟨ba, 0, none⟩ = some (.int .i64 p)) (h3 : W.cell? ⟨bd, 0, none⟩ = some (.int .i64 need)) (h4 : W.cell? ⟨bk, 0, none⟩ = some (.int .i64 keys))
    (h5 : W.cell? ⟨bo, 0, none⟩ = some (.slice none 0 0)) (h6 : W.frozen? ⟨bo, 0, none⟩ = false) (hab : ∀ x, a = some x → 0 < bs.length → x.block ≠ bo) (hne : bt ≠ bo) (hk : W.heap[bt]? = some (.cells #[.bool false] 4))
    (h10 : p + 10 ≤ len) (hs : be bs p 2 = s) (hn : be bs (p + 2) 2 = n) (hneed : need ≤ s) (hs2 : 2 ≤ s) (hkeys : 2 * keys ≤ s) (hrow : rowsB len ((p : Int) + 10) n s) (hsmall : len ≤ 140737488355) :
    Calls Try.prog 32 #[.pointer (some ⟨bb, 0, none⟩), .pointer (some ⟨ba, 0, none⟩), .pointer (some ⟨bd, 0, none⟩), .pointer (some ⟨bk, 0, none⟩), .pointer (some ⟨bo, 0, none⟩)] W
      (TryPost bt (TakesR W bo true (rowL bs p s (rowCount bs p s n keys)))) := by
  have l1 := World.block_lt_of_cell? _ _ h1
  have l2 := World.block_lt_of_cell? _ _ h2
  have l3 := World.block_lt_of_cell? _ _ h3
  have l4 := World.block_lt_of_cell? _ _ h4
  have l5 := World.block_lt_of_cell? _ _ h5
  have lt := (Array.getElem?_eq_some_iff.1 hk).1
  obtain ⟨I, F, hI, HF⟩ := Bas.fam W.heap.size W
  have hB0 : W.heap.size ≤ W.heap.size := Nat.le_refl _
  have g1 := fun i => Bas.cell_fam HF l1 h1 i
  have g2 := fun i => Bas.cell_fam HF l2 h2 i
  have g3 := fun i => Bas.cell_fam HF l3 h3 i
  have g4 := fun i => Bas.cell_fam HF l4 h4 i
  have HST := Bas.hid (HF.1 _ ((Below.refl _ _).drew))
  have hmn : rowCount bs p s n keys ≤ n := by unfold rowCount; split <;> omega
  have hns : p + 10 + n * s ≤ bs.length := by
    have := hrow.2.2.2.2
    rw [← Int.natCast_mul] at this
    omega
  have hnl : n ≤ len := by
    have : n * 2 ≤ n * s := Nat.mul_le_mul_left n hs2
    omega
  have T := fun w' (hb : Below W.heap.size W w') => take_yes a len cap bs p s n keys need w' hl hc (hv.below hb) hbl h10 hs hn hneed hkeys hrow
  generalize hm : rowCount bs p s n keys = m at hmn T
  have HT := Bas.hid T
  have HNS := Bas.hid hns
  clear T hs hn hneed hrow hkeys hm h10 hns
  go_enter Try.func32, Try.ntmps32
  go_wp2_with (fail)
  refine Pl.plan_two [(true, 0), (true, 2), (true, 3), (true, 4), (true, 7), (false, 1)] [(false, 5), (false, 6)] [5, 6] (by kernel_rfl) (by kernel_rfl) (by kernel_rfl) (by kernel_rfl) (by kernel_rfl) (fun _ _ _ _ e h => ⟨e ▸ h.1, h.2⟩) HST.out ?_
  simp only [Pl.sel, List.drop_succ_cons, List.drop_zero]
  repeat (go_big_quiet_step ((go_at_call 24; exact Bas.call_fam HF hB0 (of_any _ _ _ _))))
  refine wpQuiet_nil ?_
  intro i0
  have hb1 := HF.2 i0
  generalize F i0 = W1 at *
  clear g1 g2 g3 g4 HST
  go_wp2_with (fail)
  refine (HT.out _ hb1).mono ?_
  rintro e w2 ⟨v, rfl, hown, hb2⟩
  have HB2 : Below W.heap.size W w2 := Bas.on hb1 hb2
  clear HT
  have hcell : m = 0 ∨ ∃ gt, W.heap.size ≤ gt ∧ gt < w2.heap.size ∧ (∃ cp, v = .slice (some ⟨gt, 0, none⟩) m cp ∧ m ≤ cp ∧ cp ≤ maxLen) ∧ ∀ i, i < m → w2.cell? ⟨gt, i, none⟩ = some (rowV (sub a (p + 10) (n * s)) s i) := by
    rcases Row.owned_parts hown with ⟨_, h0, _⟩ | ⟨g, cp, rfl, hg, hgl, hgc, hgm, hcl, hfr⟩
    · exact .inl h0
    · refine .inr ⟨g, by have := hb1.size; omega, hgl, ⟨cp, rfl, hgc, hgm⟩, fun i hi => hcl i _ ?_⟩
      unfold rowsV; rw [List.getElem?_map, List.getElem?_range hi]; rfl
  have hlen : ∃ ad cp, v = .slice ad m cp := by
    rcases Row.owned_parts hown with ⟨rfl, rfl, _⟩ | ⟨g, cp, rfl, _⟩
    · exact ⟨_, _, rfl⟩
    · exact ⟨_, _, rfl⟩
  obtain ⟨ad, cp, rfl⟩ := hlen
  have c5 := (HB2.cell (p := ⟨bo, 0, none⟩) l5).trans h5
  have f5 := (HB2.frozen (p := ⟨bo, 0, none⟩) l5).trans h6
  have hv2 := hv.below HB2
  have HCELL := Bas.hid hcell
  have HBT := Bas.hid hk
  have hW2 := HB2.size
  clear hown hcell hb1 hb2 h1 h2 h3 h4 h5 h6 hk hv l1 l2 l3 l4
  go_wp2_with (fail)
  go_loopw [14] (fun c wr => ∃ (i : Nat) (v : Value), i ≤ m ∧ c = .int .i64 i ∧ w2.grownBy wr (some bo) ∧ wr.cell? ⟨bo, 0, none⟩ = some v ∧ wr.frozen? ⟨bo, 0, none⟩ = false ∧ StrRow wr w2.heap.size v (rowL bs p s i)) (fun c _ => m - (intOf c).toNat)
  case atStart => exact ⟨0, _, Nat.zero_le _, rfl, Bas.grefl _ _, c5, f5, strRow_nil _ _⟩
  case round =>
    obtain ⟨i, v, hi, rfl, hg, co, fo, hmat⟩ := hrel
    have hgs := hg.size
    by_cases him : i < m
    · rcases HCELL.out with h0 | ⟨gt, hg1, hg2, ⟨cp', he, hmc, hcm⟩, hcl⟩
      · omega
      cases he
      have cl := (Bas.gcell hg hg2 (by simp; omega)).trans (hcl i him)
      unfold rowV at cl
      obtain ⟨hvr, hrl⟩ := row_vb (vb_grown hv2 hg hab) HNS.out i (by omega)
      have hsub : sub (sub a (p + 10) (n * s)) (s * i) s = none → s = 0 := fun e => by
        rw [e] at hvr
        have := hvr.nil
        rw [this] at hrl
        simpa using hrl.symm
      generalize hrA : sub (sub a (p + 10) (n * s)) (s * i) s = A at cl hvr hsub
      have hsc : s ≤ maxLen := by unfold maxLen; have := hvr.len; omega
      have HB := Bas.hid (fun w' hb => bytes_any A s s _ w' (Nat.le_refl _) hsc (hvr.below hb) hrl (fun e => hsub e))
      have HVR := Bas.hid hvr
      have HSUC := Bas.hid (rowL_succ bs p s i)
      have hrlen := rowL_len bs p s i
      generalize rowL bs p s i = R0 at HSUC hmat hrlen
      generalize rowB bs p s i = r at hrl HSUC HB HVR
      have HXS := Bas.hid hmat
      have HG := Bas.hid hg
      clear hmat hg hsc hsub hvr hrA hcl
      go_wp2_with (fail)
      have hbW := (Below.refl wr.heap.size wr).alloc (Nat.le_refl _) (.cells #[.slice A s s] 54)
      have cW : (wr.alloc (.cells #[.slice A s s] 54)).cell? ⟨wr.heap.size, 0, none⟩ = some (.slice A s s) := by simp
      have coW := (hbW.cell (p := ⟨bo, 0, none⟩) (by show bo < _; omega)).trans co
      have foW := (hbW.frozen (p := ⟨bo, 0, none⟩) (by show bo < _; omega)).trans fo
      have hWs : (wr.alloc (.cells #[.slice A s s] 54)).heap.size = wr.heap.size + 1 := by simp
      generalize wr.alloc (.cells #[.slice A s s] 54) = W3 at *
      obtain ⟨I, F, hI, HF⟩ := Bas.fam W3.heap.size W3
      have k1 := fun i => Bas.cell_fam HF (by omega) coW i
      have k2 := fun i => Bas.cell_fam HF (by omega) cW i
      refine Pl.region_plan [(true, 0), (true, 1), (false, 2), (false, 3), (false, 4), (false, 5), (false, 6)] [5, 6] (by kernel_rfl) (by kernel_rfl) (fun _ _ _ _ e h => ⟨e ▸ h.1, h.2⟩) (HF.1 _ ((Below.refl _ _).drew)) ?_
      intro i0
      refine Pl.head_sel [(true, 0), (true, 1)] (by kernel_rfl) ?_ i0
      simp only [Pl.sel, List.drop_succ_cons, List.drop_zero]
      repeat (go_big_quiet_step (fail))
      refine wpQuiet_nil ?_
      intro j0
      have hb3 := HF.2 j0
      refine Pl.one_sel (by kernel_rfl) ?_
      intro Q' hQ' hP'
      simp only [Pl.sel, List.drop_succ_cons, List.drop_zero]
      go_wp2_with (fail)
      refine (HB.out _ (hbW.trans (hb3.mono hbW.size))).mono ?_
      rintro e w4 ⟨vb, rfl, hob, hnb, hb4⟩
      have HB4 : Below W3.heap.size W3 w4 := Bas.on hb3 hb4
      have hs4 := HB4.size
      obtain ⟨g, cg, rfl, hgb, hgl, hgc, hgm, hvg, -⟩ := owned hob hnb rfl HVR.out.byte HVR.out.len
      have HHB4 := Bas.hid HB4
      clear hob hnb hb4 HB k1 k2
      have cvs := conv_vb hvg s cg hrl
      go_wp2_with (fail)
      refine hQ' _ _ (fun _ _ => HF.1 _ HHB4.out) ?_
      clear hQ' hP' Q'
      refine Pl.one_sel (by kernel_rfl) ?_
      intro Q' hQ' hP'
      simp only [Pl.sel, List.drop_succ_cons, List.drop_zero]
      go_wp2_with (fail)
      refine hQ' _ _ (fun _ _ => HF.1 _ HHB4.out) ?_
      clear hQ' hP' Q' cvs
      refine Pl.one_sel (by kernel_rfl) ?_
      intro Q' hQ' hP'
      simp only [Pl.sel, List.drop_succ_cons, List.drop_zero]
      go_wp2_with (fail)
      refine hQ' _ _ (fun _ _ => HF.1 _ (HHB4.out.alloc hs4 _)) ?_
      clear hQ' hP' Q'
      refine Pl.tail_sel [(false, 5), (false, 6)] (by kernel_rfl) (by kernel_rfl) ?_
      simp only [Pl.sel, List.drop_succ_cons, List.drop_zero]
      have HBr4 : Below wr.heap.size wr w4 := hbW.trans (HHB4.out.mono hbW.size)
      have hxs4 := (Row.owned_below HXS.out HBr4).alloc (.cells #[.string (strOfNums r)] 9)
      have co4 := ((HHB4.out.alloc hs4 (.cells #[.string (strOfNums r)] 9)).cell (p := ⟨bo, 0, none⟩) (by show bo < _; omega)).trans coW
      have fo4 := ((HHB4.out.alloc hs4 (.cells #[.string (strOfNums r)] 9)).frozen (p := ⟨bo, 0, none⟩) (by show bo < _; omega)).trans foW
      rw [hrlen] at hxs4
      refine (Row.append_any rfl _ _ 85 9 rfl (.string ⟨#[]⟩) 1 16 Try.underlying85 infoS rfl (by decide) w2.heap.size _ i (R0.map fun r => Value.string (strOfNums r)) rfl hxs4 (.slice (some ⟨w4.heap.size, 0, none⟩) 1 1) 1 [.string (strOfNums r)] rfl (Row.leads_one _ _ _) rfl (by simp; rfl) (by unfold maxLen; omega) (by omega) (by simp; omega) ?_)
      intro v' w5 hown' hgrow _
      obtain ⟨ad', cp', hv'⟩ : ∃ ad cp, v' = .slice ad (i + 1) cp := by
        rcases Row.owned_parts hown' with ⟨_, h0, _⟩ | ⟨_, _, h, _⟩
        · omega
        · exact ⟨_, _, h⟩
      subst hv'
      have hnb : v.ownBlock ≠ some bo := fun e => by have := (Row.own_block HXS.out e).1; omega
      have hs5 := hgrow.size
      simp only [World.size_alloc] at hs5
      have co5 := (Bas.gcell hgrow (b := bo) (o := 0) (by simp; omega) hnb).trans co4
      have fo5 := (Bas.gfrozen hgrow (b := bo) (o := 0) (by simp; omega) hnb).trans fo4
      have keep : ∀ k, k < w4.heap.size → v.ownBlock ≠ some k → k ≠ bo → (w5.setCell ⟨bo, 0, none⟩ (.slice ad' (i + 1) cp')).heap[k]? = w4.heap[k]? := fun k hk hk2 hk3 =>
        (Below.heap_setCell _ _ _ _ hk3).trans ((hgrow.block k (by simp; omega) (fun e => hk2 e.symm)).trans (Below.heap_alloc _ _ _ hk))
      have hB4 := HBr4.size
      have hj3 := hb3.size
      have hgf : w2.grownBy (w5.setCell ⟨bo, 0, none⟩ (.slice ad' (i + 1) cp')) (some bo) :=
        ⟨hgrow.os.trans (HBr4.os.trans HG.out.os), hgrow.tape.trans (HBr4.tape.trans HG.out.tape), hgrow.output.trans (HBr4.output.trans HG.out.output), by simp [World.setCell]; omega, fun k hk hk2 =>
          (keep k (by omega) (fun e => by have := (Row.own_block HXS.out e).1; omega) (fun e => hk2 (by rw [e]))).trans ((HBr4.block k (by omega)).trans (HG.out.block k hk hk2))⟩
      have hmat' : StrRow (w5.setCell ⟨bo, 0, none⟩ (.slice ad' (i + 1) cp')) w2.heap.size (.slice ad' (i + 1) cp') (R0 ++ [r]) := by
        unfold StrRow
        rw [List.length_append, hrlen, List.map_append]
        exact Row.owned_keep hown' fun k hk => Below.heap_setCell _ _ _ _ (by
            have h1 := (Row.own_block hown' hk).1
            show k ≠ bo
            omega)
      have HGF := Bas.hid hgf
      have HMAT := Bas.hid hmat'
      clear hgf hmat' keep hgrow hown' co4 fo4 hxs4
      go_wp2_with (fail)
      go_roundw
      case rel => exact ⟨i + 1, _, by omega, by go_num, HGF.out, by simp [go_sem, co5]; rfl, by simp [go_sem, fo5], by rw [HSUC.out]; exact HMAT.out⟩
      case measure => simp [intOf]; omega
    · have him2 : i = m := by omega
      subst him2
      have HM := Bas.hid hmat
      have hbk : wr.heap[bt]? = some (.cells #[.bool false] 4) := (hg.block bt (by omega) (by simp; omega)).trans ((HB2.block bt lt).trans HBT.out)
      have HBK := Bas.hid hbk
      have HG := Bas.hid hg
      clear hmat hbk hg
      go_wp2_with (fail)
      go_end0
      refine ⟨HBK.out, .inl ⟨rfl, Bas.gtrans ?_ HG.out, rfl, fo, v, co, fun _ => Row.owned_base HM.out hW2⟩⟩
      exact ⟨HB2.os, HB2.tape, HB2.output, HB2.size, fun k hk _ => HB2.block k hk⟩

set_option maxRecDepth 20000 in
set_option maxHeartbeats 4000000 in
theorem takes1_no (a : Option Addr) (len cap : Nat) (bs : List Int) (at' need : Int) (keys : Nat) (bb ba bd bk bo bt : Nat) (W : World) (rows : List (List Int)) (hl : len ≤ cap) (hc : cap ≤ maxLen) (hv : VB W a bs) (hbl : bs.length = len)
    (h1 : W.cell? ⟨bb, 0, none⟩ = some (.slice a len cap)) (h2 : W.cell? ⟨ba, 0, none⟩ = some (.int .i64 at')) (h3 : W.cell? ⟨bd, 0, none⟩ = some (.int .i64 need)) (h4 : W.cell? ⟨bk, 0, none⟩ = some (.int .i64 keys))
    (h5 : W.cell? ⟨bo, 0, none⟩ = some (.slice none 0 0)) (h6 : W.frozen? ⟨bo, 0, none⟩ = false) (hk : W.heap[bt]? = some (.cells #[.bool false] 4)) (hno : ¬ takeB len bs at' need) :
    Calls Try.prog 32 #[.pointer (some ⟨bb, 0, none⟩), .pointer (some ⟨ba, 0, none⟩), .pointer (some ⟨bd, 0, none⟩), .pointer (some ⟨bk, 0, none⟩), .pointer (some ⟨bo, 0, none⟩)] W
      (TryPost bt (TakesR W bo false rows)) := by
  have l1 := World.block_lt_of_cell? _ _ h1
  have l2 := World.block_lt_of_cell? _ _ h2
  have l3 := World.block_lt_of_cell? _ _ h3
  have l4 := World.block_lt_of_cell? _ _ h4
  have l5 := World.block_lt_of_cell? _ _ h5
  have lt := (Array.getElem?_eq_some_iff.1 hk).1
  obtain ⟨I, F, hI, HF⟩ := Bas.fam W.heap.size W
  have hB0 : W.heap.size ≤ W.heap.size := Nat.le_refl _
  have g1 := fun i => Bas.cell_fam HF l1 h1 i
  have g2 := fun i => Bas.cell_fam HF l2 h2 i
  have g3 := fun i => Bas.cell_fam HF l3 h3 i
  have g4 := fun i => Bas.cell_fam HF l4 h4 i
  have HST := Bas.hid (HF.1 _ ((Below.refl _ _).drew))
  have HT := Bas.hid (fun w' (hb : Below W.heap.size W w') => take_no a len cap bs at' need keys w' hl hc (hv.below hb) hbl hno)
  have post : ∀ w', Below W.heap.size W w' → TryPost bt (TakesR W bo false rows) (.panicked short) w' := fun w' hb =>
    ⟨(hb.block bt lt).trans hk, .inr ⟨rfl, Bas.gbelow (Bas.grefl _ _) hb, rfl, (hb.frozen (p := ⟨bo, 0, none⟩) l5).trans h6, _, (hb.cell (p := ⟨bo, 0, none⟩) l5).trans h5, fun h => by cases h⟩⟩
  have POST := Bas.hid post
  clear post hno
  go_enter Try.func32, Try.ntmps32
  go_wp2_with (fail)
  refine Pl.plan_two [(true, 0), (true, 2), (true, 3), (true, 4), (true, 7), (false, 1)] [(false, 5), (false, 6)] [5, 6] (by kernel_rfl) (by kernel_rfl) (by kernel_rfl) (by kernel_rfl) (by kernel_rfl) (fun _ _ _ _ e h => ⟨e ▸ h.1, h.2⟩) HST.out ?_
  simp only [Pl.sel, List.drop_succ_cons, List.drop_zero]
  repeat (go_big_quiet_step ((go_at_call 24; exact Bas.call_fam HF hB0 (of_any _ _ _ _))))
  refine wpQuiet_nil ?_
  intro i0
  have hb1 := HF.2 i0
  generalize F i0 = W1 at *
  clear g1 g2 g3 g4 HST
  go_wp2_with (fail)
  refine (HT.out _ hb1).mono ?_
  rintro e w2 ⟨rfl, hb2⟩
  go_wp2_with (fail)
  exact ⟨rfl, POST.out _ (Bas.on hb1 hb2)⟩

end Sk
end Go.Proofs.Ytgddghplhdmfdaa
