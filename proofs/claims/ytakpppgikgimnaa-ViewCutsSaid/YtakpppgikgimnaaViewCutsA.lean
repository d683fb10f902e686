/- The function that the law ViewCuts hands to Try. -/
import Derived.Test.YtakpppgikgimnaaOwn
import Derived.Test.YtakpppgikgimnaaPlan
import Derived.Test.YtakpppgikgimnaaViewS
namespace Go.Proofs.Ytakpppgikgimnaa
open Go.RowKit
namespace Vw

/-- What is left in the two variables for the answer. -/
def CutR (W : World) (bo bn : Nat) (fits : Bool) (m : Nat) (cs : List Int) (ok : Bool) (w2 : World) : Prop :=
  (∃ w1, W.grownBy w1 (some bo) ∧ w1.grownBy w2 (some bn)) ∧ ok = fits ∧ w2.frozen? ⟨bo, 0, none⟩ = false ∧ w2.frozen? ⟨bn, 0, none⟩ = false ∧
    ∃ v n, w2.cell? ⟨bo, 0, none⟩ = some v ∧ w2.cell? ⟨bn, 0, none⟩ = some (.int .i64 n) ∧ (fits = false → v = .slice none 0 0 ∧ n = 0) ∧
    (fits = true → n = m ∧ ∃ g cp, v = .slice (some ⟨g, 0, none⟩) m cp ∧ W.heap.size ≤ g ∧ g < w2.heap.size ∧ m ≤ cp ∧ cp ≤ maxLen ∧ VB w2 (some ⟨g, 0, none⟩) cs)

theorem cutR_no {W w2 : World} {bo bn bt m : Nat} {cs : List Int} (h3 : W.cell? ⟨bo, 0, none⟩ = some (.slice none 0 0)) (h4 : W.frozen? ⟨bo, 0, none⟩ = false) (h5 : W.cell? ⟨bn, 0, none⟩ = some (.int .i64 0)) (h6 : W.frozen? ⟨bn, 0, none⟩ = false)
    (hk : W.heap[bt]? = some (.cells #[.bool false] 4)) (hb : Below W.heap.size W w2) : TryPost bt (CutR W bo bn false m cs) (.panicked short) w2 :=
  ⟨(hb.block bt (Array.getElem?_eq_some_iff.1 hk).1).trans hk, .inr ⟨rfl, ⟨w2, Bas.gbelow (Bas.grefl _ _) hb, Bas.grefl _ _⟩, rfl, (hb.frozen (p := ⟨bo, 0, none⟩) (World.block_lt_of_cell? _ _ h3)).trans h4, (hb.frozen (p := ⟨bn, 0, none⟩) (World.block_lt_of_cell? _ _ h5)).trans h6,
    _, _, (hb.cell (p := ⟨bo, 0, none⟩) (World.block_lt_of_cell? _ _ h3)).trans h3, (hb.cell (p := ⟨bn, 0, none⟩) (World.block_lt_of_cell? _ _ h5)).trans h5, fun _ => ⟨rfl, rfl⟩, fun h => by cases h⟩⟩

set_option maxRecDepth 20000 in
set_option maxHeartbeats 4000000 in
theorem cut1_no0 (a : Option Addr) (len cap : Nat) (o0 o1 o2 : Int) (bb bk b3 bo bn bt : Nat) (W : World) (hl : len ≤ cap) (hc : cap ≤ maxLen)
    (h1 : W.cell? ⟨bb, 0, none⟩ = some (.slice a len cap)) (h2 : W.cell? ⟨bk, 0, none⟩ = some (.int .i64 0)) (a0 : W.cell? ⟨b3, 0, none⟩ = some (.int .i64 o0)) (a1 : W.cell? ⟨b3, 1, none⟩ = some (.int .i64 o1)) (a2 : W.cell? ⟨b3, 2, none⟩ = some (.int .i64 o2))
    (h3 : W.cell? ⟨bo, 0, none⟩ = some (.slice none 0 0)) (h4 : W.frozen? ⟨bo, 0, none⟩ = false) (h5 : W.cell? ⟨bn, 0, none⟩ = some (.int .i64 0)) (h6 : W.frozen? ⟨bn, 0, none⟩ = false)
    (hk : W.heap[bt]? = some (.cells #[.bool false] 4)) (cs : List Int) (m : Nat) (f : ¬ (0 ≤ o0 ∧ 0 ≤ o1 ∧ o0 + o1 ≤ len)) :
    Calls Try.prog 61 #[.pointer (some ⟨bb, 0, none⟩), .pointer (some ⟨bk, 0, none⟩), .pointer (some ⟨b3, 0, none⟩), .pointer (some ⟨bo, 0, none⟩), .pointer (some ⟨bn, 0, none⟩)] W (TryPost bt (CutR W bo bn false m cs)) := by
  have l1 := World.block_lt_of_cell? _ _ h1
  have l2 := World.block_lt_of_cell? _ _ h2
  have l3 := World.block_lt_of_cell? _ _ a0
  have l4 := World.block_lt_of_cell? _ _ h3
  have l5 := World.block_lt_of_cell? _ _ h5
  have POST := Bas.hid (fun w2 => cutR_no (w2 := w2) (m := m) (cs := cs) h3 h4 h5 h6 hk)
  clear h3 h4 h5 h6 hk l4 l5
  go_enter Try.func61, Try.ntmps61
  go_wp2_with (fail)
  refine (of_any _ _ _ _).mono ?_
  rintro e w1 ⟨rfl, hb1⟩
  have hs1 := hb1.size
  have d1 := (hb1.cell (p := ⟨bk, 0, none⟩) l2).trans h2
  have e0 := (hb1.cell (p := ⟨b3, 0, none⟩) l3).trans a0
  have e1 := (hb1.cell (p := ⟨b3, 1, none⟩) l3).trans a1
  have e2 := (hb1.cell (p := ⟨b3, 2, none⟩) l3).trans a2
  have HB1 := Bas.hid hb1
  have m1 : bk < w1.heap.size := Nat.lt_of_lt_of_le l2 hs1
  have m2 : b3 < w1.heap.size := Nat.lt_of_lt_of_le l3 hs1
  clear hb1 h2 a0 a1 a2 h1
  go_wp2_with (fail)
  refine (cut_no a len cap o0 o1 _ hl hc f).mono ?_
  rintro e w2 ⟨rfl, hb2⟩
  have HB2 := Bas.on (HB1.out.alloc hs1 _) hb2
  clear hb2
  go_wp2_with (fail)
  exact ⟨rfl, POST.out _ HB2⟩

set_option maxRecDepth 20000 in
set_option maxHeartbeats 4000000 in
theorem cut1_yes0 (a : Option Addr) (len cap : Nat) (bs : List Int) (o0 o1 o2 : Int) (bb bk b3 bo bn bt : Nat) (W : World) (hl : len ≤ cap) (hc : cap ≤ maxLen) (hv : VB W a bs) (hbl : bs.length = len)
    (h1 : W.cell? ⟨bb, 0, none⟩ = some (.slice a len cap)) (h2 : W.cell? ⟨bk, 0, none⟩ = some (.int .i64 0)) (a0 : W.cell? ⟨b3, 0, none⟩ = some (.int .i64 o0)) (a1 : W.cell? ⟨b3, 1, none⟩ = some (.int .i64 o1)) (a2 : W.cell? ⟨b3, 2, none⟩ = some (.int .i64 o2))
    (h3 : W.cell? ⟨bo, 0, none⟩ = some (.slice none 0 0)) (h4 : W.frozen? ⟨bo, 0, none⟩ = false) (h5 : W.cell? ⟨bn, 0, none⟩ = some (.int .i64 0)) (h6 : W.frozen? ⟨bn, 0, none⟩ = false) (hne : bo ≠ bn) (n1 : bt ≠ bo) (n2 : bt ≠ bn)
    (hk : W.heap[bt]? = some (.cells #[.bool false] 4)) (f : 0 ≤ o0 ∧ 0 ≤ o1 ∧ o0 + o1 ≤ len) (q m : Nat) (cs : List Int) (hq : o0.toNat = q) (hm : o1.toNat = m) (hcs : (bs.drop q).take m = cs) :
    Calls Try.prog 61 #[.pointer (some ⟨bb, 0, none⟩), .pointer (some ⟨bk, 0, none⟩), .pointer (some ⟨b3, 0, none⟩), .pointer (some ⟨bo, 0, none⟩), .pointer (some ⟨bn, 0, none⟩)] W (TryPost bt (CutR W bo bn true m cs)) := by
  have hqm : q + m ≤ bs.length := by omega
  have C := fun w' => (cut_ok a len cap o0 o1 w' hl hc f.1 f.2.1 f.2.2)
  simp only [hq, hm] at C
  have HC := Bas.hid C
  clear C
  have hvl := hv.len
  have l1 := World.block_lt_of_cell? _ _ h1
  have l2 := World.block_lt_of_cell? _ _ h2
  have l3 := World.block_lt_of_cell? _ _ a0
  have l4 := World.block_lt_of_cell? _ _ h3
  have l5 := World.block_lt_of_cell? _ _ h5
  have lt := (Array.getElem?_eq_some_iff.1 hk).1
  have HCS := Bas.hid hcs
  have HV := Bas.hid hv
  have HT := Bas.hid hk
  clear hv hk hq hm hcs
  go_enter Try.func61, Try.ntmps61
  go_wp2_with (fail)
  refine (of_any _ _ _ _).mono ?_
  rintro e w1 ⟨rfl, hb1⟩
  have hs1 := hb1.size
  have d1 := (hb1.cell (p := ⟨bk, 0, none⟩) l2).trans h2
  have e0 := (hb1.cell (p := ⟨b3, 0, none⟩) l3).trans a0
  have e1 := (hb1.cell (p := ⟨b3, 1, none⟩) l3).trans a1
  have e2 := (hb1.cell (p := ⟨b3, 2, none⟩) l3).trans a2
  have HB1 := Bas.hid hb1
  have m1 : bk < w1.heap.size := Nat.lt_of_lt_of_le l2 hs1
  have m2 : b3 < w1.heap.size := Nat.lt_of_lt_of_le l3 hs1
  clear hb1 h2 a0 a1 a2 h1
  go_wp2_with (fail)
  refine (HC.out _).mono ?_
  rintro e w2 ⟨rfl, hb2⟩
  have HB2 := Bas.hid (Bas.on (HB1.out.alloc hs1 _) hb2)
  have hs2 := hb2.size
  simp only [World.size_alloc] at hs2
  have HAQ0 : sub a q m = sub a q m := rfl
  have HVS := Bas.hid ((HV.out.below HB2.out).sub q m hqm)
  rw [HCS.out] at HVS
  have hbl2 : cs.length = m := by rw [← HCS.out]; rw [List.length_take, List.length_drop]; omega
  have hsm : m ≤ maxLen := by unfold maxLen; omega
  have hn0 : sub a q m = none → m = 0 := fun e => by
    have h := HVS.out
    rw [e] at h
    have := h.nil
    rw [this] at hbl2
    simpa using hbl2.symm
  have HAQ1 := Bas.hid HAQ0
  clear HAQ0
  generalize hA : sub a q m = A at HVS hn0
  have HAQ := Bas.hid hA
  clear HAQ1
  have H3 := Bas.hid h3
  have H4 := Bas.hid h4
  have H5 := Bas.hid h5
  have H6 := Bas.hid h6
  have c3 := (HB2.out.cell (p := ⟨bo, 0, none⟩) l4).trans h3
  have c4 := (HB2.out.frozen (p := ⟨bo, 0, none⟩) l4).trans h4
  have c5 := (HB2.out.cell (p := ⟨bn, 0, none⟩) l5).trans h5
  have c6 := (HB2.out.frozen (p := ⟨bn, 0, none⟩) l5).trans h6
  have hb2' := Bas.bcell hb2
  obtain ⟨hc2, hf2⟩ := hb2'
  clear hb2 h3 h4 h5 h6 hA d1 e0 e1 e2
  go_wp2_with (fail)
  have HB3 : Below W.heap.size W (w2.setCell ⟨w1.heap.size, 0, none⟩ (.slice A m m)) := HB2.out.setCell (p := ⟨w1.heap.size, 0, none⟩) hs1 _
  have cv : (w2.setCell ⟨w1.heap.size, 0, none⟩ (.slice A m m)).cell? ⟨w1.heap.size, 0, none⟩ = some (.slice A m m) := by
    simp [go_sem, hc2]
  have hvs : VB (w2.setCell ⟨w1.heap.size, 0, none⟩ (.slice A m m)) A cs := ⟨HVS.out.len, HVS.out.byte, fun i hi => by
    have hpos : 0 < bs.length := by rw [hbl2] at hi; omega
    obtain ⟨b0, o0', ha0, hc0⟩ := HV.out.cell 0 hpos
    have lb := World.block_lt_of_cell? _ _ hc0
    obtain ⟨b, o, hAe, hc⟩ := HVS.out.cell i hi
    refine ⟨b, o, hAe, ?_⟩
    have hbb : b = b0 := by
      have hq := HAQ.out
      rw [hAe, ha0] at hq
      have hp : (sub (some ⟨b0, o0', none⟩) q m).map Addr.block = some b0 := by
        unfold sub
        split
        · rfl
        · simp only [Option.map_some, Addr.add]; split <;> rfl
      rw [hq] at hp
      simpa using hp
    have hlt : b < W.heap.size := by rw [hbb]; exact lb
    exact (((Below.refl w1.heap.size w2).setCell (p := ⟨w1.heap.size, 0, none⟩) (Nat.le_refl _) _).cell (p := ⟨b, o + i, none⟩) (by show b < _; omega)).trans hc⟩
  have z3 : (w2.setCell ⟨w1.heap.size, 0, none⟩ (.slice A m m)).heap.size = w2.heap.size := by simp [World.setCell]
  have z3a : w1.heap.size + 1 ≤ (w2.setCell ⟨w1.heap.size, 0, none⟩ (.slice A m m)).heap.size := by omega
  have c3' := (HB3.cell (p := ⟨bo, 0, none⟩) l4).trans H3.out
  have c4' := (HB3.frozen (p := ⟨bo, 0, none⟩) l4).trans H4.out
  have c5' := (HB3.cell (p := ⟨bn, 0, none⟩) l5).trans H5.out
  have c6' := (HB3.frozen (p := ⟨bn, 0, none⟩) l5).trans H6.out
  clear z3 hc2 hf2 c3 c4 c5 c6
  generalize w2.setCell ⟨w1.heap.size, 0, none⟩ (.slice A m m) = W3 at *
  have HB3' := Bas.hid HB3
  have HVS3 := Bas.hid hvs
  have hs3 := HB3.size
  clear hvs HB3
  obtain ⟨I, F, hI, HF⟩ := Bas.fam W3.heap.size W3
  have k1 := fun i => Bas.cell_fam HF (by omega) cv i
  refine Pl.region_plan [(true, 0), (true, 2), (false, 1), (false, 3), (false, 4), (false, 5)] [3, 4, 5] (by kernel_rfl) (by kernel_rfl) (fun _ _ _ _ e h => ⟨e ▸ h.1, h.2⟩) (HF.1 _ ((Below.refl _ _).drew)) ?_
  intro i0
  refine Pl.head_sel [(true, 0), (true, 2)] (by kernel_rfl) ?_ i0
  simp only [Pl.sel, List.drop_succ_cons, List.drop_zero]
  repeat (go_big_quiet_step (fail))
  refine wpQuiet_nil ?_
  intro j0
  have hb3 := HF.2 j0
  refine Pl.one_sel (by kernel_rfl) ?_
  intro Q' hQ' hP'
  simp only [Pl.sel, List.drop_succ_cons, List.drop_zero]
  go_wp2_with (fail)
  refine (bytes_any A m m cs _ (Nat.le_refl _) hsm (HVS3.out.below hb3) hbl2 (fun e => hn0 e)).mono ?_
  rintro e w4 ⟨vb, rfl, hob, hnb, hb4⟩
  have HB4 := Bas.hid (Bas.on hb3 hb4)
  have hs4 := HB4.out.size
  have hj3 := hb3.size
  obtain ⟨g, cg, rfl, hgb, hgl, hgc, hgm, hvg, -⟩ := owned hob hnb rfl HVS3.out.byte HVS3.out.len
  rw [hbl2] at hgc
  have HVG := Bas.hid hvg
  clear hob hnb hb4 k1 hvg
  go_wp2_with (fail)
  refine hQ' _ _ (fun _ _ => HF.1 _ HB4.out) ?_
  clear hQ' hP' Q'
  refine Pl.tail_sel [(false, 3), (false, 4), (false, 5)] (by kernel_rfl) (by kernel_rfl) ?_
  simp only [Pl.sel, List.drop_succ_cons, List.drop_zero]
  go_wp2_with (fail)
  refine (len_any _ _ _ _).mono ?_
  rintro e w5 ⟨rfl, hb5⟩
  have hb5s := hb5.size
  have HB5 := Bas.hid (HB3'.out.trans ((Bas.on HB4.out hb5).mono hs3))
  have HVG5 := Bas.hid (HVG.out.below hb5)
  have x3 := (HB5.out.cell (p := ⟨bo, 0, none⟩) l4).trans H3.out
  have x4 := (HB5.out.frozen (p := ⟨bo, 0, none⟩) l4).trans H4.out
  have x5 := (HB5.out.cell (p := ⟨bn, 0, none⟩) l5).trans H5.out
  have x6 := (HB5.out.frozen (p := ⟨bn, 0, none⟩) l5).trans H6.out
  clear hb5 hb3 cv c3' c4' c5' c6'
  go_wp2_with (fail)
  go_end0
  have hh : ∀ k u v, k ≠ bo → k ≠ bn → ((w5.setCell ⟨bo, 0, none⟩ u).setCell ⟨bn, 0, none⟩ v).heap[k]? = w5.heap[k]? := fun k u v h1 h2 => (Below.heap_setCell _ _ _ _ h2).trans (Below.heap_setCell _ _ _ _ h1)
  refine ⟨by rw [hh bt _ _ n1 n2, HB5.out.block bt lt]; exact HT.out, .inl ⟨rfl, ⟨_, Bas.gset (Bas.gbelow (Bas.grefl _ _) HB5.out) _ _, Bas.gset (Bas.grefl _ _) _ _⟩, rfl, by simp [go_sem, x4], by simp [go_sem, x6], _, _, by simp [go_sem, x3], by simp [go_sem, x5], fun h => by (cases h), fun _ => ⟨rfl, g, cg, rfl, by omega, by simp [World.setCell]; omega, hgc, hgm, HVG5.out.block (hh g _ _ (by omega) (by omega))⟩⟩⟩

set_option maxRecDepth 20000 in
set_option maxHeartbeats 4000000 in
theorem cut1_no1 (a : Option Addr) (len cap : Nat) (o0 o1 o2 : Int) (bb bk b3 bo bn bt : Nat) (W : World) (hl : len ≤ cap) (hc : cap ≤ maxLen)
    (h1 : W.cell? ⟨bb, 0, none⟩ = some (.slice a len cap)) (h2 : W.cell? ⟨bk, 0, none⟩ = some (.int .i64 1)) (a0 : W.cell? ⟨b3, 0, none⟩ = some (.int .i64 o0)) (a1 : W.cell? ⟨b3, 1, none⟩ = some (.int .i64 o1)) (a2 : W.cell? ⟨b3, 2, none⟩ = some (.int .i64 o2))
    (h3 : W.cell? ⟨bo, 0, none⟩ = some (.slice none 0 0)) (h4 : W.frozen? ⟨bo, 0, none⟩ = false) (h5 : W.cell? ⟨bn, 0, none⟩ = some (.int .i64 0)) (h6 : W.frozen? ⟨bn, 0, none⟩ = false)
    (hk : W.heap[bt]? = some (.cells #[.bool false] 4)) (cs : List Int) (m : Nat) (f : ¬ (0 ≤ o0 ∧ o0 ≤ len)) :
    Calls Try.prog 61 #[.pointer (some ⟨bb, 0, none⟩), .pointer (some ⟨bk, 0, none⟩), .pointer (some ⟨b3, 0, none⟩), .pointer (some ⟨bo, 0, none⟩), .pointer (some ⟨bn, 0, none⟩)] W (TryPost bt (CutR W bo bn false m cs)) := by
  have l1 := World.block_lt_of_cell? _ _ h1
  have l2 := World.block_lt_of_cell? _ _ h2
  have l3 := World.block_lt_of_cell? _ _ a0
  have l4 := World.block_lt_of_cell? _ _ h3
  have l5 := World.block_lt_of_cell? _ _ h5
  have POST := Bas.hid (fun w2 => cutR_no (w2 := w2) (m := m) (cs := cs) h3 h4 h5 h6 hk)
  clear h3 h4 h5 h6 hk l4 l5
  go_enter Try.func61, Try.ntmps61
  go_wp2_with (fail)
  refine (of_any _ _ _ _).mono ?_
  rintro e w1 ⟨rfl, hb1⟩
  have hs1 := hb1.size
  have d1 := (hb1.cell (p := ⟨bk, 0, none⟩) l2).trans h2
  have e0 := (hb1.cell (p := ⟨b3, 0, none⟩) l3).trans a0
  have e1 := (hb1.cell (p := ⟨b3, 1, none⟩) l3).trans a1
  have e2 := (hb1.cell (p := ⟨b3, 2, none⟩) l3).trans a2
  have HB1 := Bas.hid hb1
  have m1 : bk < w1.heap.size := Nat.lt_of_lt_of_le l2 hs1
  have m2 : b3 < w1.heap.size := Nat.lt_of_lt_of_le l3 hs1
  clear hb1 h2 a0 a1 a2 h1
  go_wp2_with (fail)
  refine (rest_no a len cap o0 _ hl hc f).mono ?_
  rintro e w2 ⟨rfl, hb2⟩
  have HB2 := Bas.on (HB1.out.alloc hs1 _) hb2
  clear hb2
  go_wp2_with (fail)
  exact ⟨rfl, POST.out _ HB2⟩

set_option maxRecDepth 20000 in
set_option maxHeartbeats 4000000 in
theorem cut1_yes1 (a : Option Addr) (len cap : Nat) (bs : List Int) (o0 o1 o2 : Int) (bb bk b3 bo bn bt : Nat) (W : World) (hl : len ≤ cap) (hc : cap ≤ maxLen) (hv : VB W a bs) (hbl : bs.length = len)
    (h1 : W.cell? ⟨bb, 0, none⟩ = some (.slice a len cap)) (h2 : W.cell? ⟨bk, 0, none⟩ = some (.int .i64 1)) (a0 : W.cell? ⟨b3, 0, none⟩ = some (.int .i64 o0)) (a1 : W.cell? ⟨b3, 1, none⟩ = some (.int .i64 o1)) (a2 : W.cell? ⟨b3, 2, none⟩ = some (.int .i64 o2))
    (h3 : W.cell? ⟨bo, 0, none⟩ = some (.slice none 0 0)) (h4 : W.frozen? ⟨bo, 0, none⟩ = false) (h5 : W.cell? ⟨bn, 0, none⟩ = some (.int .i64 0)) (h6 : W.frozen? ⟨bn, 0, none⟩ = false) (hne : bo ≠ bn) (n1 : bt ≠ bo) (n2 : bt ≠ bn)
    (hk : W.heap[bt]? = some (.cells #[.bool false] 4)) (f : 0 ≤ o0 ∧ o0 ≤ len) (q m : Nat) (cs : List Int) (hq : o0.toNat = q) (hm : len - q = m) (hcs : (bs.drop q).take m = cs) :
    Calls Try.prog 61 #[.pointer (some ⟨bb, 0, none⟩), .pointer (some ⟨bk, 0, none⟩), .pointer (some ⟨b3, 0, none⟩), .pointer (some ⟨bo, 0, none⟩), .pointer (some ⟨bn, 0, none⟩)] W (TryPost bt (CutR W bo bn true m cs)) := by
  have hqm : q + m ≤ bs.length := by omega
  have C := fun w' => (rest_ok a len cap o0 w' hl hc f.1 f.2)
  simp only [hq, hm] at C
  have HC := Bas.hid C
  clear C
  have hvl := hv.len
  have l1 := World.block_lt_of_cell? _ _ h1
  have l2 := World.block_lt_of_cell? _ _ h2
  have l3 := World.block_lt_of_cell? _ _ a0
  have l4 := World.block_lt_of_cell? _ _ h3
  have l5 := World.block_lt_of_cell? _ _ h5
  have lt := (Array.getElem?_eq_some_iff.1 hk).1
  have HCS := Bas.hid hcs
  have HV := Bas.hid hv
  have HT := Bas.hid hk
  clear hv hk hq hm hcs
  go_enter Try.func61, Try.ntmps61
  go_wp2_with (fail)
  refine (of_any _ _ _ _).mono ?_
  rintro e w1 ⟨rfl, hb1⟩
  have hs1 := hb1.size
  have d1 := (hb1.cell (p := ⟨bk, 0, none⟩) l2).trans h2
  have e0 := (hb1.cell (p := ⟨b3, 0, none⟩) l3).trans a0
  have e1 := (hb1.cell (p := ⟨b3, 1, none⟩) l3).trans a1
  have e2 := (hb1.cell (p := ⟨b3, 2, none⟩) l3).trans a2
  have HB1 := Bas.hid hb1
  have m1 : bk < w1.heap.size := Nat.lt_of_lt_of_le l2 hs1
  have m2 : b3 < w1.heap.size := Nat.lt_of_lt_of_le l3 hs1
  clear hb1 h2 a0 a1 a2 h1
  go_wp2_with (fail)
  refine (HC.out _).mono ?_
  rintro e w2 ⟨rfl, hb2⟩
  have HB2 := Bas.hid (Bas.on (HB1.out.alloc hs1 _) hb2)
  have hs2 := hb2.size
  simp only [World.size_alloc] at hs2
  have HAQ0 : sub a q m = sub a q m := rfl
  have HVS := Bas.hid ((HV.out.below HB2.out).sub q m hqm)
  rw [HCS.out] at HVS
  have hbl2 : cs.length = m := by rw [← HCS.out]; rw [List.length_take, List.length_drop]; omega
  have hsm : m ≤ maxLen := by unfold maxLen; omega
  have hn0 : sub a q m = none → m = 0 := fun e => by
    have h := HVS.out
    rw [e] at h
    have := h.nil
    rw [this] at hbl2
    simpa using hbl2.symm
  have HAQ1 := Bas.hid HAQ0
  clear HAQ0
  generalize hA : sub a q m = A at HVS hn0
  have HAQ := Bas.hid hA
  clear HAQ1
  have H3 := Bas.hid h3
  have H4 := Bas.hid h4
  have H5 := Bas.hid h5
  have H6 := Bas.hid h6
  have c3 := (HB2.out.cell (p := ⟨bo, 0, none⟩) l4).trans h3
  have c4 := (HB2.out.frozen (p := ⟨bo, 0, none⟩) l4).trans h4
  have c5 := (HB2.out.cell (p := ⟨bn, 0, none⟩) l5).trans h5
  have c6 := (HB2.out.frozen (p := ⟨bn, 0, none⟩) l5).trans h6
  have hb2' := Bas.bcell hb2
  obtain ⟨hc2, hf2⟩ := hb2'
  clear hb2 h3 h4 h5 h6 hA d1 e0 e1 e2
  go_wp2_with (fail)
  have HB3 : Below W.heap.size W (w2.setCell ⟨w1.heap.size, 0, none⟩ (.slice A m m)) := HB2.out.setCell (p := ⟨w1.heap.size, 0, none⟩) hs1 _
  have cv : (w2.setCell ⟨w1.heap.size, 0, none⟩ (.slice A m m)).cell? ⟨w1.heap.size, 0, none⟩ = some (.slice A m m) := by
    simp [go_sem, hc2]
  have hvs : VB (w2.setCell ⟨w1.heap.size, 0, none⟩ (.slice A m m)) A cs := ⟨HVS.out.len, HVS.out.byte, fun i hi => by
    have hpos : 0 < bs.length := by rw [hbl2] at hi; omega
    obtain ⟨b0, o0', ha0, hc0⟩ := HV.out.cell 0 hpos
    have lb := World.block_lt_of_cell? _ _ hc0
    obtain ⟨b, o, hAe, hc⟩ := HVS.out.cell i hi
    refine ⟨b, o, hAe, ?_⟩
    have hbb : b = b0 := by
      have hq := HAQ.out
      rw [hAe, ha0] at hq
      have hp : (sub (some ⟨b0, o0', none⟩) q m).map Addr.block = some b0 := by
        unfold sub
        split
        · rfl
        · simp only [Option.map_some, Addr.add]; split <;> rfl
      rw [hq] at hp
      simpa using hp
    have hlt : b < W.heap.size := by rw [hbb]; exact lb
    exact (((Below.refl w1.heap.size w2).setCell (p := ⟨w1.heap.size, 0, none⟩) (Nat.le_refl _) _).cell (p := ⟨b, o + i, none⟩) (by show b < _; omega)).trans hc⟩
  have z3 : (w2.setCell ⟨w1.heap.size, 0, none⟩ (.slice A m m)).heap.size = w2.heap.size := by simp [World.setCell]
  have z3a : w1.heap.size + 1 ≤ (w2.setCell ⟨w1.heap.size, 0, none⟩ (.slice A m m)).heap.size := by omega
  have c3' := (HB3.cell (p := ⟨bo, 0, none⟩) l4).trans H3.out
  have c4' := (HB3.frozen (p := ⟨bo, 0, none⟩) l4).trans H4.out
  have c5' := (HB3.cell (p := ⟨bn, 0, none⟩) l5).trans H5.out
  have c6' := (HB3.frozen (p := ⟨bn, 0, none⟩) l5).trans H6.out
  clear z3 hc2 hf2 c3 c4 c5 c6
  generalize w2.setCell ⟨w1.heap.size, 0, none⟩ (.slice A m m) = W3 at *
  have HB3' := Bas.hid HB3
  have HVS3 := Bas.hid hvs
  have hs3 := HB3.size
  clear hvs HB3
  obtain ⟨I, F, hI, HF⟩ := Bas.fam W3.heap.size W3
  have k1 := fun i => Bas.cell_fam HF (by omega) cv i
  refine Pl.region_plan [(true, 0), (true, 2), (false, 1), (false, 3), (false, 4), (false, 5)] [3, 4, 5] (by kernel_rfl) (by kernel_rfl) (fun _ _ _ _ e h => ⟨e ▸ h.1, h.2⟩) (HF.1 _ ((Below.refl _ _).drew)) ?_
  intro i0
  refine Pl.head_sel [(true, 0), (true, 2)] (by kernel_rfl) ?_ i0
  simp only [Pl.sel, List.drop_succ_cons, List.drop_zero]
  repeat (go_big_quiet_step (fail))
  refine wpQuiet_nil ?_
  intro j0
  have hb3 := HF.2 j0
  refine Pl.one_sel (by kernel_rfl) ?_
  intro Q' hQ' hP'
  simp only [Pl.sel, List.drop_succ_cons, List.drop_zero]
  go_wp2_with (fail)
  refine (bytes_any A m m cs _ (Nat.le_refl _) hsm (HVS3.out.below hb3) hbl2 (fun e => hn0 e)).mono ?_
  rintro e w4 ⟨vb, rfl, hob, hnb, hb4⟩
  have HB4 := Bas.hid (Bas.on hb3 hb4)
  have hs4 := HB4.out.size
  have hj3 := hb3.size
  obtain ⟨g, cg, rfl, hgb, hgl, hgc, hgm, hvg, -⟩ := owned hob hnb rfl HVS3.out.byte HVS3.out.len
  rw [hbl2] at hgc
  have HVG := Bas.hid hvg
  clear hob hnb hb4 k1 hvg
  go_wp2_with (fail)
  refine hQ' _ _ (fun _ _ => HF.1 _ HB4.out) ?_
  clear hQ' hP' Q'
  refine Pl.tail_sel [(false, 3), (false, 4), (false, 5)] (by kernel_rfl) (by kernel_rfl) ?_
  simp only [Pl.sel, List.drop_succ_cons, List.drop_zero]
  go_wp2_with (fail)
  refine (len_any _ _ _ _).mono ?_
  rintro e w5 ⟨rfl, hb5⟩
  have hb5s := hb5.size
  have HB5 := Bas.hid (HB3'.out.trans ((Bas.on HB4.out hb5).mono hs3))
  have HVG5 := Bas.hid (HVG.out.below hb5)
  have x3 := (HB5.out.cell (p := ⟨bo, 0, none⟩) l4).trans H3.out
  have x4 := (HB5.out.frozen (p := ⟨bo, 0, none⟩) l4).trans H4.out
  have x5 := (HB5.out.cell (p := ⟨bn, 0, none⟩) l5).trans H5.out
  have x6 := (HB5.out.frozen (p := ⟨bn, 0, none⟩) l5).trans H6.out
  clear hb5 hb3 cv c3' c4' c5' c6'
  go_wp2_with (fail)
  go_end0
  have hh : ∀ k u v, k ≠ bo → k ≠ bn → ((w5.setCell ⟨bo, 0, none⟩ u).setCell ⟨bn, 0, none⟩ v).heap[k]? = w5.heap[k]? := fun k u v h1 h2 => (Below.heap_setCell _ _ _ _ h2).trans (Below.heap_setCell _ _ _ _ h1)
  refine ⟨by rw [hh bt _ _ n1 n2, HB5.out.block bt lt]; exact HT.out, .inl ⟨rfl, ⟨_, Bas.gset (Bas.gbelow (Bas.grefl _ _) HB5.out) _ _, Bas.gset (Bas.grefl _ _) _ _⟩, rfl, by simp [go_sem, x4], by simp [go_sem, x6], _, _, by simp [go_sem, x3], by simp [go_sem, x5], fun h => by (cases h), fun _ => ⟨rfl, g, cg, rfl, by omega, by simp [World.setCell]; omega, hgc, hgm, HVG5.out.block (hh g _ _ (by omega) (by omega))⟩⟩⟩

set_option maxRecDepth 20000 in
set_option maxHeartbeats 4000000 in
theorem cut1_no2 (a : Option Addr) (len cap : Nat) (o0 o1 o2 : Int) (bb bk b3 bo bn bt : Nat) (W : World) (hl : len ≤ cap) (hc : cap ≤ maxLen)
    (h1 : W.cell? ⟨bb, 0, none⟩ = some (.slice a len cap)) (h2 : W.cell? ⟨bk, 0, none⟩ = some (.int .i64 2)) (a0 : W.cell? ⟨b3, 0, none⟩ = some (.int .i64 o0)) (a1 : W.cell? ⟨b3, 1, none⟩ = some (.int .i64 o1)) (a2 : W.cell? ⟨b3, 2, none⟩ = some (.int .i64 o2))
    (h3 : W.cell? ⟨bo, 0, none⟩ = some (.slice none 0 0)) (h4 : W.frozen? ⟨bo, 0, none⟩ = false) (h5 : W.cell? ⟨bn, 0, none⟩ = some (.int .i64 0)) (h6 : W.frozen? ⟨bn, 0, none⟩ = false)
    (hk : W.heap[bt]? = some (.cells #[.bool false] 4)) (cs : List Int) (m : Nat) (f : ¬ (rowsB len o0 o1 o2)) :
    Calls Try.prog 61 #[.pointer (some ⟨bb, 0, none⟩), .pointer (some ⟨bk, 0, none⟩), .pointer (some ⟨b3, 0, none⟩), .pointer (some ⟨bo, 0, none⟩), .pointer (some ⟨bn, 0, none⟩)] W (TryPost bt (CutR W bo bn false m cs)) := by
  have l1 := World.block_lt_of_cell? _ _ h1
  have l2 := World.block_lt_of_cell? _ _ h2
  have l3 := World.block_lt_of_cell? _ _ a0
  have l4 := World.block_lt_of_cell? _ _ h3
  have l5 := World.block_lt_of_cell? _ _ h5
  have POST := Bas.hid (fun w2 => cutR_no (w2 := w2) (m := m) (cs := cs) h3 h4 h5 h6 hk)
  clear h3 h4 h5 h6 hk l4 l5
  go_enter Try.func61, Try.ntmps61
  go_wp2_with (fail)
  refine (of_any _ _ _ _).mono ?_
  rintro e w1 ⟨rfl, hb1⟩
  have hs1 := hb1.size
  have d1 := (hb1.cell (p := ⟨bk, 0, none⟩) l2).trans h2
  have e0 := (hb1.cell (p := ⟨b3, 0, none⟩) l3).trans a0
  have e1 := (hb1.cell (p := ⟨b3, 1, none⟩) l3).trans a1
  have e2 := (hb1.cell (p := ⟨b3, 2, none⟩) l3).trans a2
  have HB1 := Bas.hid hb1
  have m1 : bk < w1.heap.size := Nat.lt_of_lt_of_le l2 hs1
  have m2 : b3 < w1.heap.size := Nat.lt_of_lt_of_le l3 hs1
  clear hb1 h2 a0 a1 a2 h1
  go_wp2_with (fail)
  refine (rows_no a len cap o0 o1 o2 _ hl hc f).mono ?_
  rintro e w2 ⟨rfl, hb2⟩
  have HB2 := Bas.on (HB1.out.alloc hs1 _) hb2
  clear hb2
  go_wp2_with (fail)
  exact ⟨rfl, POST.out _ HB2⟩

set_option maxRecDepth 20000 in
set_option maxHeartbeats 4000000 in
theorem cut1_yes2 (a : Option Addr) (len cap : Nat) (bs : List Int) (o0 o1 o2 : Int) (bb bk b3 bo bn bt : Nat) (W : World) (hl : len ≤ cap) (hc : cap ≤ maxLen) (hv : VB W a bs) (hbl : bs.length = len)
    (h1 : W.cell? ⟨bb, 0, none⟩ = some (.slice a len cap)) (h2 : W.cell? ⟨bk, 0, none⟩ = some (.int .i64 2)) (a0 : W.cell? ⟨b3, 0, none⟩ = some (.int .i64 o0)) (a1 : W.cell? ⟨b3, 1, none⟩ = some (.int .i64 o1)) (a2 : W.cell? ⟨b3, 2, none⟩ = some (.int .i64 o2))
    (h3 : W.cell? ⟨bo, 0, none⟩ = some (.slice none 0 0)) (h4 : W.frozen? ⟨bo, 0, none⟩ = false) (h5 : W.cell? ⟨bn, 0, none⟩ = some (.int .i64 0)) (h6 : W.frozen? ⟨bn, 0, none⟩ = false) (hne : bo ≠ bn) (n1 : bt ≠ bo) (n2 : bt ≠ bn)
    (hk : W.heap[bt]? = some (.cells #[.bool false] 4)) (f : rowsB len o0 o1 o2) (q m : Nat) (cs : List Int) (hq : o0.toNat = q) (hm : (o1 * o2).toNat = m) (hcs : (bs.drop q).take m = cs) :
    Calls Try.prog 61 #[.pointer (some ⟨bb, 0, none⟩), .pointer (some ⟨bk, 0, none⟩), .pointer (some ⟨b3, 0, none⟩), .pointer (some ⟨bo, 0, none⟩), .pointer (some ⟨bn, 0, none⟩)] W (TryPost bt (CutR W bo bn true m cs)) := by
  have hqm : q + m ≤ bs.length := by obtain ⟨_, _, _, f4, f5⟩ := f; have := Int.mul_nonneg ‹0 ≤ o1› ‹0 ≤ o2›; omega
  have C := fun w' => (rows_ok a len cap o0 o1 o2 w' hl hc f)
  simp only [hq, hm] at C
  have HC := Bas.hid C
  clear C
  have hvl := hv.len
  have l1 := World.block_lt_of_cell? _ _ h1
  have l2 := World.block_lt_of_cell? _ _ h2
  have l3 := World.block_lt_of_cell? _ _ a0
  have l4 := World.block_lt_of_cell? _ _ h3
  have l5 := World.block_lt_of_cell? _ _ h5
  have lt := (Array.getElem?_eq_some_iff.1 hk).1
  have HCS := Bas.hid hcs
  have HV := Bas.hid hv
  have HT := Bas.hid hk
  clear hv hk hq hm hcs
  go_enter Try.func61, Try.ntmps61
  go_wp2_with (fail)
  refine (of_any _ _ _ _).mono ?_
  rintro e w1 ⟨rfl, hb1⟩
  have hs1 := hb1.size
  have d1 := (hb1.cell (p := ⟨bk, 0, none⟩) l2).trans h2
  have e0 := (hb1.cell (p := ⟨b3, 0, none⟩) l3).trans a0
  have e1 := (hb1.cell (p := ⟨b3, 1, none⟩) l3).trans a1
  have e2 := (hb1.cell (p := ⟨b3, 2, none⟩) l3).trans a2
  have HB1 := Bas.hid hb1
  have m1 : bk < w1.heap.size := Nat.lt_of_lt_of_le l2 hs1
  have m2 : b3 < w1.heap.size := Nat.lt_of_lt_of_le l3 hs1
  clear hb1 h2 a0 a1 a2 h1
  go_wp2_with (fail)
  refine (HC.out _).mono ?_
  rintro e w2 ⟨rfl, hb2⟩
  have HB2 := Bas.hid (Bas.on (HB1.out.alloc hs1 _) hb2)
  have hs2 := hb2.size
  simp only [World.size_alloc] at hs2
  have HAQ0 : sub a q m = sub a q m := rfl
  have HVS := Bas.hid ((HV.out.below HB2.out).sub q m hqm)
  rw [HCS.out] at HVS
  have hbl2 : cs.length = m := by rw [← HCS.out]; rw [List.length_take, List.length_drop]; omega
  have hsm : m ≤ maxLen := by unfold maxLen; omega
  have hn0 : sub a q m = none → m = 0 := fun e => by
    have h := HVS.out
    rw [e] at h
    have := h.nil
    rw [this] at hbl2
    simpa using hbl2.symm
  have HAQ1 := Bas.hid HAQ0
  clear HAQ0
  generalize hA : sub a q m = A at HVS hn0
  have HAQ := Bas.hid hA
  clear HAQ1
  have H3 := Bas.hid h3
  have H4 := Bas.hid h4
  have H5 := Bas.hid h5
  have H6 := Bas.hid h6
  have c3 := (HB2.out.cell (p := ⟨bo, 0, none⟩) l4).trans h3
  have c4 := (HB2.out.frozen (p := ⟨bo, 0, none⟩) l4).trans h4
  have c5 := (HB2.out.cell (p := ⟨bn, 0, none⟩) l5).trans h5
  have c6 := (HB2.out.frozen (p := ⟨bn, 0, none⟩) l5).trans h6
  have hb2' := Bas.bcell hb2
  obtain ⟨hc2, hf2⟩ := hb2'
  clear hb2 h3 h4 h5 h6 hA d1 e0 e1 e2
  go_wp2_with (fail)
  have HB3 : Below W.heap.size W (w2.setCell ⟨w1.heap.size, 0, none⟩ (.slice A m m)) := HB2.out.setCell (p := ⟨w1.heap.size, 0, none⟩) hs1 _
  have cv : (w2.setCell ⟨w1.heap.size, 0, none⟩ (.slice A m m)).cell? ⟨w1.heap.size, 0, none⟩ = some (.slice A m m) := by
    simp [go_sem, hc2]
  have hvs : VB (w2.setCell ⟨w1.heap.size, 0, none⟩ (.slice A m m)) A cs := ⟨HVS.out.len, HVS.out.byte, fun i hi => by
    have hpos : 0 < bs.length := by rw [hbl2] at hi; omega
    obtain ⟨b0, o0', ha0, hc0⟩ := HV.out.cell 0 hpos
    have lb := World.block_lt_of_cell? _ _ hc0
    obtain ⟨b, o, hAe, hc⟩ := HVS.out.cell i hi
    refine ⟨b, o, hAe, ?_⟩
    have hbb : b = b0 := by
      have hq := HAQ.out
      rw [hAe, ha0] at hq
      have hp : (sub (some ⟨b0, o0', none⟩) q m).map Addr.block = some b0 := by
        unfold sub
        split
        · rfl
        · simp only [Option.map_some, Addr.add]; split <;> rfl
      rw [hq] at hp
      simpa using hp
    have hlt : b < W.heap.size := by rw [hbb]; exact lb
    exact (((Below.refl w1.heap.size w2).setCell (p := ⟨w1.heap.size, 0, none⟩) (Nat.le_refl _) _).cell (p := ⟨b, o + i, none⟩) (by show b < _; omega)).trans hc⟩
  have z3 : (w2.setCell ⟨w1.heap.size, 0, none⟩ (.slice A m m)).heap.size = w2.heap.size := by simp [World.setCell]
  have z3a : w1.heap.size + 1 ≤ (w2.setCell ⟨w1.heap.size, 0, none⟩ (.slice A m m)).heap.size := by omega
  have c3' := (HB3.cell (p := ⟨bo, 0, none⟩) l4).trans H3.out
  have c4' := (HB3.frozen (p := ⟨bo, 0, none⟩) l4).trans H4.out
  have c5' := (HB3.cell (p := ⟨bn, 0, none⟩) l5).trans H5.out
  have c6' := (HB3.frozen (p := ⟨bn, 0, none⟩) l5).trans H6.out
  clear z3 hc2 hf2 c3 c4 c5 c6
  generalize w2.setCell ⟨w1.heap.size, 0, none⟩ (.slice A m m) = W3 at *
  have HB3' := Bas.hid HB3
  have HVS3 := Bas.hid hvs
  have hs3 := HB3.size
  clear hvs HB3
  obtain ⟨I, F, hI, HF⟩ := Bas.fam W3.heap.size W3
  have k1 := fun i => Bas.cell_fam HF (by omega) cv i
  refine Pl.region_plan [(true, 0), (true, 2), (false, 1), (false, 3), (false, 4), (false, 5)] [3, 4, 5] (by kernel_rfl) (by kernel_rfl) (fun _ _ _ _ e h => ⟨e ▸ h.1, h.2⟩) (HF.1 _ ((Below.refl _ _).drew)) ?_
  intro i0
  refine Pl.head_sel [(true, 0), (true, 2)] (by kernel_rfl) ?_ i0
  simp only [Pl.sel, List.drop_succ_cons, List.drop_zero]
  repeat (go_big_quiet_step (fail))
  refine wpQuiet_nil ?_
  intro j0
  have hb3 := HF.2 j0
  refine Pl.one_sel (by kernel_rfl) ?_
  intro Q' hQ' hP'
  simp only [Pl.sel, List.drop_succ_cons, List.drop_zero]
  go_wp2_with (fail)
  refine (bytes_any A m m cs _ (Nat.le_refl _) hsm (HVS3.out.below hb3) hbl2 (fun e => hn0 e)).mono ?_
  rintro e w4 ⟨vb, rfl, hob, hnb, hb4⟩
  have HB4 := Bas.hid (Bas.on hb3 hb4)
  have hs4 := HB4.out.size
  have hj3 := hb3.size
  obtain ⟨g, cg, rfl, hgb, hgl, hgc, hgm, hvg, -⟩ := owned hob hnb rfl HVS3.out.byte HVS3.out.len
  rw [hbl2] at hgc
  have HVG := Bas.hid hvg
  clear hob hnb hb4 k1 hvg
  go_wp2_with (fail)
  refine hQ' _ _ (fun _ _ => HF.1 _ HB4.out) ?_
  clear hQ' hP' Q'
  refine Pl.tail_sel [(false, 3), (false, 4), (false, 5)] (by kernel_rfl) (by kernel_rfl) ?_
  simp only [Pl.sel, List.drop_succ_cons, List.drop_zero]
  go_wp2_with (fail)
  refine (len_any _ _ _ _).mono ?_
  rintro e w5 ⟨rfl, hb5⟩
  have hb5s := hb5.size
  have HB5 := Bas.hid (HB3'.out.trans ((Bas.on HB4.out hb5).mono hs3))
  have HVG5 := Bas.hid (HVG.out.below hb5)
  have x3 := (HB5.out.cell (p := ⟨bo, 0, none⟩) l4).trans H3.out
  have x4 := (HB5.out.frozen (p := ⟨bo, 0, none⟩) l4).trans H4.out
  have x5 := (HB5.out.cell (p := ⟨bn, 0, none⟩) l5).trans H5.out
  have x6 := (HB5.out.frozen (p := ⟨bn, 0, none⟩) l5).trans H6.out
  clear hb5 hb3 cv c3' c4' c5' c6'
  go_wp2_with (fail)
  go_end0
  have hh : ∀ k u v, k ≠ bo → k ≠ bn → ((w5.setCell ⟨bo, 0, none⟩ u).setCell ⟨bn, 0, none⟩ v).heap[k]? = w5.heap[k]? := fun k u v h1 h2 => (Below.heap_setCell _ _ _ _ h2).trans (Below.heap_setCell _ _ _ _ h1)
  refine ⟨by rw [hh bt _ _ n1 n2, HB5.out.block bt lt]; exact HT.out, .inl ⟨rfl, ⟨_, Bas.gset (Bas.gbelow (Bas.grefl _ _) HB5.out) _ _, Bas.gset (Bas.grefl _ _) _ _⟩, rfl, by simp [go_sem, x4], by simp [go_sem, x6], _, _, by simp [go_sem, x3], by simp [go_sem, x5], fun h => by (cases h), fun _ => ⟨rfl, g, cg, rfl, by omega, by simp [World.setCell]; omega, hgc, hgm, HVG5.out.block (hh g _ _ (by omega) (by omega))⟩⟩⟩
end Vw
end Go.Proofs.Ytakpppgikgimnaa
