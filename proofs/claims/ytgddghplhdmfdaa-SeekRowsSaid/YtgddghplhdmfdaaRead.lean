/- Layer 5 (seek): what Read hands to Try. -/
import Derived.Test.YtgddghplhdmfdaaTake
import Derived.Test.YtgddghplhdmfdaaPlan
namespace Go.Proofs.Ytgddghplhdmfdaa
open Go.RowKit
namespace Sk
open Vw

/-- The bytes of a row. -/
def rowB (bs : List Int) (p s i : Nat) : List Int := (bs.drop (p + 10 + s * i)).take s
def rowL (bs : List Int) (p s m : Nat) : List (List Int) := (List.range m).map (rowB bs p s)

theorem rowL_succ (bs : List Int) (p s m : Nat) : rowL bs p s (m + 1) = rowL bs p s m ++ [rowB bs p s m] := by
  unfold rowL; rw [List.range_succ, List.map_append]; rfl
theorem rowL_len (bs : List Int) (p s m : Nat) : (rowL bs p s m).length = m := by simp [rowL]

theorem row_vb {w : World} {a : Option Addr} {bs : List Int} {p s n : Nat} (hv : VB w a bs) (h : p + 10 + n * s ≤ bs.length) (i : Nat) (hi : i < n) :
    VB w (sub (sub a (p + 10) (n * s)) (s * i) s) (rowB bs p s i) ∧ (rowB bs p s i).length = s := by
  have hsi : s * i + s ≤ n * s := by
    have := Nat.mul_le_mul_left s (show i + 1 ≤ n from hi)
    rw [Nat.mul_add, Nat.mul_one, Nat.mul_comm s n] at this
    exact this
  have h1 := hv.sub (p + 10) (n * s) h
  have h2 := h1.sub (s * i) s (by rw [List.length_take, List.length_drop]; omega)
  rw [List.drop_take, List.take_take, List.drop_drop, Nat.min_eq_left (by omega)] at h2
  exact ⟨h2, by unfold rowB; rw [List.length_take, List.length_drop]; omega⟩

/-- A row of rows of bytes, each of the call's own. -/
def Mat (w : World) (base : Nat) (v : Value) (rows : List (List Int)) : Prop :=
  ∃ xs : List Value, w.ownsRow base 26 1 v rows.length xs ∧ ∀ (i : Nat) (r : List Int), rows[i]? = some r → ∃ g cp, xs[i]? = some (Value.slice (some ⟨g, 0, none⟩) r.length cp) ∧ base ≤ g ∧ g < w.heap.size ∧ r.length ≤ cp ∧ cp ≤ maxLen ∧ VB w (some ⟨g, 0, none⟩) r ∧ OwnB w g r.length

theorem mat_nil (w : World) (base : Nat) : Mat w base (Value.slice none 0 0) [] := ⟨[], Row.owned_nil _ _ _ _, fun i r h => by simp at h⟩

theorem vb_grown {w w' : World} {a : Option Addr} {bs : List Int} {r : Nat} (h : VB w a bs) (hg : w.grownBy w' (some r)) (hab : ∀ x, a = some x → 0 < bs.length → x.block ≠ r) : VB w' a bs :=
  ⟨h.len, h.byte, fun i hi => by
    obtain ⟨b, o, rfl, hc⟩ := h.cell i hi
    have : b ≠ r := hab _ rfl (by omega)
    exact ⟨b, o, rfl, (Bas.gcell hg (World.block_lt_of_cell? _ _ hc) (by simp; omega)).trans hc⟩⟩

theorem mat_snoc {w w4 wf : World} {base : Nat} {v' : Value} {rows : List (List Int)} {xs : List Value} {r : List Int} {g cp : Nat}
    (hrows : ∀ (i : Nat) (r : List Int), rows[i]? = some r → ∃ g cp, xs[i]? = some (Value.slice (some ⟨g, 0, none⟩) r.length cp) ∧ base ≤ g ∧ g < w.heap.size ∧ r.length ≤ cp ∧ cp ≤ maxLen ∧ VB w (some ⟨g, 0, none⟩) r ∧ OwnB w g r.length)
    (hxs : xs.length = rows.length) (hown : wf.ownsRow base 26 1 v' (rows.length + 1) (xs ++ [Value.slice (some ⟨g, 0, none⟩) r.length cp]))
    (hkeep : ∀ g' n, g' < w.heap.size → OwnB w g' n → base ≤ g' → wf.heap[g']? = w.heap[g']?) (hsz : w.heap.size ≤ wf.heap.size)
    (hb : base ≤ g) (hgl : g < wf.heap.size) (hc : r.length ≤ cp) (hm : cp ≤ maxLen) (hvb : VB w4 (some ⟨g, 0, none⟩) r) (ho : OwnB w4 g r.length) (hlast : wf.heap[g]? = w4.heap[g]?) : Mat wf base v' (rows ++ [r]) := by
  refine ⟨_, by rw [List.length_append]; exact hown, fun i r' hr => ?_⟩
  by_cases hi : i < rows.length
  · rw [List.getElem?_append_left hi] at hr
    obtain ⟨g', cp', h1, h2, h3, h4, h5, h6, h7⟩ := hrows i r' hr
    have hk := hkeep g' _ h3 h7 h2
    exact ⟨g', cp', by rw [List.getElem?_append_left (by omega)]; exact h1, h2, by omega, h4, h5, h6.block hk, h7.block hk⟩
  · have hi2 : i = rows.length := by
      have := (List.getElem?_eq_some_iff.1 hr).1
      simp at this; omega
    subst hi2
    simp at hr
    subst hr
    exact ⟨g, cp, by rw [← hxs]; simp, hb, hgl, hc, hm, hvb.block hlast, ho.block hlast⟩

/-- A row of rows is no row of bytes. -/
theorem own_ne {w : World} {base : Nat} {v : Value} {n m g : Nat} {xs : List Value} (h : w.ownsRow base 26 1 v n xs) (ho : OwnB w g m) : v.ownBlock ≠ some g := by
  intro e
  obtain ⟨_, ⟨rfl, _⟩ | ⟨g', cp, cur, rfl, _, hh, _⟩⟩ := h
  · cases e
  · cases e
    obtain ⟨cur', h', _⟩ := ho
    rw [hh] at h'
    simp at h'

theorem mat_base {w : World} {base base' : Nat} {v : Value} {rows : List (List Int)} (h : Mat w base v rows) (hb : base' ≤ base) : Mat w base' v rows := by
  obtain ⟨xs, h1, h2⟩ := h
  refine ⟨xs, Row.owned_base h1 hb, fun i r hr => ?_⟩
  obtain ⟨g, cp, h3, h4, r⟩ := h2 i r hr
  exact ⟨g, cp, h3, by omega, r⟩

/-- What is left when Read's function has ended, or thrown. -/
def ReadR (W : World) (bo : Nat) (good : Bool) (rows : List (List Int)) (ok : Bool) (w2 : World) : Prop :=
  W.grownBy w2 (some bo) ∧ ok = good ∧ w2.frozen? ⟨bo, 0, none⟩ = false ∧ ∃ v, w2.cell? ⟨bo, 0, none⟩ = some v ∧ (good = true → Mat w2 W.heap.size v rows)

theorem infoB : (Try.prog.info? 26).map (fun i => (i.zero, i.size, i.bytes)) = some (some (.slice none 0 0), 1, 24) := by kernel_rfl

set_option maxRecDepth 20000 in
set_option maxHeartbeats 4000000 in
theorem read1_yes (a : Option Addr) (len cap : Nat) (bs : List Int) (p s n keys : Nat) (need : Int) (bb ba bd bk bo bt : Nat) (W : World) (hl : len ≤ cap) (hc : cap ≤ maxLen) (hv : VB W a bs) (hbl : bs.length = len)
    (h1 : W.cell? ⟨bb, 0, none⟩ = some (.slice a len cap)) (h2 : W.cell? ⟨ba, 0, none⟩ = some (.int .i64 p)) (h3 : W.cell? ⟨bd, 0, none⟩ = some (.int .i64 need)) (h4 : W.cell? ⟨bk, 0, none⟩ = some (.int .i64 keys))
    (h5 : W.cell? ⟨bo, 0, none⟩ = some (.slice none 0 0)) (h6 : W.frozen? ⟨bo, 0, none⟩ = false) (hab : ∀ x, a = some x → 0 < bs.length → x.block ≠ bo) (hne : bt ≠ bo) (hk : W.heap[bt]? = some (.cells #[.bool false] 4))
    (h10 : p + 10 ≤ len) (hs : be bs p 2 = s) (hn : be bs (p + 2) 2 = n) (hneed : need ≤ s) (hs2 : 2 ≤ s) (hkeys : 2 * keys ≤ s) (hrow : rowsB len ((p : Int) + 10) n s) (hsmall : len ≤ 140737488355) :
    Calls Try.prog 52 #[.pointer (some ⟨bb, 0, none⟩), .pointer (some ⟨ba, 0, none⟩), .pointer (some ⟨bd, 0, none⟩), .pointer (some ⟨bk, 0, none⟩), .pointer (some ⟨bo, 0, none⟩)] W
      (TryPost bt (ReadR W bo true (rowL bs p s (rowCount bs p s n keys)))) := by
  have l1 := World.block_lt_of_cell? _ _ h1
  have l2 := World.block_lt_of_cell? _ _ h2
  have l3 := World.block_lt_of_cell? _ _ h3
  have l4 := World.block_lt_of_cell? _ _ h4
  have l5 := World.block_lt_of_cell? _ _ h5
  have lt := (Array.getElem?_eq_some_iff.1 hk).1
  obtain ⟨I, F, hI, HF⟩ := Bas.fam W.heap.size W
  have hB0 : W.heap.size ≤ W.heap.size := Nat.le_refl _
  have g1 := fun i => Bas.cell_fam HF l1 h1 i
  have g2 := fun i => Bas.cell_fam HF l2 h2 i
  have g3 := fun i => Bas.cell_fam HF l3 h3 i
  have g4 := fun i => Bas.cell_fam HF l4 h4 i
  have HST := Bas.hid (HF.1 _ ((Below.refl _ _).drew))
  have hmn : rowCount bs p s n keys ≤ n := by unfold rowCount; split <;> omega
  have hns : p + 10 + n * s ≤ bs.length := by
    have := hrow.2.2.2.2
    rw [← Int.natCast_mul] at this
    omega
  have hnl : n ≤ len := by
    have : n * 2 ≤ n * s := Nat.mul_le_mul_left n hs2
    omega
  have T := fun w' (hb : Below W.heap.size W w') => take_yes a len cap bs p s n keys need w' hl hc (hv.below hb) hbl h10 hs hn hneed hkeys hrow
  generalize hm : rowCount bs p s n keys = m at hmn T
  have HT := Bas.hid T
  have HNS := Bas.hid hns
  clear T hs hn hneed hrow hkeys hm h10 hns
  go_enter Try.func52, Try.ntmps52
  go_wp2_with (fail)
  refine Pl.plan_two [(true, 0), (true, 2), (true, 3), (true, 4), (true, 7), (false, 1)] [(false, 5), (false, 6)] [5, 6] (by kernel_rfl) (by kernel_rfl) (by kernel_rfl) (by kernel_rfl) (by kernel_rfl) (fun _ _ _ _ e h => ⟨e ▸ h.1, h.2⟩) HST.out ?_
  simp only [Pl.sel, List.drop_succ_cons, List.drop_zero]
  repeat (go_big_quiet_step ((go_at_call 24; exact Bas.call_fam HF hB0 (of_any _ _ _ _))))
  refine wpQuiet_nil ?_
  intro i0
  have hb1 := HF.2 i0
  generalize F i0 = W1 at *
  clear g1 g2 g3 g4 HST
  go_wp2_with (fail)
  refine (HT.out _ hb1).mono ?_
  rintro e w2 ⟨v, rfl, hown, hb2⟩
  have HB2 : Below W.heap.size W w2 := Bas.on hb1 hb2
  clear HT
  have hcell : m = 0 ∨ ∃ gt, W.heap.size ≤ gt ∧ gt < w2.heap.size ∧ (∃ cp, v = .slice (some ⟨gt, 0, none⟩) m cp ∧ m ≤ cp ∧ cp ≤ maxLen) ∧ ∀ i, i < m → w2.cell? ⟨gt, i, none⟩ = some (rowV (sub a (p + 10) (n * s)) s i) := by
    rcases Row.owned_parts hown with ⟨_, h0, _⟩ | ⟨g, cp, rfl, hg, hgl, hgc, hgm, hcl, hfr⟩
    · exact .inl h0
    · refine .inr ⟨g, by have := hb1.size; omega, hgl, ⟨cp, rfl, hgc, hgm⟩, fun i hi => hcl i _ ?_⟩
      unfold rowsV; rw [List.getElem?_map, List.getElem?_range hi]; rfl
  have hlen : ∃ ad cp, v = .slice ad m cp := by
    rcases Row.owned_parts hown with ⟨rfl, rfl, _⟩ | ⟨g, cp, rfl, _⟩
    · exact ⟨_, _, rfl⟩
    · exact ⟨_, _, rfl⟩
  obtain ⟨ad, cp, rfl⟩ := hlen
  have c5 := (HB2.cell (p := ⟨bo, 0, none⟩) l5).trans h5
  have f5 := (HB2.frozen (p := ⟨bo, 0, none⟩) l5).trans h6
  have hv2 := hv.below HB2
  have HCELL := Bas.hid hcell
  have HBT := Bas.hid hk
  have hW2 := HB2.size
  clear hown hcell hb1 hb2 h1 h2 h3 h4 h5 h6 hk hv l1 l2 l3 l4
  go_wp2_with (fail)
  go_loopw [14] (fun c wr => ∃ (i : Nat) (v : Value), i ≤ m ∧ c = .int .i64 i ∧ w2.grownBy wr (some bo) ∧ wr.cell? ⟨bo, 0, none⟩ = some v ∧ wr.frozen? ⟨bo, 0, none⟩ = false ∧ Mat wr w2.heap.size v (rowL bs p s i)) (fun c _ => m - (intOf c).toNat)
  case atStart => exact ⟨0, _, Nat.zero_le _, rfl, Bas.grefl _ _, c5, f5, mat_nil _ _⟩
  case round =>
    obtain ⟨i, v, hi, rfl, hg, co, fo, hmat⟩ := hrel
    have hgs := hg.size
    by_cases him : i < m
    · rcases HCELL.out with h0 | ⟨gt, hg1, hg2, ⟨cp', he, hmc, hcm⟩, hcl⟩
      · omega
      cases he
      have cl := (Bas.gcell hg hg2 (by simp; omega)).trans (hcl i him)
      unfold rowV at cl
      obtain ⟨hvr, hrl⟩ := row_vb (vb_grown hv2 hg hab) HNS.out i (by omega)
      have hsub : sub (sub a (p + 10) (n * s)) (s * i) s = none → s = 0 := fun e => by
        rw [e] at hvr
        have := hvr.nil
        rw [this] at hrl
        simpa using hrl.symm
      generalize hrA : sub (sub a (p + 10) (n * s)) (s * i) s = A at cl hvr hsub
      have hsc : s ≤ maxLen := by unfold maxLen; have := hvr.len; omega
      have HB := Bas.hid (fun w' hb => bytes_any A s s _ w' (Nat.le_refl _) hsc (hvr.below hb) hrl (fun e => hsub e))
      have HVR := Bas.hid hvr
      have HSUC := Bas.hid (rowL_succ bs p s i)
      have hrlen := rowL_len bs p s i
      generalize rowL bs p s i = R0 at HSUC hmat hrlen
      generalize rowB bs p s i = r at hrl HSUC HB HVR
      obtain ⟨xs, hxs, hrows⟩ := hmat
      have HROWS := Bas.hid hrows
      have HXS := Bas.hid hxs
      have HG := Bas.hid hg
      clear hrows hxs hg hsc hsub hvr hrA hcl
      go_wp2_with (fail)
      have hbW := (Below.refl wr.heap.size wr).alloc (Nat.le_refl _) (.cells #[.slice A s s] 54)
      have cW : (wr.alloc (.cells #[.slice A s s] 54)).cell? ⟨wr.heap.size, 0, none⟩ = some (.slice A s s) := by simp
      have coW := (hbW.cell (p := ⟨bo, 0, none⟩) (by show bo < _; omega)).trans co
      have foW := (hbW.frozen (p := ⟨bo, 0, none⟩) (by show bo < _; omega)).trans fo
      have hWs : (wr.alloc (.cells #[.slice A s s] 54)).heap.size = wr.heap.size + 1 := by simp
      generalize wr.alloc (.cells #[.slice A s s] 54) = W3 at *
      obtain ⟨I, F, hI, HF⟩ := Bas.fam W3.heap.size W3
      have k1 := fun i => Bas.cell_fam HF (by omega) coW i
      have k2 := fun i => Bas.cell_fam HF (by omega) cW i
      refine Pl.region_plan [(true, 0), (true, 1), (false, 2), (false, 3), (false, 4), (false, 5)] [4, 5] (by kernel_rfl) (by kernel_rfl) (fun _ _ _ _ e h => ⟨e ▸ h.1, h.2⟩) (HF.1 _ ((Below.refl _ _).drew)) ?_
      intro i0
      refine Pl.head_sel [(true, 0), (true, 1)] (by kernel_rfl) ?_ i0
      simp only [Pl.sel, List.drop_succ_cons, List.drop_zero]
      repeat (go_big_quiet_step (fail))
      refine wpQuiet_nil ?_
      intro j0
      have hb3 := HF.2 j0
      refine Pl.one_sel (by kernel_rfl) ?_
      intro Q' hQ' hP'
      simp only [Pl.sel, List.drop_succ_cons, List.drop_zero]
      go_wp2_with (fail)
      refine (HB.out _ (hbW.trans (hb3.mono hbW.size))).mono ?_
      rintro e w4 ⟨vb, rfl, hob, hnb, hb4⟩
      have HB4 : Below W3.heap.size W3 w4 := Bas.on hb3 hb4
      have hs4 := HB4.size
      obtain ⟨g, cg, rfl, hgb, hgl, hgc, hgm, hvg, hOg⟩ := owned hob hnb rfl HVR.out.byte HVR.out.len
      have HHB4 := Bas.hid HB4
      clear hob hnb hb4 HB k1 k2
      go_wp2_with (fail)
      refine hQ' _ _ (fun _ _ => HF.1 _ HHB4.out) ?_
      clear hQ' hP' Q'
      refine Pl.one_sel (by kernel_rfl) ?_
      intro Q' hQ' hP'
      simp only [Pl.sel, List.drop_succ_cons, List.drop_zero]
      go_wp2_with (fail)
      refine hQ' _ _ (fun _ _ => HF.1 _ (HHB4.out.alloc hs4 _)) ?_
      clear hQ' hP' Q'
      refine Pl.tail_sel [(false, 4), (false, 5)] (by kernel_rfl) (by kernel_rfl) ?_
      simp only [Pl.sel, List.drop_succ_cons, List.drop_zero]
      have HBr4 : Below wr.heap.size wr w4 := hbW.trans (HHB4.out.mono hbW.size)
      have hxs4 := (Row.owned_below HXS.out HBr4).alloc (.cells #[.slice (some ⟨g, 0, none⟩) s cg] 26)
      have co4 := ((HHB4.out.alloc hs4 (.cells #[.slice (some ⟨g, 0, none⟩) s cg] 26)).cell (p := ⟨bo, 0, none⟩) (by show bo < _; omega)).trans coW
      have fo4 := ((HHB4.out.alloc hs4 (.cells #[.slice (some ⟨g, 0, none⟩) s cg] 26)).frozen (p := ⟨bo, 0, none⟩) (by show bo < _; omega)).trans foW
      rw [hrlen] at hxs4
      refine (Row.append_any rfl _ _ 75 26 rfl (.slice none 0 0) 1 24 Try.underlying75 infoB rfl (by decide) w2.heap.size _ i xs rfl hxs4 (.slice (some ⟨w4.heap.size, 0, none⟩) 1 1) 1 [.slice (some ⟨g, 0, none⟩) s cg] rfl (Row.leads_one _ _ _) rfl (by simp; rfl) (by unfold maxLen; omega) (by omega) (by simp; omega) ?_)
      intro v' w5 hown' hgrow _
      obtain ⟨ad', cp', hv'⟩ : ∃ ad cp, v' = .slice ad (i + 1) cp := by
        rcases Row.owned_parts hown' with ⟨_, h0, _⟩ | ⟨_, _, h, _⟩
        · omega
        · exact ⟨_, _, h⟩
      subst hv'
      have hnb : v.ownBlock ≠ some bo := fun e => by have := (Row.own_block HXS.out e).1; omega
      have hs5 := hgrow.size
      simp only [World.size_alloc] at hs5
      have co5 := (Bas.gcell hgrow (b := bo) (o := 0) (by simp; omega) hnb).trans co4
      have fo5 := (Bas.gfrozen hgrow (b := bo) (o := 0) (by simp; omega) hnb).trans fo4
      have keep : ∀ k, k < w4.heap.size → v.ownBlock ≠ some k → k ≠ bo → (w5.setCell ⟨bo, 0, none⟩ (.slice ad' (i + 1) cp')).heap[k]? = w4.heap[k]? := fun k hk hk2 hk3 =>
        (Below.heap_setCell _ _ _ _ hk3).trans ((hgrow.block k (by simp; omega) (fun e => hk2 e.symm)).trans (Below.heap_alloc _ _ _ hk))
      have hB4 := HBr4.size
      have hj3 := hb3.size
      have hgf : w2.grownBy (w5.setCell ⟨bo, 0, none⟩ (.slice ad' (i + 1) cp')) (some bo) :=
        ⟨hgrow.os.trans (HBr4.os.trans HG.out.os), hgrow.tape.trans (HBr4.tape.trans HG.out.tape), hgrow.output.trans (HBr4.output.trans HG.out.output), by simp [World.setCell]; omega, fun k hk hk2 =>
          (keep k (by omega) (fun e => by have := (Row.own_block HXS.out e).1; omega) (fun e => hk2 (by rw [e]))).trans ((HBr4.block k (by omega)).trans (HG.out.block k hk hk2))⟩
      have hmat' : Mat (w5.setCell ⟨bo, 0, none⟩ (.slice ad' (i + 1) cp')) w2.heap.size (.slice ad' (i + 1) cp') (R0 ++ [r]) := by
        refine mat_snoc (w := wr) (w4 := w4) (g := g) (cp := cg) (xs := xs) HROWS.out (by have := HXS.out.1; omega) ?_ ?_ ?_ ?_ ?_ (by omega) hgm hvg hOg ?_
        · rw [hrlen, hrl]
          exact Row.owned_keep hown' fun k hk => Below.heap_setCell _ _ _ _ (by
            have h1 := (Row.own_block hown' hk).1
            show k ≠ bo
            omega)
        · exact fun k n' hk ho hbk => (keep k (by omega) (own_ne HXS.out ho) (by omega)).trans (HBr4.block k hk)
        · simp [World.setCell]; omega
        · omega
        · simp [World.setCell]; omega
        · exact keep g hgl (fun e => by have := (Row.own_block HXS.out e).2; omega) (by omega)
      have HGF := Bas.hid hgf
      have HMAT := Bas.hid hmat'
      clear hgf hmat' keep hgrow hown' co4 fo4 hxs4
      go_wp2_with (fail)
      go_roundw
      case rel => exact ⟨i + 1, _, by omega, by go_num, HGF.out, by simp [go_sem, co5]; rfl, by simp [go_sem, fo5], by rw [HSUC.out]; exact HMAT.out⟩
      case measure => simp [intOf]; omega
    · have him2 : i = m := by omega
      subst him2
      have HM := Bas.hid hmat
      have hbk : wr.heap[bt]? = some (.cells #[.bool false] 4) := (hg.block bt (by omega) (by simp; omega)).trans ((HB2.block bt lt).trans HBT.out)
      have HBK := Bas.hid hbk
      have HG := Bas.hid hg
      clear hmat hbk hg
      go_wp2_with (fail)
      go_end0
      refine ⟨HBK.out, .inl ⟨rfl, Bas.gtrans ?_ HG.out, rfl, fo, v, co, fun _ => mat_base HM.out hW2⟩⟩
      exact ⟨HB2.os, HB2.tape, HB2.output, HB2.size, fun k hk _ => HB2.block k hk⟩

set_option maxRecDepth 20000 in
set_option maxHeartbeats 4000000 in
theorem read1_no (a : Option Addr) (len cap : Nat) (bs : List Int) (at' need : Int) (keys : Nat) (bb ba bd bk bo bt : Nat) (W : World) (rows : List (List Int)) (hl : len ≤ cap) (hc : cap ≤ maxLen) (hv : VB W a bs) (hbl : bs.length = len)
    (h1 : W.cell? ⟨bb, 0, none⟩ = some (.slice a len cap)) (h2 : W.cell? ⟨ba, 0, none⟩ = some (.int .i64 at')) (h3 : W.cell? ⟨bd, 0, none⟩ = some (.int .i64 need)) (h4 : W.cell? ⟨bk, 0, none⟩ = some (.int .i64 keys))
    (h5 : W.cell? ⟨bo, 0, none⟩ = some (.slice none 0 0)) (h6 : W.frozen? ⟨bo, 0, none⟩ = false) (hk : W.heap[bt]? = some (.cells #[.bool false] 4)) (hno : ¬ takeB len bs at' need) :
    Calls Try.prog 52 #[.pointer (some ⟨bb, 0, none⟩), .pointer (some ⟨ba, 0, none⟩), .pointer (some ⟨bd, 0, none⟩), .pointer (some ⟨bk, 0, none⟩), .pointer (some ⟨bo, 0, none⟩)] W
      (TryPost bt (ReadR W bo false rows)) := by
  have l1 := World.block_lt_of_cell? _ _ h1
  have l2 := World.block_lt_of_cell? _ _ h2
  have l3 := World.block_lt_of_cell? _ _ h3
  have l4 := World.block_lt_of_cell? _ _ h4
  have l5 := World.block_lt_of_cell? _ _ h5
  have lt := (Array.getElem?_eq_some_iff.1 hk).1
  obtain ⟨I, F, hI, HF⟩ := Bas.fam W.heap.size W
  have hB0 : W.heap.size ≤ W.heap.size := Nat.le_refl _
  have g1 := fun i => Bas.cell_fam HF l1 h1 i
  have g2 := fun i => Bas.cell_fam HF l2 h2 i
  have g3 := fun i => Bas.cell_fam HF l3 h3 i
  have g4 := fun i => Bas.cell_fam HF l4 h4 i
  have HST := Bas.hid (HF.1 _ ((Below.refl _ _).drew))
  have HT := Bas.hid (fun w' (hb : Below W.heap.size W w') => take_no a len cap bs at' need keys w' hl hc (hv.below hb) hbl hno)
  have post : ∀ w', Below W.heap.size W w' → TryPost bt (ReadR W bo false rows) (.panicked short) w' := fun w' hb =>
    ⟨(hb.block bt lt).trans hk, .inr ⟨rfl, Bas.gbelow (Bas.grefl _ _) hb, rfl, (hb.frozen (p := ⟨bo, 0, none⟩) l5).trans h6, _, (hb.cell (p := ⟨bo, 0, none⟩) l5).trans h5, fun h => by cases h⟩⟩
  have POST := Bas.hid post
  clear post hno
  go_enter Try.func52, Try.ntmps52
  go_wp2_with (fail)
  refine Pl.plan_two [(true, 0), (true, 2), (true, 3), (true, 4), (true, 7), (false, 1)] [(false, 5), (false, 6)] [5, 6] (by kernel_rfl) (by kernel_rfl) (by kernel_rfl) (by kernel_rfl) (by kernel_rfl) (fun _ _ _ _ e h => ⟨e ▸ h.1, h.2⟩) HST.out ?_
  simp only [Pl.sel, List.drop_succ_cons, List.drop_zero]
  repeat (go_big_quiet_step ((go_at_call 24; exact Bas.call_fam HF hB0 (of_any _ _ _ _))))
  refine wpQuiet_nil ?_
  intro i0
  have hb1 := HF.2 i0
  generalize F i0 = W1 at *
  clear g1 g2 g3 g4 HST
  go_wp2_with (fail)
  refine (HT.out _ hb1).mono ?_
  rintro e w2 ⟨rfl, hb2⟩
  go_wp2_with (fail)
  exact ⟨rfl, POST.out _ (Bas.on hb1 hb2)⟩

theorem mat_keep {w w' : World} {base : Nat} {v : Value} {rows : List (List Int)} (h : Mat w base v rows) (hk : ∀ g, base ≤ g → g < w.heap.size → w'.heap[g]? = w.heap[g]?) (hs : w.heap.size ≤ w'.heap.size) : Mat w' base v rows := by
  obtain ⟨xs, h1, h2⟩ := h
  refine ⟨xs, Row.owned_keep h1 fun g hg => ?_, fun i r hr => ?_⟩
  · obtain ⟨h3, h4⟩ := Row.own_block h1 hg
    exact hk g h3 h4
  · obtain ⟨g, cp, h3, h4, h5, h6, h7, h8, h9⟩ := h2 i r hr
    have := hk g h4 h5
    exact ⟨g, cp, h3, h4, by omega, h6, h7, h8.block this, h9.block this⟩

theorem mat_slice {w : World} {base : Nat} {v : Value} {rows : List (List Int)} (h : Mat w base v rows) : ∃ ad cp, v = .slice ad rows.length cp := by
  obtain ⟨xs, h1, h2⟩ := h
  rcases Row.owned_parts h1 with ⟨rfl, h0, _⟩ | ⟨_, _, h, _⟩
  · exact ⟨none, 0, by rw [h0]⟩
  · exact ⟨_, _, h⟩

/-- Read's answer: an error, or the rows. -/
def ReadPost (w : World) (code : Int) (rows : List (List Int)) (e : Ending) (w' : World) : Prop :=
  ∃ v, e = .returned (.tuple #[v, .int .i64 code]) ∧ Below w.heap.size w w' ∧ Mat w' w.heap.size v rows

set_option maxHeartbeats 1000000 in
theorem read_arg (a : Option Addr) (len cap : Nat) (at' need keys : Int) (w : World) (hn : -9223372036854775808 ≤ need) (hn2 : need ≤ 9223372036854775807) (h : need < 2 ∨ keys < 1 ∨ need / 2 < keys) :
    Calls Try.prog 29 #[.slice a len cap, .int .i64 at', .int .i64 need, .int .i64 keys] w (ReadPost w 1 []) := by
  have hmf : ∀ (fn : Fn) (first cap : Array Value) (w : World), (Instr.makeFunc fn first cap).run Try.prog w = .ok (.func fn first cap) w := fun _ _ _ _ => rfl
  have post : ∀ w', Below w.heap.size w w' → ReadPost w 1 [] (.returned (.tuple #[.slice none 0 0, .int .i64 1])) w' := fun w' hb => ⟨_, rfl, hb, mat_nil _ _⟩
  have POST := Bas.hid post
  clear post
  by_cases h1 : need < 2
  · have d1 : decide (need < 2) = true := by simpa using h1
    clear h
    go_enter Try.func29, Try.ntmps29
    go_wp2_with (fail)
    exact bodyPost_ret (v := .tuple #[.slice none 0 0, .int .i64 1]) (by simp [results, Try.results29, go_sem]) rfl (POST.out _ ((((((Below.refl w.heap.size w).alloc (Nat.le_refl _) _).alloc (by simp) _).alloc (by simp; omega) _).alloc (by simp; omega) _).alloc (by simp; omega) _))
  · have d1 : decide (need < 2) = false := by simpa using h1
    by_cases h2 : keys < 1
    · have d2 : decide (keys < 1) = true := by simpa using h2
      clear h
      go_enter Try.func29, Try.ntmps29
      go_wp2_with (fail)
      exact bodyPost_ret (v := .tuple #[.slice none 0 0, .int .i64 1]) (by simp [results, Try.results29, go_sem]) rfl (POST.out _ ((((((Below.refl w.heap.size w).alloc (Nat.le_refl _) _).alloc (by simp) _).alloc (by simp; omega) _).alloc (by simp; omega) _).alloc (by simp; omega) _))
    · have d2 : decide (keys < 1) = false := by simpa using h2
      have h3 : need / 2 < keys := by omega
      have d3 : decide (need / 2 < keys) = true := by simpa using h3
      have b1 : 0 ≤ need := by omega
      clear h
      go_enter Try.func29, Try.ntmps29
      go_wp2_with (fail)
      exact bodyPost_ret (v := .tuple #[.slice none 0 0, .int .i64 1]) (by simp [results, Try.results29, go_sem]) rfl (POST.out _ ((((((Below.refl w.heap.size w).alloc (Nat.le_refl _) _).alloc (by simp) _).alloc (by simp; omega) _).alloc (by simp; omega) _).alloc (by simp; omega) _))

set_option maxHeartbeats 2000000 in
theorem read_try (a : Option Addr) (len cap : Nat) (bs : List Int) (at' need : Int) (keys : Nat) (good : Bool) (rows : List (List Int)) (code : Int) (out : List (List Int)) (hgt : good = true → code = 0 ∧ out = rows) (hgf : good = false → code = 2 ∧ out = []) (w : World)
    (hr1 : 2 ≤ need) (hr2 : 1 ≤ keys) (hr3 : (keys : Int) ≤ need / 2) (hn2 : need ≤ 9223372036854775807) (hv : VB w a bs)
    (H : ∀ (W : World) (bb ba bd bk bo bt : Nat), VB W a bs → (∀ x, a = some x → 0 < bs.length → x.block ≠ bo) → bt ≠ bo → W.cell? ⟨bb, 0, none⟩ = some (.slice a len cap) → W.cell? ⟨ba, 0, none⟩ = some (.int .i64 at') → W.cell? ⟨bd, 0, none⟩ = some (.int .i64 need) → W.cell? ⟨bk, 0, none⟩ = some (.int .i64 keys) →
      W.cell? ⟨bo, 0, none⟩ = some (.slice none 0 0) → W.frozen? ⟨bo, 0, none⟩ = false → W.heap[bt]? = some (.cells #[.bool false] 4) →
      Calls Try.prog 52 #[.pointer (some ⟨bb, 0, none⟩), .pointer (some ⟨ba, 0, none⟩), .pointer (some ⟨bd, 0, none⟩), .pointer (some ⟨bk, 0, none⟩), .pointer (some ⟨bo, 0, none⟩)] W (TryPost bt (ReadR W bo good rows))) :
    Calls Try.prog 29 #[.slice a len cap, .int .i64 at', .int .i64 need, .int .i64 keys] w (ReadPost w code out) := by
  have hmf : ∀ (fn : Fn) (first cap : Array Value) (w : World), (Instr.makeFunc fn first cap).run Try.prog w = .ok (.func fn first cap) w := fun _ _ _ _ => rfl
  have hcf : ∀ (caps : Array Value) w, (callFunc 52 caps).run Try.prog w = .ok (.enter 52 caps) w := fun caps w => by simp [go_sem]
  have HCF := Bas.hid hcf
  have d1 : decide (need < 2) = false := by simpa using hr1
  have d2 : decide ((keys : Int) < 1) = false := by simp; omega
  have d3 : decide (need / 2 < (keys : Int)) = false := by simpa using hr3
  have b1 : 0 ≤ need := by omega
  have HGT := Bas.hid hgt
  have HGF := Bas.hid hgf
  clear hgt hgf
  have HH := Bas.hid H
  have HV := Bas.hid hv
  clear hcf H hv
  go_enter Try.func29, Try.ntmps29
  go_wp2_with (fail)
  generalize hW : ((((w.alloc (.cells #[.slice a len cap] 26)).alloc (.cells #[.int .i64 at'] 3)).alloc (.cells #[.int .i64 need] 3)).alloc (.cells #[.int .i64 keys] 3)).alloc (.cells #[.slice none 0 0] 75) = W
  have hWs : W.heap.size = w.heap.size + 5 := by rw [← hW]; simp
  have HB : Below w.heap.size w W := by rw [← hW]; exact (((((Below.refl w.heap.size w).alloc (Nat.le_refl _) _).alloc (by simp) _).alloc (by simp; omega) _).alloc (by simp; omega) _).alloc (by simp; omega) _
  have cell : ∀ b o v, b < w.heap.size + 5 → W.cell? ⟨b, o, none⟩ = some v → (W.alloc (.cells #[.bool false] 4)).cell? ⟨b, o, none⟩ = some v := fun b o v hb h => by
    rw [World.cell?_alloc_lt _ _ _ (by show b < _; omega)]; exact h
  have HC := HH.out (W.alloc (.cells #[.bool false] 4)) w.heap.size (w.heap.size + 1) (w.heap.size + 1 + 1) (w.heap.size + 1 + 1 + 1) (w.heap.size + 1 + 1 + 1 + 1) W.heap.size ((HV.out.below HB).below ((Below.refl _ _).alloc (Nat.le_refl _) _))
    (fun x hx hp => by
      obtain ⟨b, o, h1, h2⟩ := HV.out.cell 0 hp
      have := World.block_lt_of_cell? _ _ h2
      rw [h1] at hx
      cases hx
      show b ≠ _
      have h3 : b < w.heap.size := this
      omega) (by omega)
    (cell _ _ _ (by omega) (by rw [← hW]; simp [go_sem])) (cell _ _ _ (by omega) (by rw [← hW]; simp [go_sem])) (cell _ _ _ (by omega) (by rw [← hW]; simp [go_sem])) (cell _ _ _ (by omega) (by rw [← hW]; simp [go_sem])) (cell _ _ _ (by omega) (by rw [← hW]; simp [go_sem]))
    (by rw [frozen?_alloc_cells, ← hW]; simp [go_sem]) (Bas.heap_new _ _)
  clear HH cell hW
  refine (try_any 52 _ W _ (HCF.out _) HC).mono ?_
  clear HC HCF
  rintro e w5 ⟨ok, w2, rfl, ⟨hg2, hok, hfz2, v, hcv, hm⟩, hlt2, hg5⟩
  subst hok
  have hs2 := hg2.size
  simp only [World.size_alloc] at hs2
  have hs5 := hg5.size
  have hcv5 : w5.cell? ⟨w.heap.size + 1 + 1 + 1 + 1, 0, none⟩ = some v := (Bas.gcell hg5 (by omega) (by simp; omega)).trans hcv
  have hfz5 : w5.frozen? ⟨w.heap.size + 1 + 1 + 1 + 1, 0, none⟩ = false := by
    rw [Bas.gfrozen hg5 (by omega) (by simp; omega)]
    exact hfz2
  have HB5 : Below w.heap.size w w5 := Bas.below_g (Bas.below_g (HB.alloc HB.size _) hg2 (by simp; omega) (by omega)) hg5 (by omega) (by omega)
  have hm5 : ok = true → ∀ u, Mat (w5.setCell ⟨w.heap.size + 1 + 1 + 1 + 1, 0, none⟩ u) w.heap.size v rows := fun h u => by
    refine mat_base (mat_keep (hm h) (fun g h1 h2 => ?_) (by simp [World.setCell]; omega)) (by simp; omega)
    simp only [World.size_alloc] at h1
    exact (Below.heap_setCell _ _ _ _ (by show g ≠ w.heap.size + 1 + 1 + 1 + 1; omega)).trans (hg5.block g h2 (by simp; omega))
  have HM := Bas.hid hm5
  have HMS := Bas.hid (fun h => mat_slice (hm h))
  clear hcv hfz2 hm hm5 hg2 hg5
  cases ok with
  | false =>
    obtain ⟨rfl, rfl⟩ := HGF.out rfl
    clear HMS HM HGT HGF
    go_wp2_with (fail)
    exact bodyPost_ret (v := .tuple #[.slice none 0 0, .int .i64 2]) (by simp [results, Try.results29, go_sem, hcv5]) rfl ⟨_, rfl, HB5.setCell (by simp; omega) _, mat_nil _ _⟩
  | true =>
    obtain ⟨rfl, rfl⟩ := HGT.out rfl
    obtain ⟨ad, cp, hv'⟩ := HMS.out rfl
    subst hv'
    have HM2 := Bas.hid (HM.out rfl)
    clear HMS HM HGT HGF
    go_wp2_with (fail)
    exact bodyPost_ret (v := .tuple #[.slice ad out.length cp, .int .i64 0]) (by simp [results, Try.results29, go_sem, hcv5]) rfl ⟨_, rfl, HB5.setCell (by simp; omega) _, HM2.out _⟩

/-- The rows that are read. -/
def readRows (bs : List Int) (at' : Int) (keys : Nat) : List (List Int) :=
  rowL bs at'.toNat (be bs at'.toNat 2).toNat (rowCount bs at'.toNat (be bs at'.toNat 2).toNat (be bs (at'.toNat + 2) 2).toNat keys)

theorem read_yes (a : Option Addr) (len cap : Nat) (bs : List Int) (at' need : Int) (keys : Nat) (w : World) (hl : len ≤ cap) (hc : cap ≤ maxLen) (hbl : bs.length = len) (hsmall : len ≤ 140737488355)
    (hr1 : 2 ≤ need) (hr2 : 1 ≤ keys) (hr3 : (keys : Int) ≤ need / 2) (hn2 : need ≤ 9223372036854775807) (hv : VB w a bs) (ht : takeB len bs at' need) :
    Calls Try.prog 29 #[.slice a len cap, .int .i64 at', .int .i64 need, .int .i64 keys] w (ReadPost w 0 (readRows bs at' keys)) := by
  obtain ⟨h0, h1, h2, h3⟩ := ht
  obtain ⟨p, rfl⟩ := Int.eq_ofNat_of_zero_le h0
  have hbs := be2_bd bs hv.byte p (by omega)
  have hbn := be2_bd bs hv.byte (p + 2) (by omega)
  simp only [Int.toNat_natCast] at h2 h3
  have hs : be bs p 2 = ((be bs p 2).toNat : Int) := by omega
  have hn : be bs (p + 2) 2 = ((be bs (p + 2) 2).toNat : Int) := by omega
  unfold readRows
  rw [Int.toNat_natCast]
  generalize (be bs p 2).toNat = s at *
  generalize (be bs (p + 2) 2).toNat = n at *
  rw [hs] at h2 h3
  rw [hn] at h3
  exact read_try a len cap bs p need keys true _ 0 _ (fun _ => ⟨rfl, rfl⟩) (fun h => by cases h) w hr1 hr2 hr3 hn2 hv fun W bb ba bd bk bo bt hvW hb1 hb2 c1 c2 c3 c4 c5 c6 c7 =>
    read1_yes a len cap bs p s n keys need bb ba bd bk bo bt W hl hc hvW hbl c1 c2 c3 c4 c5 c6 hb1 hb2 c7 (by omega) hs hn h2 (by omega) (by omega) h3 hsmall

theorem read_no (a : Option Addr) (len cap : Nat) (bs : List Int) (at' need : Int) (keys : Nat) (w : World) (hl : len ≤ cap) (hc : cap ≤ maxLen) (hbl : bs.length = len)
    (hr1 : 2 ≤ need) (hr2 : 1 ≤ keys) (hr3 : (keys : Int) ≤ need / 2) (hn2 : need ≤ 9223372036854775807) (hv : VB w a bs) (ht : ¬ takeB len bs at' need) :
    Calls Try.prog 29 #[.slice a len cap, .int .i64 at', .int .i64 need, .int .i64 keys] w (ReadPost w 2 []) :=
  read_try a len cap bs at' need keys false [] 2 [] (fun h => by cases h) (fun _ => ⟨rfl, rfl⟩) w hr1 hr2 hr3 hn2 hv fun W bb ba bd bk bo bt hvW _ _ c1 c2 c3 c4 c5 c6 c7 =>
    read1_no a len cap bs at' need keys bb ba bd bk bo bt W [] hl hc hvW hbl c1 c2 c3 c4 c5 c6 c7 ht
end Sk
end Go.Proofs.Ytgddghplhdmfdaa
