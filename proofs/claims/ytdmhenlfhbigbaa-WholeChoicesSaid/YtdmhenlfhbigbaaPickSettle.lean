/- Layer 9 (pick): Right, Settle. -/
import Derived.Test.YtdmhenlfhbigbaaPickSettleD
import Derived.Shelf.SlSortCmp.NoneTotal
import Derived.Test.YtdmhenlfhbigbaaRowC
namespace Go.Proofs.Ytdmhenlfhbigbaa
open Go.RowKit
namespace Pk
open Ch Ft Go.Maps

set_option maxHeartbeats 2000000 in
theorem right_any (t v : Int) (w : World) : Calls Try.prog 20 #[.agg #[.int .i64 t, .int .i64 v]] w fun e w' => e = .returned (.bool (rightB (t, v))) ∧ Below w.heap.size w w' := by
  have HB := Bas.hid ((Below.refl w.heap.size w).alloc (Nat.le_refl _) (.cells #[.int .i64 t, .int .i64 v] 27))
  by_cases h1 : 0 ≤ t
  · have a1 : decide (t ≥ 0) = true := decide_eq_true h1
    have b1 : decide (0 ≤ t) = true := decide_eq_true h1
    by_cases h2 : t ≤ 65535
    · have a2 : decide (t ≤ 65535) = true := decide_eq_true h2
      by_cases h3 : 0 ≤ v
      · have a3 : decide (v ≥ 0) = true := decide_eq_true h3
        have b3 : decide (0 ≤ v) = true := decide_eq_true h3
        by_cases h4 : v ≤ 65535
        · have a4 : decide (v ≤ 65535) = true := decide_eq_true h4
          have hr : rightB (t, v) = true := decide_eq_true ⟨h1, h2, h3, h4⟩
          rw [hr]
          clear h1 h2 h3 h4 hr
          go_enter Try.func20, Try.ntmps20
          go_wp2_with (fail)
          go_ret
          exact ⟨rfl, HB.out⟩
        · have a4 : decide (v ≤ 65535) = false := decide_eq_false h4
          have hr : rightB (t, v) = false := decide_eq_false (fun h => h4 h.2.2.2)
          rw [hr]
          clear h1 h2 h3 h4 hr
          go_enter Try.func20, Try.ntmps20
          go_wp2_with (fail)
          go_ret
          exact ⟨rfl, HB.out⟩
      · have a3 : decide (v ≥ 0) = false := decide_eq_false h3
        have b3 : decide (0 ≤ v) = false := decide_eq_false h3
        have hr : rightB (t, v) = false := decide_eq_false (fun h => h3 h.2.2.1)
        rw [hr]
        clear h1 h2 h3 hr
        go_enter Try.func20, Try.ntmps20
        go_wp2_with (fail)
        go_ret
        exact ⟨rfl, HB.out⟩
    · have a2 : decide (t ≤ 65535) = false := decide_eq_false h2
      have hr : rightB (t, v) = false := decide_eq_false (fun h => h2 h.2.1)
      rw [hr]
      clear h1 h2 hr
      go_enter Try.func20, Try.ntmps20
      go_wp2_with (fail)
      go_ret
      exact ⟨rfl, HB.out⟩
  · have a1 : decide (t ≥ 0) = false := decide_eq_false h1
    have b1 : decide (0 ≤ t) = false := decide_eq_false h1
    have hr : rightB (t, v) = false := decide_eq_false (fun h => h1 h.1)
    rw [hr]
    clear h1 hr
    go_enter Try.func20, Try.ntmps20
    go_wp2_with (fail)
    go_ret
    exact ⟨rfl, HB.out⟩

theorem sort_none (w : World) : Calls Try.prog 24 #[.slice none 0 0, .func (.func 25) #[] #[]] w fun e w' => e = .returned (.tuple #[]) ∧ w' = w :=
  AnyF.slices_SortFunc_none sortSt none 0 _ w

theorem map_below {w w' : World} {b n : Nat} {D : DataW Unit} (h : w.ownsMap Try.prog 27 readS b n D) (hb : Below w.heap.size w w') : w'.ownsMap Try.prog 27 readS b n D :=
  h.kept (Bas.gbelow (Bas.grefl w none) hb) (by simp)

theorem infoS : (Try.prog.info? 27).map (fun i => (i.zero, i.size, i.bytes)) = some (some (.agg #[.int .i64 0, .int .i64 0]), 2, 16) := by kernel_rfl
theorem own_map {w : World} {base size n m b : Nat} {e : TypeId} {v : Value} {xs : List Value} {D : DataW Unit} (h : w.ownsRow base e size v n xs) (hm : w.ownsMap Try.prog 27 readS b m D) : some b ≠ v.ownBlock := by
  intro he
  obtain ⟨_, ⟨rfl, _⟩ | ⟨g', cp, cur, rfl, _, hh, _⟩⟩ := h
  · cases he
  · cases he
    obtain ⟨es, clock, hb, _⟩ := hm
    rw [hh] at hb; cases hb
theorem own_iter {w : World} {base size n m b r cnt : Nat} {e : TypeId} {v : Value} {xs : List Value} {D : DataW Unit} {left : Lit → Bool} (h : w.ownsRow base e size v n xs) (hm : w.ranges Try.prog 27 readS b r m D left cnt) : some r ≠ v.ownBlock := by
  intro he
  obtain ⟨_, ⟨rfl, _⟩ | ⟨g', cp, cur, rfl, _, hh, _⟩⟩ := h
  · cases he
  · cases he
    obtain ⟨es, clock, since, seen, c0, _, _, _, _, hr, _⟩ := hm
    rw [hh] at hr; cases hr

set_option maxRecDepth 100000 in
set_option maxHeartbeats 8000000 in
theorem settle_any (a : Option Addr) (len cap : Nat) (l : List (Int × Int)) (fv : Value) (fs : List FeatD) (ss : List Value) (fb : Nat) (w : World) (hl : Row.Leads w (.slice a len cap) len (l.flatMap setC)) (hn : l.length = len) (hlen : len ≤ 100000) (hf : FRow w fb fv fs ss) (hfl : fs.length ≤ 1000000000) (hwf : ∀ s ∈ l, wf64 s) :
    Calls Try.prog 9 #[.slice a len cap, fv] w fun e w' => ∃ v ys, e = .returned v ∧ IsSet fs l ys ∧ w'.ownsRow w.heap.size 27 2 v ys.length (ys.flatMap setC) ∧ Below w.heap.size w w' := by
  have hmm := @run_makeMap Try.prog
  have HL := Bas.hid hl
  have HN := Bas.hid hn
  have HF := Bas.hid hf
  have HWF := Bas.hid hwf
  have HFL := Bas.hid hfl
  obtain ⟨fa, fc, rfl⟩ := own_slice hf.own
  clear hl hn hf hwf hfl
  go_enter Try.func9, Try.ntmps9
  go_wp2_with (fail)
  go_loopw [14] (fun vi wr => ∃ i : Nat, i ≤ len ∧ vi = .int .i64 i ∧ wr.ownsMap Try.prog 27 readS w.heap.size i (Dm fs (l.take i)) ∧ Below w.heap.size w wr) (fun vi _ => len - (intOf vi).toNat)
  case atStart => exact ⟨0, Nat.zero_le _, rfl, World.ownsMap_made _ _ _ _, (Below.refl _ _).alloc (Nat.le_refl _) _⟩
  case round =>
    obtain ⟨i, hi, rfl, hown, hb⟩ := hrel
    have HO := Bas.hid hown
    have HB := Bas.hid hb
    clear hown hb
    by_cases hin : i < len
    · have e1 : decide ((i : Int) < (len : Int)) = true := by simp; omega
      have e2 : decide (i < len) = true := by simp; omega
      obtain ⟨s, hs⟩ : ∃ s, l[i]? = some s := ⟨_, List.getElem?_eq_getElem (by rw [HN.out]; exact hin)⟩
      obtain ⟨t, v⟩ := s
      obtain ⟨B, Of, cp0, hv0, hcl⟩ := Row.leads_elem setC_len HL.out hs (by omega)
      cases hv0
      have h0 := hcl 0 _ rfl
      have h1 := hcl 1 _ rfl
      simp only [Nat.add_zero] at h0
      have c0 := (HB.out.cell (p := ⟨B, Of + i * 2, none⟩) (World.block_lt_of_cell? _ _ h0)).trans h0
      have c1 := (HB.out.cell (p := ⟨B, Of + i * 2 + 1, none⟩) (World.block_lt_of_cell? _ _ h1)).trans h1
      have HW := Bas.hid (HWF.out _ (List.mem_of_getElem? hs))
      have hTK : l.take (i + 1) = l.take i ++ [(t, v)] := by rw [List.take_add_one, hs]; rfl
      have hTKE := Bas.hid hTK
      clear hs hcl h0 h1 hTK
      go_wp2_with (fail)
      have k7 := Bas.heap_new wr (.cells #[.int .i64 t, .int .i64 v] 27)
      have HB1 := Bas.hid (HB.out.alloc HB.out.size (.cells #[.int .i64 t, .int .i64 v] 27))
      have HO1 := Bas.hid (HO.out.alloc (.cells #[.int .i64 t, .int .i64 v] 27))
      generalize wr.alloc (.cells #[.int .i64 t, .int .i64 v] 27) = W1 at *
      generalize wr.heap.size = T7 at *
      clear c0 c1 HB HO
      refine (right_any t v W1).mono ?_
      rintro e w2 ⟨rfl, hb2⟩
      have k72 := (hb2.block _ (heap_lt k7)).trans k7
      have HB2 := Bas.hid (HB1.out.trans (hb2.mono HB1.out.size))
      have HO2 := Bas.hid (map_below HO1.out hb2)
      clear hb2 HB1 HO1 k7
      have hsn := Dm_snoc fs (l.take i) (t, v)
      rw [← hTKE.out] at hsn
      obtain ⟨rb, hrb⟩ : ∃ rb, rightB (t, v) = rb := ⟨_, rfl⟩
      have HRB := Bas.hid hrb
      rw [hrb] at hsn ⊢
      clear hrb
      cases rb with
      | false =>
        simp only [if_false, Bool.false_eq_true] at hsn
        have HSN := Bas.hid hsn
        clear hsn
        go_wp2_with (fail)
        go_roundw
        case rel => exact ⟨i + 1, by omega, by go_num, by rw [HSN.out]; exact HO2.out.mono (by omega), HB2.out⟩
        case measure => simp [intOf]; omega
      | true =>
        simp only [if_true] at hsn
        have HSN := Bas.hid hsn
        clear hsn
        have q0 := cell_of_heap (i := 0) (v := .int .i64 t) k72 rfl
        have q1 := cell_of_heap (i := 1) (v := .int .i64 v) k72 rfl
        go_wp2_with (fail)
        have hrt := of_decide_eq_true HRB.out
        obtain ⟨rt0, rt1, rv0, rv1⟩ := hrt
        simp only at rt0 rt1 rv0 rv1
        refine (excl_any (.slice fa fs.length fc) fs ss fb t w2 (fRow_below HF.out HB2.out) HFL.out).mono ?_
        rintro e w3 ⟨rfl, hb3⟩
        have k73 := (hb3.block _ (heap_lt k72)).trans k72
        have HB3 := Bas.hid (HB2.out.trans (hb3.mono HB2.out.size))
        have HO3 := Bas.hid (map_below HO2.out hb3)
        clear hb3 HB2 HO2 k72 q0 q1
        have p0 := cell_of_heap (i := 0) (v := .int .i64 t) k73 rfl
        have p1 := cell_of_heap (i := 1) (v := .int .i64 v) k73 rfl
        have hck : ck fs (t, v) = if exclL fs t then (t, -1) else (t, v / 2) := rfl
        have hcw := ck_wf fs (t, v) HRB.out
        obtain ⟨x, hx⟩ : ∃ x, exclL fs t = x := ⟨_, rfl⟩
        rw [hx] at hck ⊢
        clear hx
        cases x with
        | true =>
          simp only [if_true] at hck
          rw [hck] at HSN hcw
          have HKEY := Bas.hid (keyOf_set _ hcw)
          clear hck hcw
          go_wp2_with (at_mapUpdate; refine Row.fence ?_)
          refine Row.unfence ?_
          refine wpList_mapUpdate_own _ rfl _ _ _ 62 rfl 27 27 keyed Try.underlying62 _ w.heap.size i _ rfl HO3.out (by unfold maxLen; omega) _ _ _ rfl rfl HKEY.out _ [] (readS_mk (t, v)) ?_
          intro w4 hown4 hgrow4
          have HB4 := Bas.hid (HB3.out.grown hgrow4 HB3.out.size (fun j hj => by cases hj; exact Nat.le_refl _))
          have HO4 := Bas.hid hown4
          clear hown4 hgrow4 HB3 HO3 HKEY p0 p1 k73
          go_wp2_with (fail)
          go_roundw
          case rel => exact ⟨i + 1, by omega, by go_num, by rw [HSN.out]; exact HO4.out, HB4.out⟩
          case measure => simp [intOf]; omega
        | false =>
          simp only [if_false, Bool.false_eq_true] at hck
          rw [hck] at HSN hcw
          have HKEY := Bas.hid (keyOf_set _ hcw)
          have hdv : v.tdiv 2 = v / 2 := Int.tdiv_eq_ediv_of_nonneg rv0
          clear hck hcw
          go_wp2_with (at_mapUpdate; refine Row.fence ?_)
          refine Row.unfence ?_
          refine wpList_mapUpdate_own _ rfl _ _ _ 62 rfl 27 27 keyed Try.underlying62 _ w.heap.size i _ rfl HO3.out (by unfold maxLen; omega) _ _ _ rfl rfl HKEY.out _ [] (readS_mk (t, v)) ?_
          intro w4 hown4 hgrow4
          have HB4 := Bas.hid (HB3.out.grown hgrow4 HB3.out.size (fun j hj => by cases hj; exact Nat.le_refl _))
          have HO4 := Bas.hid hown4
          clear hown4 hgrow4 HB3 HO3 HKEY p0 p1 k73
          go_wp2_with (fail)
          go_roundw
          case rel => exact ⟨i + 1, by omega, by go_num, by rw [HSN.out]; exact HO4.out, HB4.out⟩
          case measure => simp [intOf]; omega
    · have hin2 : i = len := by omega
      subst hin2
      have hlt : l.take i = l := List.take_of_length_le (by rw [HN.out]; exact Nat.le_refl _)
      rw [hlt] at HO
      have HM0 := Bas.hid (met_start fs l)
      clear hlt
      go_wp2_with (at_range; refine Row.fence ?_)
      refine Row.unfence ?_
      refine wpList_range_own _ rfl _ 62 rfl 27 27 keyed Try.underlying62 _ w.heap.size i _ rfl HO.out ?_
      intro w0 hrg0 hg0 hs0
      go_frame
      have HB0 := Bas.hid (HB.out.grown hg0 HB.out.size (fun j hj => by cases hj))
      have hwr : w.heap.size ≤ wr.heap.size := HB.out.size
      obtain ⟨r, hr⟩ : ∃ r, wr.heap.size = r := ⟨_, rfl⟩
      rw [hr] at hrg0 hwr ⊢
      have HR0 := Bas.hid hrg0
      clear hr hrg0 hg0 hs0 HB HO
      go_wp2_with (fail)
      go_loopw [8] (fun vb wq => ∃ (left : Lit → Bool) (cnt : Nat) (xs : List (Int × Int)) (v8 : Value), v8 = vb ∧ wq.ranges Try.prog 27 readS w.heap.size r i (Dm fs l) left cnt ∧ Met fs l left xs ∧ wq.ownsRow w.heap.size 27 2 v8 xs.length (xs.flatMap setC) ∧ Below w.heap.size w wq) (fun _ wq => wq.rangeLeft w.heap.size r)
      case atStart => exact ⟨_, _, [], _, rfl, HR0.out, HM0.out, Row.owned_nil _ _ _ _, HB0.out⟩
      case round =>
        obtain ⟨left, cnt, xs, v8, hv8, hrg, hmet, hown, hb⟩ := hrel
        rw [← hv8]
        clear hv8
        have HRG := Bas.hid hrg
        have HME := Bas.hid hmet
        have HO := Bas.hid hown
        have HB := Bas.hid hb
        clear hrg hmet hown hb HR0 HM0 HB0
        go_wp2_with (at_next; refine Row.fence ?_)
        refine Row.unfence ?_
        refine wpList_next_ranges _ rfl _ rfl 27 keyed readS setV setV (fun key kk h => by obtain ⟨s, _, h2, _⟩ := keyOf_set_inv h; exact ⟨s, h2⟩) (fun v y h => by obtain ⟨s, h1, _⟩ := readS_inv h; exact ⟨s, h1⟩) w.heap.size r i _ _ _ rfl HRG.out ?_ ?_
        · intro hc0 hl0
          have HL0 := Bas.hid hl0
          go_frame
          clear hc0 hl0
          go_wp2_with (fail)
          have hO := HO.out
          have hml := met_len HME.out
          obtain ⟨hlx, ⟨h8, hx0⟩ | ⟨g, cp, cur, h8, hgb, hh, hnc, hmc, hcs, htk⟩⟩ := hO
          · subst h8
            have hxn : xs = [] := List.length_eq_zero_iff.1 hx0
            subst hxn
            have HIS := Bas.hid (met_end HME.out HL0.out (List.Perm.refl []) List.Pairwise.nil)
            clear hlx hx0 hml
            refine (sort_none wr).mono ?_
            rintro e w2 ⟨rfl, rfl⟩
            go_wp2_with (fail)
            go_ret
            exact ⟨_, [], rfl, HIS.out, Row.owned_nil _ _ _ _, HB.out⟩
          · subst h8
            have HST := Bas.hid (sort_any w.heap.size g cp xs wr HO.out (by rw [HN.out] at hml; omega))
            have HGB := Bas.hid hgb
            clear hlx hgb hh hnc hmc hcs htk hml
            refine HST.out.mono ?_
            rintro e w2 ⟨rfl, ys, hperm, hris, hown2, hgr⟩
            have HIS := Bas.hid (met_end HME.out HL0.out hperm hris)
            have HO2 := Bas.hid hown2
            have HB2 := Bas.hid (HB.out.grown hgr HB.out.size (fun j hj => by cases hj; exact HGB.out))
            have HPL := Bas.hid hperm.length_eq
            clear hperm hris hown2 hgr HST HO HB
            go_wp2_with (fail)
            go_ret
            exact ⟨_, ys, rfl, HIS.out, by rw [← HPL.out]; exact HO2.out, HB2.out⟩
        · intro x c kk y w1 cnt1 hkey hlx hry hat hrg1 hlt hg1 hs1 hen
          obtain ⟨x', hwx, hxe, rfl⟩ := keyOf_set_inv hkey
          have hxx : x = x' := by simp [setV] at hxe; exact Prod.ext hxe.1 hxe.2
          subst hxx
          rw [readS_mk] at hry
          cases hry
          have HME2 := Bas.hid (met_step HME.out hwx hlx hat)
          have HRG1 := Bas.hid hrg1
          have HLT := Bas.hid hlt
          have HO1 := Bas.hid (Row.owned_keep HO.out fun g hg => hg1.block g (Row.own_block HO.out hg).2 (fun e => own_iter HO.out HRG.out (by rw [hg]; exact e.symm)))
          have hrw : w.heap.size ≤ r := hwr
          have HB1 := Bas.hid (HB.out.grown hg1 HB.out.size (fun j hj => by cases hj; exact hrw))
          clear hkey hlx hat hrg1 hlt hg1 hs1 hxe hwx HME HB HO
          go_frame
          obtain ⟨ct, cv⟩ := c
          obtain ⟨xt, xv⟩ := x
          simp only [setV] at hen ⊢
          go_wp2_with (at_builtin; refine Row.fence ?_)
          refine Row.unfence ?_
          have kX := Bas.heap_new2 w1 (.cells #[.int .i64 ct, .int .i64 cv] 27) (.cells #[.int .i64 ct, .int .i64 cv] 27)
          have HRX := Bas.hid ((HRG1.out.alloc (.cells #[.int .i64 ct, .int .i64 cv] 27)).alloc (.cells #[.int .i64 ct, .int .i64 cv] 27))
          have hbX : Below w1.heap.size w1 ((w1.alloc (.cells #[.int .i64 ct, .int .i64 cv] 27)).alloc (.cells #[.int .i64 ct, .int .i64 cv] 27)) := ((Below.refl _ _).alloc (Nat.le_refl _) _).alloc (by simp) _
          have HBX := Bas.hid (HB1.out.trans (hbX.mono HB1.out.size))
          have HOX := Bas.hid (Row.owned_below HO1.out hbX)
          have hml := met_len HME2.out
          rw [HN.out, List.length_append] at hml
          simp only [List.length_cons, List.length_nil] at hml
          generalize (w1.alloc (.cells #[.int .i64 ct, .int .i64 cv] 27)).alloc (.cells #[.int .i64 ct, .int .i64 cv] 27) = X at *
          generalize w1.heap.size = T1 at *
          refine (Row.append_any rfl _ _ 23 27 rfl (.agg #[.int .i64 0, .int .i64 0]) 2 16 Try.underlying23 infoS rfl (by decide) w.heap.size v8 xs.length _ rfl HOX.out (.slice (some ⟨T1 + 1, 0, none⟩) 1 1) 1 [.int .i64 ct, .int .i64 cv] rfl (leads_heap kX) rfl (by simp; exact ⟨rfl, rfl⟩) (by unfold maxLen; omega) (by omega) HBX.out.size ?_)
          intro v9 w9 hown9 hg9 _
          have HR9 := Bas.hid (HRX.out.kept hg9 (own_map HOX.out HRX.out.owns) (own_iter HOX.out HRX.out))
          have HB9 := Bas.hid (HBX.out.grown hg9 HBX.out.size (fun j hj => (Row.own_block HOX.out hj).1))
          have ho9 : w9.ownsRow w.heap.size 27 2 v9 (xs ++ [(ct, cv)]).length ((xs ++ [(ct, cv)]).flatMap setC) := by
            rw [List.length_append, List.flatMap_append]; exact hown9
          have HO9 := Bas.hid ho9
          clear hown9 hg9 ho9 HOX HBX HRX HB1 HO1 HRG1 kX hbX hen
          go_wp2_with (fail)
          go_roundw
          case rel => exact ⟨_, cnt1, xs ++ [(ct, cv)], v9, rfl, HR9.out, HME2.out, HO9.out, HB9.out⟩
          case measure => rw [HR9.out.left_eq, HRG.out.left_eq]; exact HLT.out
end Pk
end Go.Proofs.Ytdmhenlfhbigbaa
