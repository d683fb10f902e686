/- Layer 2 (sfnt): take, of a font. -/
import Derived.Test.YtkmbeohheblhhaaFontIs
import Derived.Test.YtkmbeohheblhhaaRegD
namespace Go.Proofs.Ytkmbeohheblhhaa
open Go.RowKit
namespace Fo
open Vw Wr

structure TabE where
  tag : ByteArray
  at' : Nat
  len : Nat
def tabC (x : TabE) : List Value := [.string x.tag, .int .i64 x.at', .int .i64 x.len]
theorem tabC_len (x : TabE) : (tabC x).length = 3 := rfl
def tabAt (P : List PartD) (i : Nat) : TabE := ⟨(P.getD i default).tag, atM P i, (P.getD i default).data.length⟩
def tabsM (P : List PartD) : List TabE := (List.range P.length).map (tabAt P)
theorem tabsM_len (P : List PartD) : (tabsM P).length = P.length := by simp [tabsM]
theorem tabsM_get (P : List PartD) (i : Nat) (p : PartD) (h : P[i]? = some p) : (tabsM P)[i]? = some ⟨p.tag, atM P i, p.data.length⟩ := by
  have hi : i < P.length := (List.getElem?_eq_some_iff.1 h).1
  unfold tabsM
  rw [List.getElem?_map, List.getElem?_range hi]
  simp only [Option.map_some, tabAt, List.getD_eq_getElem?_getD, h, Option.getD_some]

theorem str_tagB (s : ByteArray) : strOfNums (tagB s) = s := by
  unfold strOfNums tagB
  rw [List.map_map]
  have : (s.data.toList.map ((fun n : Int => UInt8.ofNat n.toNat) ∘ fun x => (x.toNat : Int))) = s.data.toList := by
    conv => rhs; rw [← List.map_id s.data.toList]
    refine List.map_congr_left fun x _ => ?_
    simp
  rw [this]
theorem written {w : World} {base : Nat} {v : Value} {bs : List Int} (h : w.ownsRow base 5 1 v bs.length (bs.map (Value.int .u8))) (h0 : 0 < bs.length) (hb : ∀ x ∈ bs, 0 ≤ x ∧ x ≤ 255) (hl : bs.length ≤ 1000000000) :
    ∃ g cap, v = .slice (some ⟨g, 0, none⟩) bs.length cap ∧ bs.length ≤ cap ∧ cap ≤ maxLen ∧ VB w (some ⟨g, 0, none⟩) bs := by
  obtain ⟨g, cg, hv, _, _, hgc, hgm, hvg, _⟩ := owned h (fun e => by
    rcases Row.owned_parts h with ⟨_, h1, _⟩ | ⟨_, _, h1, _⟩
    · omega
    · rw [h1] at e; cases e) rfl hb (by omega)
  exact ⟨g, cg, hv, hgc, hgm, hvg⟩

theorem infoT : (Try.prog.info? 52).map (fun i => (i.zero, i.size, i.bytes)) = some (some (.agg #[.string ⟨#[]⟩, .int .i64 0, .int .i64 0]), 3, 32) := by kernel_rfl

def STakeP (w : World) (P : List PartD) (e : Ending) (w' : World) : Prop :=
  Below w.heap.size w w' ∧ ∃ v, e = .returned v ∧ w'.ownsRow w.heap.size 52 3 v P.length ((tabsM P).flatMap tabC)

set_option maxRecDepth 100000 in
set_option maxHeartbeats 16000000 in
theorem stake_ok (a : Option Addr) (len cap : Nat) (bs : List Int) (P : List PartD) (w : World) (hl : len ≤ cap) (hc : cap ≤ maxLen) (hv : VB w a bs) (hbl : bs.length = len) (hF : IsFont bs P) :
    Calls Try.prog 35 #[.agg #[.slice a len cap]] w (STakeP w P) := by
  have hlen := hF.len
  have hfew := hF.few
  rw [hbl] at hlen hfew
  obtain ⟨n, hn⟩ : ∃ n, P.length = n := ⟨_, rfl⟩
  have hmany := hF.many
  rw [hn] at hlen hmany
  have U0 := fun w' (hb : Below w.heap.size w w') => u32_ok a len cap bs 0 w' hl hc (hv.below hb) hbl (by omega) (by omega)
  have U4 := fun w' (hb : Below w.heap.size w w') => u16_ok a len cap bs 4 w' hl hc (hv.below hb) hbl (by omega) (by omega)
  have R := fun w' => rows_ok a len cap 12 n 16 w' hl hc ⟨by omega, by omega, .inr (by omega), by omega, by omega⟩
  have z0 : (0 : Int).toNat = 0 := rfl
  have z4 : (4 : Int).toNat = 4 := rfl
  have z12 : (12 : Int).toNat = 12 := rfl
  have z16 : ((n : Int) * 16).toNat = n * 16 := by omega
  simp only [z0, z4, z12, z16] at U0 U4 R
  rw [hF.kind] at U0
  rw [hmany] at U4
  have HU0 := Bas.hid U0
  have HU4 := Bas.hid U4
  have HR := Bas.hid R
  have HV := Bas.hid hv
  have HF := Bas.hid hF
  have HN := Bas.hid hn
  have HBL := Bas.hid hbl
  have hRV := fun w' (hb : Below w.heap.size w w') => (hv.below hb).sub 12 (n * 16) (by omega)
  have HRV := Bas.hid hRV
  have hRl : ((bs.drop 12).take (n * 16)).length = n * 16 := by rw [List.length_take, List.length_drop]; omega
  have HRL := Bas.hid hRl
  have HAL := Bas.hid ((Below.refl w.heap.size w).alloc (Nat.le_refl _) (.cells #[.slice a len cap] 48))
  have k1 := Bas.heap_new w (.cells #[.slice a len cap] 48)
  clear U0 U4 R hv hF hn hmany z0 z4 z12 z16 hRV hRl hbl
  go_enter Try.func35, Try.ntmps35
  go_wp2_with (fail)
  generalize w.alloc (.cells #[.slice a len cap] 48) = W at *
  refine (HU0.out _ HAL.out).mono ?_
  rintro e w1 ⟨rfl, hb1⟩
  have k2 := (hb1.block _ (heap_lt k1)).trans k1
  have HB1 := Bas.hid (HAL.out.trans (hb1.mono HAL.out.size))
  clear hb1 k1 HU0 HAL
  have c1 := cell_of_heap (i := 0) (v := .slice a len cap) k2 rfl
  go_wp2_with (go_at_call 31; refine (need_yesb _ _ (by first | rfl | (simp; done))).mono ?_; rintro e w' ⟨rfl, rfl⟩)
  refine (HU4.out _ HB1.out).mono ?_
  rintro e w2 ⟨rfl, hb2⟩
  have k1 := (hb2.block _ (heap_lt k2)).trans k2
  have HB2 := Bas.hid (HB1.out.trans (hb2.mono HB1.out.size))
  clear hb2 k2 HU4 HB1 c1
  have c1 := cell_of_heap (i := 0) (v := .slice a len cap) k1 rfl
  go_wp2_with (fail)
  refine (HR.out _).mono ?_
  rintro e w3 ⟨rfl, hb3⟩
  have k2 := (hb3.block _ (heap_lt k1)).trans k1
  have HB3 := Bas.hid (HB2.out.trans (hb3.mono HB2.out.size))
  clear hb3 k1 HR HB2 c1
  generalize sub a 12 (n * 16) = R at *
  go_wp2_with (fail)
  have k1 := (Below.heap_alloc w3 (.cells #[.slice R (n * 16) (n * 16)] 48) _ (heap_lt k2)).trans k2
  have k5 := Bas.heap_new w3 (.cells #[.slice R (n * 16) (n * 16)] 48)
  have HB4 := Bas.hid (HB3.out.alloc HB3.out.size (.cells #[.slice R (n * 16) (n * 16)] 48))
  have h15 : w.heap.size < w3.heap.size := heap_lt k2
  generalize w3.alloc (.cells #[.slice R (n * 16) (n * 16)] 48) = W4 at *
  generalize w3.heap.size = T5 at *
  clear k2 HB3
  go_loopw [6, 25] (fun vs vi wr => ∃ (i : Nat) (vT : Value), i ≤ n ∧ vi = .int .i64 i ∧ vs = vT ∧ wr.ownsRow w.heap.size 52 3 vT i (((tabsM P).take i).flatMap tabC) ∧ Below w.heap.size w wr ∧ wr.heap[w.heap.size]? = some (.cells #[.slice a len cap] 48 (0, 0)) ∧ wr.heap[T5]? = some (.cells #[.slice R (n * 16) (n * 16)] 48 (0, 0))) (fun _ vi _ => n - (intOf vi).toNat)
  case atStart => exact ⟨0, _, Nat.zero_le _, rfl, rfl, Row.owned_nil _ _ _ _, HB4.out, k1, k5⟩
  case round =>
    obtain ⟨i, vT, hi, rfl, rfl, hown, hb, o1, o5⟩ := hrel
    have HO := Bas.hid hown
    have HB := Bas.hid hb
    obtain ⟨adT, cpT, hvT⟩ := own_slice hown
    subst hvT
    clear hown hb k1 k5 HB4
    by_cases hin : i < n
    · obtain ⟨p, hp⟩ : ∃ p, P[i]? = some p := ⟨_, List.getElem?_eq_getElem (by rw [HN.out]; exact hin)⟩
      have htag := HF.out.tag i p hp
      have hat := HF.out.at' i p hp
      have hdl := HF.out.dlen i p hp
      obtain ⟨-, hend⟩ := HF.out.data i p hp
      rw [HBL.out] at hend
      have hsz4 := HF.out.size p (List.mem_of_getElem? hp)
      have HTG := Bas.hid (tabsM_get P i p hp)
      have HP := Bas.hid hp
      obtain ⟨ct, cd⟩ := p
      simp only at htag hdl hend hsz4 HTG
      obtain ⟨D, hD⟩ : ∃ D, (((bs.drop 12).take (n * 16)).drop (16 * i)).take 16 = D := ⟨_, rfl⟩
      have hDl : D.length = 16 := by rw [← hD, List.length_take, List.length_drop, HRL.out]; omega
      have hD4 : (D.drop 0).take 4 = tagB ct := by
        rw [← htag, ← hD, List.drop_zero, List.take_take, List.drop_take, List.take_take, List.drop_drop]
        congr 1; omega
      have hD8 : be D 8 4 = atM P i := by rw [← hD, be_sub _ _ _ _ _ (by omega), be_sub _ _ _ _ _ (by omega), show 12 + (16 * i + 8) = 12 + 16 * i + 8 by omega, hat]
      have hD12 : be D 12 4 = cd.length := by rw [← hD, be_sub _ _ _ _ _ (by omega), be_sub _ _ _ _ _ (by omega), show 12 + (16 * i + 12) = 12 + 16 * i + 12 by omega, hdl]
      have HXV := Bas.hid (fun w' (hb : Below w.heap.size w w') => hD ▸ (HRV.out w' hb).sub (16 * i) 16 (by rw [HRL.out]; omega))
      have hn16 : n * 16 ≤ maxLen := by unfold maxLen; omega
      have CU := fun w' => cut_ok R (n * 16) (n * 16) (16 * (i : Int)) 16 w' (Nat.le_refl _) hn16 (by omega) (by omega) (by omega)
      have z16 : (16 * (i : Int)).toNat = 16 * i := by omega
      have z16' : (16 : Int).toNat = 16 := rfl
      simp only [z16, z16'] at CU
      generalize sub R (16 * i) 16 = X at *
      have h16 : (16 : Nat) ≤ maxLen := by unfold maxLen; omega
      have h4m : (4 : Nat) ≤ maxLen := by unfold maxLen; omega
      have C4 := fun w' => cut_ok X 16 16 0 4 w' (Nat.le_refl _) h16 (by omega) (by omega) (by omega)
      have U8 := fun w' (hb : Below w.heap.size w w') => u32_ok X 16 16 D 8 w' (Nat.le_refl _) h16 (HXV.out w' hb) hDl (by omega) (by omega)
      have U12 := fun w' (hb : Below w.heap.size w w') => u32_ok X 16 16 D 12 w' (Nat.le_refl _) h16 (HXV.out w' hb) hDl (by omega) (by omega)
      have z0 : (0 : Int).toNat = 0 := rfl
      have z4 : (4 : Int).toNat = 4 := rfl
      have z8 : (8 : Int).toNat = 8 := rfl
      have z12 : (12 : Int).toNat = 12 := rfl
      simp only [z0, z4, z8, z12, hD8, hD12] at C4 U8 U12
      have HX4 := Bas.hid (fun w' (hb : Below w.heap.size w w') => hD4 ▸ (HXV.out w' hb).sub 0 4 (by omega))
      generalize sub X 0 4 = X4 at *
      obtain ⟨am, ham⟩ : ∃ am, atM P i = am := ⟨_, rfl⟩
      obtain ⟨ln, hln⟩ : ∃ ln, cd.length = ln := ⟨_, rfl⟩
      rw [ham] at U8 hend HTG
      rw [hln] at U12 hend HTG
      have HCU := Bas.hid CU
      have HC4 := Bas.hid C4
      have HU8 := Bas.hid U8
      have HU12 := Bas.hid U12
      have e1 : decide ((i : Int) < (n : Int)) = true := by simp; omega
      have e2 : decide (i < n) = true := by simp; omega
      have c5 := cell_of_heap (i := 0) (v := .slice R (n * 16) (n * 16)) o5 rfl
      have htl : (tagB ct).length = 4 := by rw [tagB_len]; exact hsz4
      have HTL := Bas.hid htl
      clear CU C4 U8 U12 z0 z4 z8 z12 z16 z16' hD hDl hD4 hD8 hD12 ham hln htag hat hdl hn16 hp htl hsz4
      go_wp2_with (fail)
      refine (HCU.out _).mono ?_
      rintro e w5 ⟨rfl, hb5⟩
      have q1 := (hb5.block _ (heap_lt o1)).trans o1
      have q5 := (hb5.block _ (heap_lt o5)).trans o5
      have HB5 := Bas.hid (HB.out.trans (hb5.mono HB.out.size))
      have HO5 := Bas.hid (Row.owned_below HO.out hb5)
      clear hb5 o1 o5 c5 HB HO HCU
      go_wp2_with (fail)
      have k1 := (Below.heap_alloc w5 (.cells #[.slice X 16 16] 48) _ (heap_lt q1)).trans q1
      have k5 := (Below.heap_alloc w5 (.cells #[.slice X 16 16] 48) _ (heap_lt q5)).trans q5
      have k8 := Bas.heap_new w5 (.cells #[.slice X 16 16] 48)
      have HB6 := Bas.hid (HB5.out.alloc HB5.out.size (.cells #[.slice X 16 16] 48))
      have HO6 := Bas.hid (Row.owned_below HO5.out ((Below.refl _ _).alloc (Nat.le_refl _) (.cells #[.slice X 16 16] 48)))
      have h58 : T5 < w5.heap.size := heap_lt q5
      generalize w5.alloc (.cells #[.slice X 16 16] 48) = W6 at *
      generalize w5.heap.size = T8 at *
      clear q1 q5 HB5 HO5
      refine' Pl.region_v4d 67 [] [0, 1, 4, 5, 6, 7] 2 34 9 9 3 35 8 40 [10] _
        (fun v u => ∃ g c, v = .slice (some ⟨g, 0, none⟩) 4 c ∧ VB u (some ⟨g, 0, none⟩) (tagB ct))
        (fun v u => ∃ g, v = .pointer (some ⟨g, 0, none⟩) ∧ W6.heap.size ≤ g ∧ u.heap[g]? = some (.cells #[.string ⟨#[]⟩, .int .i64 0, .int .i64 0] 52 (0, 0)))
        (fun v _ => v = .string ct) (fun v _ => v = .agg #[.string ct, .int .i64 am, .int .i64 ln]) (by kernel_rfl) (by kernel_rfl) (by kernel_rfl) (by simp) (fun _ _ _ _ e h => ⟨e ▸ h.1, h.2⟩) ?_ ?_ ?_ ?_ ?_ ?_ ?_ ?_ ?_ ?_
      rotate_left
      · intro I F hI hF
        simp only [Pl.selN, List.nil_append, List.drop_succ_cons, List.drop_zero]
        have x8 := fun q => hF.cell (heap_lt k8) (cell_of_heap (i := 0) (v := .slice X 16 16) k8 rfl) q
        repeat (go_big_quiet_step ((first | (go_at_call 32; with_reducible exact hF.call (HC4.out _)) | (go_at_call 30; first | with_reducible exact hF.call (HU8.out _ (hF.on HB6.out _)) | with_reducible exact hF.call (HU12.out _ (hF.on HB6.out _))))))
        refine wpQuiet_nil ?_
        rfl
      · rintro v u u' ⟨g, c, h1, h2⟩ _ hx
        exact ⟨g, c, h1, h2.below hx⟩
      · rintro v u u' ⟨g, h1, h2, h3⟩ _ hx
        exact ⟨g, h1, h2, (hx.block g (heap_lt h3)).trans h3⟩
      · exact fun _ _ _ h _ _ => h
      · exact fun _ _ _ h _ _ => h
      · simp only [Pl.selN, List.drop_succ_cons, List.drop_zero, List.mem_singleton, forall_eq]
        intro u hu
        go_simp
        simp only [Pl.valsAt]
        have hX := HX4.out u (HB6.out.trans (hu.mono HB6.out.size))
        refine (bytes_any X4 4 4 (tagB ct) u (Nat.le_refl _) h4m hX HTL.out (fun h => ?_)).mono ?_
        · obtain ⟨b, o, hb, _⟩ := hX.cell 0 (by rw [HTL.out]; omega)
          rw [h] at hb; cases hb
        · rintro e w'' ⟨v, rfl, hown, hne, hb⟩
          obtain ⟨g, cg, rfl, _, _, hvg⟩ := written hown (by rw [HTL.out]; omega) (tagB_byte ct) (by rw [HTL.out]; omega)
          rw [HTL.out]
          exact .inl ⟨_, rfl, hb, g, ⟨cg, rfl⟩, hvg⟩
      · simp only [Pl.selN, List.drop_succ_cons, List.drop_zero, List.mem_singleton, forall_eq]
        intro u hu
        go_simp
        simp only [Pl.valsAt]
        exact ⟨(Below.refl _ _).alloc (Nat.le_refl _) _, _, rfl, hu.size, Bas.heap_new _ _⟩
      · simp only [Pl.selN, List.drop_succ_cons, List.drop_zero, List.mem_singleton, forall_eq]
        rintro v u hu ⟨g, c, rfl, hvb⟩
        go_simp
        rw [conv_vb hvb 4 c HTL.out, str_tagB]
        exact ⟨Below.refl _ _, rfl⟩
      · simp only [Pl.selN, List.drop_succ_cons, List.drop_zero, List.mem_singleton, forall_eq]
        rintro v u hu rfl
        go_simp
        exact ⟨Below.refl _ _, rfl⟩
      rintro v1 v2 v3 v4 u hu ⟨g1, cg1, rfl, -⟩ ⟨T9, rfl, hT9, k9⟩ rfl rfl
      simp only [Pl.selN, List.drop_succ_cons, List.drop_zero, Act.put, List.setIfInBounds_toArray, List.set_cons_zero, List.set_cons_succ]
      have q1 := (hu.block _ (heap_lt k1)).trans k1
      have q5 := (hu.block _ (heap_lt k5)).trans k5
      have HB7 := Bas.hid (HB6.out.trans (hu.mono HB6.out.size))
      have HO7 := Bas.hid (Row.owned_below HO6.out hu)
      have hT19 : w.heap.size ≠ T9 := by have := heap_lt k1; omega
      have hT59 : T5 ≠ T9 := by have := heap_lt k5; omega
      have c90 := cell_of_heap (i := 0) (v := .string ⟨#[]⟩) k9 rfl
      have c91 := cell_of_heap (i := 1) (v := .int .i64 0) k9 rfl
      have c92 := cell_of_heap (i := 2) (v := .int .i64 0) k9 rfl
      have f9 := fun i => free_of_heap (i := i) k9
      have c1 := cell_of_heap (i := 0) (v := .slice a len cap) q1 rfl
      have hTb : w.heap.size ≤ T9 := by have := HB6.out.size; omega
      have HCE : Hid (∀ w', Calls Try.prog 32 #[.agg #[.slice a len cap], .int .i64 am, .int .i64 ln] w' fun e w'' => e = .returned (.agg #[.slice (sub a am ln) ln ln]) ∧ Below w'.heap.size w' w'') := fun w' => by
        have h := cut_ok a len cap am ln w' hl hc (by omega) (by omega) (by omega)
        simpa using h
      have HT9B := Bas.hid hT9
      have hOL : ∀ g, (Value.slice adT i cpT).ownBlock = some g → g < W6.heap.size := fun g hg => (Row.own_block HO6.out hg).2
      clear hu k1 k5 k8 HB6 HO6 HX4 HC4 HU8 HU12 HXV hT9
      go_wp2_with (fail)
      have hk : ∀ g, g ≠ T9 → (((u.setCell ⟨T9, 0, none⟩ (.string ct)).setCell ⟨T9, 1, none⟩ (.int .i64 am)).setCell ⟨T9, 2, none⟩ (.int .i64 ln)).heap[g]? = u.heap[g]? := fun g hg => (Below.heap_setCell _ _ _ _ hg).trans ((Below.heap_setCell _ _ _ _ hg).trans (Below.heap_setCell _ _ _ _ hg))
      have n9 : (((u.setCell ⟨T9, 0, none⟩ (.string ct)).setCell ⟨T9, 1, none⟩ (.int .i64 am)).setCell ⟨T9, 2, none⟩ (.int .i64 ln)).heap[T9]? = some (.cells #[.string ct, .int .i64 am, .int .i64 ln] 52 (0, 0)) := heap_set (i := 2) (heap_set (i := 1) (heap_set (i := 0) k9 _) _) _
      have r1 := (hk _ hT19).trans q1
      have r5 := (hk _ hT59).trans q5
      have HB8 : Hid (Below w.heap.size w (((u.setCell ⟨T9, 0, none⟩ (.string ct)).setCell ⟨T9, 1, none⟩ (.int .i64 am)).setCell ⟨T9, 2, none⟩ (.int .i64 ln))) := ((HB7.out.setCell (p := ⟨T9, 0, none⟩) hTb _).setCell (p := ⟨T9, 1, none⟩) hTb _).setCell (p := ⟨T9, 2, none⟩) hTb _
      have HO8 := Bas.hid (Row.owned_keep HO7.out (w' := ((u.setCell ⟨T9, 0, none⟩ (.string ct)).setCell ⟨T9, 1, none⟩ (.int .i64 am)).setCell ⟨T9, 2, none⟩ (.int .i64 ln)) fun g hg => hk g (fun e => by
        subst e
        exact absurd (hOL _ hg) (Nat.not_lt.2 HT9B.out)))
      generalize ((u.setCell ⟨T9, 0, none⟩ (.string ct)).setCell ⟨T9, 1, none⟩ (.int .i64 am)).setCell ⟨T9, 2, none⟩ (.int .i64 ln) = W8 at *
      clear hk q1 q5 k9 c90 c91 c92 f9 c1 HB7 HO7
      refine (HCE.out _).mono ?_
      rintro e w9 ⟨rfl, hb9⟩
      have q1 := (hb9.block _ (heap_lt r1)).trans r1
      have q5 := (hb9.block _ (heap_lt r5)).trans r5
      have q9 := (hb9.block _ (heap_lt n9)).trans n9
      have HB9 := Bas.hid (HB8.out.trans (hb9.mono HB8.out.size))
      have HO9 := Bas.hid (Row.owned_below HO8.out hb9)
      clear hb9 r1 r5 n9 HB8 HO8 HCE
      go_wp2_with (fail)
      rcases Nat.eq_zero_or_pos i with hi0 | hi0
      · have hk0 : ((i : Int) == 0) = true := by simp; omega
        clear hi0
        refine' Pl.region_v0 67 [] [0, 1, 2, 3, 4, 5, 6, 7, 8, 9, 10, 11, 12, 13] [] _ (by kernel_rfl) (by kernel_rfl) (by simp) (fun _ _ _ _ e h => ⟨e ▸ h.1, h.2⟩) ?_ ?_
        rotate_left
        · intro I F hI hF
          simp only [Pl.selN, List.nil_append, List.drop_succ_cons, List.drop_zero]
          have y0 := fun q => hF.cell (heap_lt q9) (cell_of_heap (i := 0) (v := .string ct) q9 rfl) q
          repeat (go_big_quiet_step ((go_at_call 31; exact hF.same (need_yesb _ _ (by first | rfl | (simp; done) | (simp; omega))))))
          refine wpQuiet_nil ?_
          rfl
        intro u5 hu5
        simp only [Pl.selN]
        have s1 := (hu5.block _ (heap_lt q1)).trans q1
        have s5 := (hu5.block _ (heap_lt q5)).trans q5
        have s9 := (hu5.block _ (heap_lt q9)).trans q9
        have HBA := Bas.hid (HB9.out.trans (hu5.mono HB9.out.size))
        have HOA := Bas.hid (Row.owned_below HO9.out hu5)
        clear hu5 q1 q5 q9 HB9 HO9
        have d0 := cell_of_heap (i := 0) (v := .string ct) s9 rfl
        have d1 := cell_of_heap (i := 1) (v := .int .i64 am) s9 rfl
        have d2 := cell_of_heap (i := 2) (v := .int .i64 ln) s9 rfl
        go_wp2_with (at_builtin; refine Row.fence ?_)
        refine Row.unfence ?_
        have hb3 := (Below.refl u5.heap.size u5).alloc (Nat.le_refl _) (.cells #[.string ct, .int .i64 am, .int .i64 ln] 52)
        have k3 := Bas.heap_new u5 (.cells #[.string ct, .int .i64 am, .int .i64 ln] 52)
        have HO3 := Bas.hid (Row.owned_below HOA.out hb3)
        have HB3 := Bas.hid (HBA.out.trans (hb3.mono HBA.out.size))
        have j1 := (hb3.block _ (heap_lt s1)).trans s1
        have j5 := (hb3.block _ (heap_lt s5)).trans s5
        generalize u5.alloc (.cells #[.string ct, .int .i64 am, .int .i64 ln] 52) = W3' at *
        have hv1 := own_ty HO3.out j1 (by decide)
        have hv5 := own_ty HO3.out j5 (by decide)
        clear s1 s5 s9 d0 d1 d2 hb3 HOA HBA
        refine (Row.append_any rfl _ _ 44 52 rfl (.agg #[.string ⟨#[]⟩, .int .i64 0, .int .i64 0]) 3 32 Try.underlying44 infoT rfl (by decide) w.heap.size _ i _ rfl HO3.out (.slice (some ⟨u5.heap.size, 0, none⟩) 1 1) 1 [.string ct, .int .i64 am, .int .i64 ln] rfl (leads_heap k3) rfl (by simp; exact ⟨rfl, rfl, rfl⟩) (by unfold maxLen; omega) (by omega) HB3.out.size ?_)
        intro v' w9' hown9 hg9 _
        have s1 := (hg9.block _ (heap_lt j1) (fun e => hv1 e.symm)).trans j1
        have s5 := (hg9.block _ (heap_lt j5) (fun e => hv5 e.symm)).trans j5
        have HBB := Bas.hid (HB3.out.grown hg9 HB3.out.size (fun g' hg' => (Row.own_block HO3.out hg').1))
        have HOB : Hid (w9'.ownsRow w.heap.size 52 3 v' (i + 1) (((tabsM P).take (i + 1)).flatMap tabC)) := by
          unfold Hid
          rw [Row.take_flat tabC _ i _ HTG.out]
          exact hown9
        obtain ⟨ad9, cp9, rfl⟩ := own_slice hown9
        clear hown9 hg9 j1 j5 k3 HO3 HB3 hv1 hv5
        go_wp2_with (fail)
        go_roundw
        case rel => exact ⟨i + 1, _, by omega, by go_num, rfl, HOB.out, HBB.out, s1, s5⟩
        case measure => simp [intOf]; omega
      · have hk0 : ((i : Int) == 0) = false := by simp; omega
        obtain ⟨j, hj⟩ : ∃ j, i = j + 1 := ⟨i - 1, by omega⟩
        have e5 : (i : Int) - 1 = (j : Int) := by omega
        have hji : j < i := by omega
        obtain ⟨p', hp'⟩ : ∃ p, P[j]? = some p := ⟨_, List.getElem?_eq_getElem (by rw [HN.out]; omega)⟩
        have hri := HF.out.rise j i p' _ hji hp' HP.out
        have hTj : ((tabsM P).take i)[j]? = some ⟨p'.tag, atM P j, p'.data.length⟩ := by rw [List.getElem?_take_of_lt hji]; exact tabsM_get P j p' hp'
        obtain ⟨GT, CT, hvT, -, lGT, -, hcl⟩ := Row.elem_cells tabC_len HO9.out hTj (by omega) (by rw [List.length_take, tabsM_len, HN.out]; omega)
        cases hvT
        have cT0 : w9.cell? ⟨GT, j * 3, none⟩ = some (.string p'.tag) := hcl 0 _ rfl
        obtain ⟨pt, hpt⟩ : ∃ pt, p'.tag = pt := ⟨_, rfl⟩
        rw [hpt] at cT0 hri
        unfold ltS at hri
        simp only at hri
        clear hi0 hj hp' hTj hcl hpt
        refine' Pl.region_v0 67 [] [0, 1, 2, 3, 4, 5, 6, 7, 8, 9, 10, 11, 12, 13] [] _ (by kernel_rfl) (by kernel_rfl) (by simp) (fun _ _ _ _ e h => ⟨e ▸ h.1, h.2⟩) ?_ ?_
        rotate_left
        · intro I F hI hF
          simp only [Pl.selN, List.nil_append, List.drop_succ_cons, List.drop_zero]
          have y0 := fun q => hF.cell (heap_lt q9) (cell_of_heap (i := 0) (v := .string ct) q9 rfl) q
          have y1 := fun q => hF.cell lGT cT0 q
          repeat (go_big_quiet_step ((go_at_call 31; exact hF.same (need_yesb _ _ (by first | rfl | (simp; done) | (simp; omega))))))
          refine wpQuiet_nil ?_
          rfl
        intro u5 hu5
        simp only [Pl.selN]
        have s1 := (hu5.block _ (heap_lt q1)).trans q1
        have s5 := (hu5.block _ (heap_lt q5)).trans q5
        have s9 := (hu5.block _ (heap_lt q9)).trans q9
        have HBA := Bas.hid (HB9.out.trans (hu5.mono HB9.out.size))
        have HOA := Bas.hid (Row.owned_below HO9.out hu5)
        clear hu5 q1 q5 q9 HB9 HO9
        clear cT0 hri
        have d0 := cell_of_heap (i := 0) (v := .string ct) s9 rfl
        have d1 := cell_of_heap (i := 1) (v := .int .i64 am) s9 rfl
        have d2 := cell_of_heap (i := 2) (v := .int .i64 ln) s9 rfl
        go_wp2_with (at_builtin; refine Row.fence ?_)
        refine Row.unfence ?_
        have hb3 := (Below.refl u5.heap.size u5).alloc (Nat.le_refl _) (.cells #[.string ct, .int .i64 am, .int .i64 ln] 52)
        have k3 := Bas.heap_new u5 (.cells #[.string ct, .int .i64 am, .int .i64 ln] 52)
        have HO3 := Bas.hid (Row.owned_below HOA.out hb3)
        have HB3 := Bas.hid (HBA.out.trans (hb3.mono HBA.out.size))
        have j1 := (hb3.block _ (heap_lt s1)).trans s1
        have j5 := (hb3.block _ (heap_lt s5)).trans s5
        generalize u5.alloc (.cells #[.string ct, .int .i64 am, .int .i64 ln] 52) = W3' at *
        have hv1 := own_ty HO3.out j1 (by decide)
        have hv5 := own_ty HO3.out j5 (by decide)
        clear s1 s5 s9 d0 d1 d2 hb3 HOA HBA
        refine (Row.append_any rfl _ _ 44 52 rfl (.agg #[.string ⟨#[]⟩, .int .i64 0, .int .i64 0]) 3 32 Try.underlying44 infoT rfl (by decide) w.heap.size _ i _ rfl HO3.out (.slice (some ⟨u5.heap.size, 0, none⟩) 1 1) 1 [.string ct, .int .i64 am, .int .i64 ln] rfl (leads_heap k3) rfl (by simp; exact ⟨rfl, rfl, rfl⟩) (by unfold maxLen; omega) (by omega) HB3.out.size ?_)
        intro v' w9' hown9 hg9 _
        have s1 := (hg9.block _ (heap_lt j1) (fun e => hv1 e.symm)).trans j1
        have s5 := (hg9.block _ (heap_lt j5) (fun e => hv5 e.symm)).trans j5
        have HBB := Bas.hid (HB3.out.grown hg9 HB3.out.size (fun g' hg' => (Row.own_block HO3.out hg').1))
        have HOB : Hid (w9'.ownsRow w.heap.size 52 3 v' (i + 1) (((tabsM P).take (i + 1)).flatMap tabC)) := by
          unfold Hid
          rw [Row.take_flat tabC _ i _ HTG.out]
          exact hown9
        obtain ⟨ad9, cp9, rfl⟩ := own_slice hown9
        clear hown9 hg9 j1 j5 k3 HO3 HB3 hv1 hv5
        go_wp2_with (fail)
        go_roundw
        case rel => exact ⟨i + 1, _, by omega, by go_num, rfl, HOB.out, HBB.out, s1, s5⟩
        case measure => simp [intOf]; omega
    · have hin2 : i = n := by omega
      subst hin2
      have HEND : Hid ((tabsM P).take i = tabsM P) := by unfold Hid; exact List.take_of_length_le (by rw [tabsM_len, HN.out]; exact Nat.le_refl _)
      go_wp2_with (fail)
      go_ret
      exact ⟨HB.out, _, rfl, by rw [HN.out, ← HEND.out]; exact HO.out⟩
end Fo
end Go.Proofs.Ytkmbeohheblhhaa
