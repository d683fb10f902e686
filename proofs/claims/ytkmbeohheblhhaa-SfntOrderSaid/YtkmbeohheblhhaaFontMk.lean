/- Layer 2: the reference's Make. -/
import Derived.Test.YtkmbeohheblhhaaFontMkD
namespace Go.Proofs.Ytkmbeohheblhhaa
open Go.RowKit
namespace Fo
open Vw Wr

theorem infoP : (Try.prog.info? 27).map (fun i => (i.zero, i.size, i.bytes)) = some (some (.agg #[.string ⟨#[]⟩, .slice none 0 0]), 2, 40) := by kernel_rfl

theorem owned_empty (w : World) (base : Nat) (e : TypeId) (size : Nat) (hb : base ≤ w.heap.size) : (w.alloc (.cells #[] e)).ownsRow base e size (.slice (some ⟨w.heap.size, 0, none⟩) 0 0) 0 [] :=
  ⟨by simp, .inr ⟨w.heap.size, 0, #[], rfl, hb, Bas.heap_new _ _, Nat.le_refl _, Nat.zero_le _, by simp, by simp⟩⟩

theorem own_apart {w : World} {base base' : Nat} {e e' : TypeId} {size size' : Nat} {v v' : Value} {n n' : Nat} {xs xs' : List Value} (h : w.ownsRow base e size v n xs) (h' : w.ownsRow base' e' size' v' n' xs') (hne : e ≠ e') : ∀ g, v.ownBlock = some g → v'.ownBlock ≠ some g := by
  intro g hg hg'
  obtain ⟨_, ⟨rfl, _⟩ | ⟨g1, cp, cur, rfl, _, hh, _⟩⟩ := h
  · cases hg
  · cases hg
    exact own_ty h' hh (Ne.symm hne) hg'

theorem vb_of_leads {w : World} {a : Option Addr} {len cap : Nat} {bs : List Int} (h : Row.Leads w (.slice a len cap) len (bs.flatMap u8C)) (hb : ∀ x ∈ bs, 0 ≤ x ∧ x ≤ 255) (hl : bs.length = len) (hs : len ≤ 1000000000) : VB w a bs :=
  ⟨by omega, hb, fun i hi => by
    obtain ⟨b, o, cp, hv, hc⟩ := Row.leads_elem (m := 1) (fun _ => rfl) h (List.getElem?_eq_getElem hi) (by omega)
    cases hv
    refine ⟨b, o, rfl, ?_⟩
    have h0 := hc 0 _ rfl
    simp only [Nat.mul_one, Nat.add_zero] at h0
    rw [h0, List.getD_eq_getElem?_getD, List.getElem?_eq_getElem hi]; rfl⟩

theorem ordered_size (L : List PartD) : ∀ (O : List Nat) (last : ByteArray) (f : Bool), ordered (L.map PartD.tag) last f O → ∀ i ∈ O, (L.getD i default).tag.size = 4
  | [], _, _, _, i, hi => by cases hi
  | j :: O, last, f, h, i, hi => by
    obtain ⟨_, h2, h3, h4⟩ := h
    rcases List.mem_cons.1 hi with rfl | hi
    · rw [List.length_map] at h2
      rw [List.getD_eq_getElem?_getD, List.getElem?_map, List.getElem?_eq_getElem h2] at h3
      rw [List.getD_eq_getElem?_getD, List.getElem?_eq_getElem h2]
      exact h3
    · exact ordered_size L O _ _ h4 i hi

theorem atM_mono (P : List PartD) {i j : Nat} (h : i ≤ j) : atM P i ≤ atM P j := by
  unfold atM
  have : ((P.take i).flatMap bodyM).length ≤ ((P.take j).flatMap bodyM).length := by
    have e : P.take j = P.take i ++ (P.take j).drop i := by
      have := List.take_append_drop i (P.take j)
      rw [List.take_take, Nat.min_eq_left h] at this
      exact this.symm
    rw [e, List.flatMap_append, List.length_append]; omega
  omega
theorem atM_data (P : List PartD) (p : PartD) (h : p ∈ P) : p.data.length ≤ atM P P.length := by
  obtain ⟨i, hi⟩ := List.getElem?_of_mem h
  have hl : i < P.length := (List.getElem?_eq_some_iff.1 hi).1
  have h1 := atM_succ P i p hi
  have h2 := atM_mono P (show i + 1 ≤ P.length by omega)
  have := pad4_le p.data.length
  omega

set_option maxRecDepth 100000 in
set_option maxHeartbeats 16000000 in
theorem make_any (v : Value) (L : List PartD) (O : List Nat) (w : World) (hin : PParts w v L) (hL0 : 0 < L.length) (hL : L.length ≤ 100) (hO : O.length = L.length) (hord : ordered (L.map PartD.tag) ⟨#[]⟩ true O) (P : List PartD) (hP : P = O.map fun i => L.getD i default)
    (htot : atM P P.length ≤ 1000000) (hby : ∀ p ∈ L, ∀ x ∈ p.data, 0 ≤ x ∧ x ≤ 255) :
    Calls Try.prog 8 #[v] w fun e w' => ∃ near most v', e = .returned v' ∧ w'.ownsRow w.heap.size 5 1 v' (makeM P near most).length ((makeM P near most).map (Value.int .u8)) ∧ Below w.heap.size w w' := by
  obtain ⟨rs, hrl, hlead, hel⟩ := hin
  obtain ⟨ad, cp, rfl⟩ := Row.leads_slice hlead
  obtain ⟨n, hn⟩ : ∃ n, L.length = n := ⟨_, rfl⟩
  have HLD := Bas.hid hlead
  have HEL := Bas.hid hel
  have HRL := Bas.hid hrl
  have HN := Bas.hid hn
  have HON := Bas.hid (hO.trans hn)
  have HORD := Bas.hid hord
  have HPD := Bas.hid hP
  have HTOT := Bas.hid htot
  have HBY := Bas.hid hby
  have HTS : Hid (∀ p ∈ P, p.tag.size = 4) := by
    intro p hp
    rw [hP] at hp
    obtain ⟨i, hi, rfl⟩ := List.mem_map.1 hp
    exact ordered_size L O _ _ hord i hi
  have HAT0 : Hid (atM P 0 = 12 + 16 * P.length) := by unfold Hid atM; simp
  have HPN : Hid (P.length = n) := by unfold Hid; rw [hP, List.length_map, hO, hn]
  rw [hn] at hL hL0 ⊢
  clear hlead hel hrl hn hO hord htot hby hP
  go_enter Try.func8, Try.ntmps8
  go_wp2_with (fail)
  have HE := Bas.hid (owned_empty w w.heap.size 27 2 (Nat.le_refl _))
  have HB0 := Bas.hid ((Below.refl w.heap.size w).alloc (Nat.le_refl _) (.cells #[] 27))
  generalize w.alloc (.cells #[] 27) = W at *
  go_loopw [3, 4, 5, 6] (fun vs vl vf _ wr => ∃ (k : Nat) (v3 : Value) (G3 cp3 : Nat) (last : ByteArray) (f : Bool) (Q : List (PartD × Value)), k ≤ n ∧ vs = v3 ∧ v3 = .slice (some ⟨G3, 0, none⟩) k cp3 ∧ vl = .string last ∧ vf = .bool f ∧ ordered (L.map PartD.tag) last f (O.drop k) ∧ Q.length = k ∧ (∀ (j : Nat) x, Q[j]? = some x → ∃ i : Nat, O[j]? = some i ∧ (L.zip rs)[i]? = some x) ∧
    wr.ownsRow w.heap.size 27 2 v3 k (Q.flatMap pC) ∧ Below w.heap.size w wr) (fun vs _ _ _ _ => match vs with | .slice _ k _ => n - k | _ => 0)
  case atStart => exact ⟨0, _, _, _, _, _, [], Nat.zero_le _, rfl, rfl, rfl, rfl, HORD.out, rfl, (fun j x h => by simp at h), HE.out, HB0.out⟩
  case round =>
    obtain ⟨k, v3, G3, cp3, last, f, Q, hk, rfl, rfl, rfl, rfl, hod, hql, hqe, hown, hb⟩ := hrel
    have HOD := Bas.hid hod
    have HQL := Bas.hid hql
    have HQE := Bas.hid hqe
    have HOW := Bas.hid hown
    have HB := Bas.hid hb
    clear hod hql hqe hown hb
    by_cases hkn : k < n
    · have e1 : decide ((k : Int) < (n : Int)) = true := by simp; omega
      have e2 : decide (k < n) = true := by simp; omega
      obtain ⟨i, hi⟩ : ∃ i, O[k]? = some i := ⟨_, List.getElem?_eq_getElem (by rw [HON.out]; exact hkn)⟩
      have hdrop : O.drop k = i :: O.drop (k + 1) := by
        obtain ⟨h1, rfl⟩ := List.getElem?_eq_some_iff.1 hi
        exact List.drop_eq_getElem_cons h1
      obtain ⟨hlst, hin, hsz, hnext⟩ : leastTo (L.map PartD.tag) last f (L.map PartD.tag).length = i ∧ i < (L.map PartD.tag).length ∧ ((L.map PartD.tag).getD i ⟨#[]⟩).size = 4 ∧ ordered (L.map PartD.tag) ((L.map PartD.tag).getD i ⟨#[]⟩) false (O.drop (k + 1)) := by
        have h := HOD.out
        rw [hdrop] at h
        exact h
      rw [List.length_map] at hlst hin
      rw [HN.out] at hlst hin
      obtain ⟨c, hc⟩ : ∃ c, L[i]? = some c := ⟨_, List.getElem?_eq_getElem (by rw [HN.out]; exact hin)⟩
      obtain ⟨r, hr⟩ : ∃ r, rs[i]? = some r := ⟨_, List.getElem?_eq_getElem (by rw [HRL.out, HN.out]; exact hin)⟩
      have hz : (L.zip rs)[i]? = some (c, r) := List.getElem?_zip_eq_some.2 ⟨hc, hr⟩
      obtain ⟨B, OO, cp0, hv0, hcl⟩ := Row.leads_elem pC_len HLD.out hz (by omega)
      cases hv0
      have ht : (L.map PartD.tag).getD i ⟨#[]⟩ = c.tag := by rw [List.getD_eq_getElem?_getD, List.getElem?_map, hc]; rfl
      rw [ht] at hsz hnext
      have HLS := Bas.hid (fun w' (hb : Below w.heap.size w w') => least_core B OO n cp (L.map PartD.tag) last f w' (by omega) (fun j hj => by
        obtain ⟨cj, hcj⟩ : ∃ c, L[j]? = some c := ⟨_, List.getElem?_eq_getElem (by rw [HN.out]; exact hj)⟩
        obtain ⟨rj, hrj⟩ : ∃ r, rs[j]? = some r := ⟨_, List.getElem?_eq_getElem (by rw [HRL.out, HN.out]; exact hj)⟩
        obtain ⟨B', O', cp', hv', hcl'⟩ := Row.leads_elem pC_len HLD.out (List.getElem?_zip_eq_some.2 ⟨hcj, hrj⟩ : (L.zip rs)[j]? = some (cj, rj)) (by omega)
        cases hv'
        have h0 := hcl' 0 _ rfl
        simp only [Nat.add_zero] at h0
        have hjt : (L.map PartD.tag).getD j ⟨#[]⟩ = cj.tag := by rw [List.getD_eq_getElem?_getD, List.getElem?_map, hcj]; rfl
        rw [hjt]
        exact (hb.cell (p := ⟨B, OO + j * 2, none⟩) (World.block_lt_of_cell? _ _ h0)).trans h0))
      rw [hlst] at HLS
      have h0 := hcl 0 _ rfl
      have h1 := hcl 1 _ rfl
      simp only [Nat.add_zero] at h0 h1
      have l0 := World.block_lt_of_cell? _ _ h0
      have hsz' : c.tag.size = 4 := hsz
      have HNX := Bas.hid hnext
      have HZ := Bas.hid hz
      have HI := Bas.hid hi
      obtain ⟨ar, cr, rfl⟩ := Row.leads_slice (HEL.out i c r hc hr)
      obtain ⟨ct, cd⟩ := c
      obtain ⟨ln, hln⟩ : ∃ ln, cd.length = ln := ⟨_, rfl⟩
      simp only at h0 h1 hsz hsz'
      have h0' : w.cell? ⟨B, OO + i * 2, none⟩ = some (.string ct) := h0
      have h1' : w.cell? ⟨B, OO + i * 2 + 1, none⟩ = some (.slice ar ln cr) := by rw [← hln]; exact h1
      have HZ' : Hid ((L.zip rs)[i]? = some (⟨ct, cd⟩, .slice ar ln cr)) := by unfold Hid; rw [← hln]; exact HZ.out
      clear hdrop hlst hnext hz hcl ht hi hc hsz h0 h1 HZ hr hln
      go_wp2_with (fail)
      refine (HLS.out _ HB.out).mono ?_
      rintro e w1 ⟨rfl, hb1⟩
      have hBw := HB.out.size
      have c0 := ((HB.out.trans (hb1.mono hBw)).cell (p := ⟨B, OO + i * 2, none⟩) l0).trans h0'
      have c1 := ((HB.out.trans (hb1.mono hBw)).cell (p := ⟨B, OO + i * 2 + 1, none⟩) l0).trans h1'
      have HB1 := Bas.hid (Bas.on HB.out hb1)
      have HOW1 := Bas.hid (Row.owned_below HOW.out hb1)
      clear hb1 HLS HB HOW h1'
      go_wp2_with (at_builtin; refine Row.fence ?_)
      refine Row.unfence ?_
      have hbA := (Below.refl w1.heap.size w1).alloc (Nat.le_refl _) (.cells #[.string ct, .slice ar ln cr] 27)
      have kA := Bas.heap_new w1 (.cells #[.string ct, .slice ar ln cr] 27)
      have cA0 := (hbA.cell (p := ⟨B, OO + i * 2, none⟩) (World.block_lt_of_cell? _ _ c0)).trans c0
      have HB2 := Bas.hid (Bas.on HB1.out hbA)
      have HOW2 := Bas.hid (Row.owned_below HOW1.out hbA)
      have hql := HQL.out
      generalize w1.alloc (.cells #[.string ct, .slice ar ln cr] 27) = WA at *
      clear hbA HB1 HOW1 c0 c1
      refine (Row.append_any rfl _ _ 24 27 rfl (.agg #[.string ⟨#[]⟩, .slice none 0 0]) 2 40 Try.underlying24 infoP rfl (by decide) w.heap.size (.slice (some ⟨G3, 0, none⟩) k cp3) k _ rfl HOW2.out (.slice (some ⟨w1.heap.size, 0, none⟩) 1 1) 1 [.string ct, .slice ar ln cr] rfl (leads_heap kA) rfl (by simp; exact ⟨rfl, rfl⟩) (by unfold maxLen; omega) (by omega) HB2.out.size ?_)
      intro v' w9 hown9 hg9 _
      have HB9 := Bas.hid (HB2.out.grown hg9 HB2.out.size (fun g' hg' => (Row.own_block HOW2.out hg').1))
      have HO9 : Hid (w9.ownsRow w.heap.size 27 2 v' (k + 1) ((Q ++ [((⟨ct, cd⟩ : PartD), (Value.slice ar ln cr))]).flatMap pC)) := by
        unfold Hid
        rw [List.flatMap_append]
        exact hown9
      have c9 := (HB9.out.cell (p := ⟨B, OO + i * 2, none⟩) l0).trans h0'
      rcases Row.owned_parts hown9 with ⟨_, h0, _⟩ | ⟨G9, cp9, hvG, -⟩
      · omega
      subst hvG
      clear hown9 hg9 kA cA0 HB2 HOW2
      go_wp2_with (fail)
      go_roundw
      case rel =>
        refine ⟨k + 1, _, G9, cp9, ct, false, Q ++ [((⟨ct, cd⟩ : PartD), (Value.slice ar ln cr))], by omega, by go_num, rfl, rfl, rfl, HNX.out, by simp [hql], fun j x hj => ?_, HO9.out, HB9.out⟩
        by_cases hjk : j < k
        · rw [List.getElem?_append_left (by omega)] at hj
          exact HQE.out j x hj
        · have hjk2 : j = k := by
            have := (List.getElem?_eq_some_iff.1 hj).1
            simp at this; omega
          subst hjk2
          rw [List.getElem?_append_right (by omega), hql, Nat.sub_self] at hj
          cases hj
          exact ⟨i, HI.out, HZ'.out⟩
      case measure => simp; omega
    · have hkn2 : k = n := by omega
      subst hkn2
      have HQP : Hid (P = Q.map Prod.fst) := by
        unfold Hid
        rw [HPD.out]
        refine List.ext_getElem? fun j => ?_
        by_cases hj : j < k
        · obtain ⟨x, hx⟩ : ∃ x, Q[j]? = some x := ⟨_, List.getElem?_eq_getElem (by rw [HQL.out]; exact hj)⟩
          obtain ⟨i, hi, hz⟩ := HQE.out j x hx
          obtain ⟨h1, -⟩ := List.getElem?_zip_eq_some.1 hz
          rw [List.getElem?_map, List.getElem?_map, hi, hx]
          simp only [Option.map_some]
          rw [List.getD_eq_getElem?_getD, h1]; rfl
        · rw [List.getElem?_eq_none (by rw [List.length_map, HON.out]; omega), List.getElem?_eq_none (by rw [List.length_map, HQL.out]; omega)]
      have HQV : Hid (∀ (j : Nat) x, Q[j]? = some x → Row.Leads w x.2 x.1.data.length (x.1.data.flatMap u8C) ∧ (∀ y ∈ x.1.data, 0 ≤ y ∧ y ≤ 255)) := by
        intro j x hx
        obtain ⟨i, hi, hz⟩ := HQE.out j x hx
        obtain ⟨h1, h2⟩ := List.getElem?_zip_eq_some.1 hz
        exact ⟨HEL.out i x.1 x.2 h1 h2, HBY.out x.1 (List.mem_of_getElem? h1)⟩
      clear HOD HQE HPD
      have g1 : decide ((0 : Int) < (k : Int)) = true := by simp; omega
      have g2 : decide (0 < k) = true := by simp; omega
      go_wp2_with (fail)
      obtain ⟨wo, hwo⟩ : ∃ wo : World, wo = wr := ⟨_, rfl⟩
      rw [← hwo] at HOW HB
      rw [← hwo]
      clear hwo
      go_loopw [8, 9] (fun va vm wr => ∃ (near most : Int), va = .int .i64 near ∧ vm = .int .i64 most ∧ 16 ≤ near ∧ near ≤ 16 * (k : Int) ∧ 0 ≤ most ∧ most ≤ near ∧ wr = wo) (fun va _ _ => (16 * (k : Int) + 1 - intOf va).toNat)
      case atStart => exact ⟨16, 0, rfl, rfl, by omega, by omega, by omega, by omega, rfl⟩
      case round =>
        obtain ⟨near, most, rfl, rfl, hn16, hnk, hm0, hmn, rfl⟩ := hrel
        by_cases hdbl : 2 * near ≤ 16 * (k : Int)
        · have f1 : decide (2 * near ≤ 16 * (k : Int)) = true := by simpa using hdbl
          go_wp2_with (fail)
          go_roundw
          case rel => exact ⟨2 * near, most + 1, rfl, rfl, by omega, hdbl, by omega, by omega, trivial⟩
          case measure => simp [intOf]; omega
        · have f1 : decide (2 * near ≤ 16 * (k : Int)) = false := by simp; omega
          clear hdbl
          go_wp2_with (fail)
          have hbE := (Below.refl wr.heap.size wr).alloc (Nat.le_refl _) (.cells #[] 5)
          have hO0 : (wr.alloc (.cells #[] 5)).ownsRow w.heap.size 5 1 (.slice (some ⟨wr.heap.size, 0, none⟩) 0 0) ([] : List Int).length (([] : List Int).map (Value.int .u8)) := owned_empty wr w.heap.size 5 1 HB.out.size
          have HOWE := Bas.hid (Row.owned_below HOW.out hbE)
          have HBE := Bas.hid (Bas.on HB.out hbE)
          have hB0 := HBE.out.size
          generalize wr.alloc (.cells #[] 5) = u0 at *
          clear hbE
          refine (put_any 65536 4 w.heap.size _ _ u0 (by omega) (by omega) (by omega) (by simp [putB_len]) hB0 hO0).mono ?_
          rintro e u1 ⟨y1, rfl, gr1⟩
          have hB1 := Nat.le_trans hB0 gr1.grow.size
          have hO1 := gr1.own
          go_wp2_with (fail)
          refine (put_any (k : Int) 2 w.heap.size _ _ u1 (by omega) (by omega) (by omega) (by simp [putB_len]) hB1 hO1).mono ?_
          rintro e u2 ⟨y2, rfl, gr2⟩
          have hB2 := Nat.le_trans hB1 gr2.grow.size
          have hO2 := gr2.own
          go_wp2_with (fail)
          refine (put_any near 2 w.heap.size _ _ u2 (by omega) (by omega) (by omega) (by simp [putB_len]) hB2 hO2).mono ?_
          rintro e u3 ⟨y3, rfl, gr3⟩
          have hB3 := Nat.le_trans hB2 gr3.grow.size
          have hO3 := gr3.own
          go_wp2_with (fail)
          refine (put_any most 2 w.heap.size _ _ u3 (by omega) (by omega) (by omega) (by simp [putB_len]) hB3 hO3).mono ?_
          rintro e u4 ⟨y4, rfl, gr4⟩
          have hB4 := Nat.le_trans hB3 gr4.grow.size
          have hO4 := gr4.own
          go_wp2_with (fail)
          refine (put_any (16 * (k : Int) - near) 2 w.heap.size _ _ u4 (by omega) (by omega) (by omega) (by simp [putB_len]) hB4 hO4).mono ?_
          rintro e u5 ⟨y5, rfl, gr5⟩
          have hB5 := Nat.le_trans hB4 gr5.grow.size
          have hO5 := gr5.own
          go_wp2_with (fail)
          have gA := (((gr1.trans gr2).trans gr3).trans gr4).trans gr5
          have HBA := Bas.hid (gA.below HBE.out HBE.out.size (fun g hg => (Row.own_block hO0 hg).1))
          have HOWA := Bas.hid (Row.owned_keep HOWE.out fun g hg => gA.grow.block g (Row.own_block HOWE.out hg).2 (fun e => own_apart HOWE.out hO0 (by decide) g hg e.symm))
          have HROW : Hid (u5.ownsRow w.heap.size 5 1 y5 (headM k near most).length ((headM k near most).map (Value.int .u8))) := by
            have h := gA.own
            simp only [List.nil_append] at h
            exact h
          clear gA gr1 gr2 gr3 gr4 gr5 hO0 hO1 hO2 hO3 hO4 hO5 hB0 hB1 hB2 hB3 hB4 hB5 HBE HOWE HOW HB HE HB0
          have HATB : Hid (∀ i, i ≤ k → atM P i ≤ 1000000) := fun i hi => Nat.le_trans (atM_mono P (by rw [HPN.out]; exact hi)) HTOT.out
          have HDL : Hid (∀ p ∈ P, p.data.length ≤ 1000000) := fun p hp => Nat.le_trans (atM_data P p hp) HTOT.out
          have HH : Hid ((headM k near most).length = 12) := headM_len _ _ _
          have HP16 : Hid (∀ i, i ≤ k → (headM k near most ++ rowsM (12 + 16 * k) (P.take i)).length = 12 + 16 * i) := by
            intro i hi
            rw [List.length_append, HH.out, rowsM_len _ (fun p hp => HTS.out p (List.mem_of_mem_take hp)), List.length_take, HPN.out, Nat.min_eq_left hi]
          go_loopw [10, 11, 12] (fun vb va vi wr => ∃ (i : Nat) (vB : Value), i ≤ k ∧ vi = .int .i64 i ∧ va = .int .i64 (atM P i : Nat) ∧ vb = vB ∧ wr.ownsRow w.heap.size 5 1 vB (headM k near most ++ rowsM (12 + 16 * k) (P.take i)).length ((headM k near most ++ rowsM (12 + 16 * k) (P.take i)).map (Value.int .u8)) ∧
            wr.ownsRow w.heap.size 27 2 (.slice (some ⟨G3, 0, none⟩) k cp3) k (Q.flatMap pC) ∧ Below w.heap.size w wr) (fun _ _ vi _ => k - (intOf vi).toNat)
          case atStart => exact ⟨0, _, Nat.zero_le _, rfl, by rw [HAT0.out, HPN.out]; go_num, rfl, by simpa [rowsM] using HROW.out, HOWA.out, HBA.out⟩
          case round =>
            obtain ⟨i, vB, hi, rfl, rfl, rfl, hrow, how, hb⟩ := hrel
            have HRW := Bas.hid hrow
            have HOW := Bas.hid how
            have HB := Bas.hid hb
            obtain ⟨bb, hbb⟩ : ∃ bb, headM k near most ++ rowsM (12 + 16 * k) (P.take i) = bb := ⟨_, rfl⟩
            have hbl : bb.length = 12 + 16 * i := by rw [← hbb]; exact HP16.out i hi
            have HBBE := Bas.hid hbb
            rw [hbb] at HRW
            obtain ⟨adB, cpB, hvB⟩ := own_slice HRW.out
            subst hvB
            clear hrow how hb hbb HROW HOWA HBA
            by_cases hik : i < k
            · have e1 : decide ((i : Int) < (k : Int)) = true := by simp; omega
              have e2 : decide (i < k) = true := by simp; omega
              obtain ⟨⟨⟨ct, cd⟩, cv⟩, hx⟩ : ∃ x, Q[i]? = some x := ⟨_, List.getElem?_eq_getElem (by rw [HQL.out]; exact hik)⟩
              obtain ⟨hld, hdb⟩ := HQV.out i _ hx
              have hln1 : cd.length ≤ 1000000 := HDL.out ⟨ct, cd⟩ (by rw [HQP.out]; exact List.mem_map_of_mem (List.mem_of_getElem? hx))
              obtain ⟨ar, cr, hcv⟩ := Row.leads_slice hld
              simp only at hld hdb hcv
              subst hcv
              have hPi : P[i]? = some ⟨ct, cd⟩ := by rw [HQP.out, List.getElem?_map, hx]; rfl
              have hct : ct.size = 4 := HTS.out ⟨ct, cd⟩ (List.mem_of_getElem? hPi)
              obtain ⟨G, C, hv3, -, -, -, hcl⟩ := Row.elem_cells pC_len HOW.out hx (by omega) (by rw [HQL.out])
              cases hv3
              have q0 : wr.cell? ⟨G3, i * 2, none⟩ = some (.string ct) := hcl 0 _ rfl
              have q1 : wr.cell? ⟨G3, i * 2 + 1, none⟩ = some (.slice ar cd.length cr) := hcl 1 _ rfl
              have hcvt : ∀ w' : World, (convert 9 22 (.string ct)).run Try.prog w' = .ok (.slice (some ⟨w'.heap.size, 0, none⟩) ct.size (grownCap w' ct.size 0 5)) (Lib.bytesWorld w' 5 ct) := fun w' =>
                Lib.run_convert_string_bytes w' 9 22 5 ct Try.underlying9 Try.underlying22 Try.underlying5
              have HCT := Bas.hid hct
              clear hct
              go_wp2_with (at_builtin; refine Row.fence ?_)
              refine Row.unfence ?_
              have hbC : Below wr.heap.size wr (Lib.bytesWorld wr 5 ct) := ⟨rfl, rfl, rfl, by rw [Lib.bytesWorld_size]; omega, fun j hj => Lib.bytesWorld_at_old wr 5 ct j hj⟩
              have hldC := leads_bytes wr ct (grownCap wr ct.size 0 5)
              have HRWC := Bas.hid (Row.owned_below HRW.out hbC)
              have HOWC := Bas.hid (Row.owned_below HOW.out hbC)
              have HBC := Bas.hid (Bas.on HB.out hbC)
              have hctt := HCT.out
              refine (Row.append_at rfl _ _ 22 5 rfl (.int .u8 0) 1 1 Try.underlying22 info8 rfl (by decide) w.heap.size (.slice adB bb.length cpB) bb.length _ rfl HRWC.out (.slice (some ⟨wr.heap.size, 0, none⟩) ct.size (grownCap wr ct.size 0 5)) ct.size ((tagB ct).map (Value.int .u8)) rfl hldC (by rw [List.length_map, tagB_len]; omega) (by simp; intros; rfl) (by unfold maxLen; omega) (by omega) HBC.out.size ?_)
              intro vA wA hA1 hA2 _ hA3
              have gA : Grown (Lib.bytesWorld wr 5 ct) w.heap.size (.slice adB bb.length cpB) (bb ++ tagB ct) vA wA := ⟨by simpa only [List.map_append, List.length_append, tagB_len] using hA1, hA2, hA3.imp id fun h => ⟨_, h, Nat.le_refl _⟩⟩
              have HBA := Bas.hid (gA.below HBC.out HBC.out.size (fun g hg => (Row.own_block HRWC.out hg).1))
              have HOWA := Bas.hid (Row.owned_keep HOWC.out fun g hg => gA.grow.block g (Row.own_block HOWC.out hg).2 (fun e => own_apart HOWC.out HRWC.out (by decide) g hg e.symm))
              have hOA := gA.own
              have hneA : vA.ownBlock ≠ some G3 := own_apart HOWA.out hOA (by decide) G3 rfl
              obtain ⟨G, C, hv3, -, lG, -, hcl⟩ := Row.elem_cells pC_len HOWA.out hx (by omega) (by rw [HQL.out])
              cases hv3
              have q1A : wA.cell? ⟨G3, i * 2 + 1, none⟩ = some (.slice ar cd.length cr) := hcl 1 _ rfl
              have hbaseA := HBA.out.size
              have hVD : VB wA.drew ar cd := by
                have h := (vb_of_leads hld hdb rfl (by omega)).below HBA.out
                exact ⟨h.len, h.byte, h.cell⟩
              have hsumb := sumTo_bd cd ((cd.length + 3) / 4)
              have hsumE : sumTo cd ((cd.length + 3) / 4) = sumL cd := rfl
              rw [hsumE] at hsumb
              have hatb := HATB.out i hi
              have hbAl : (bb ++ tagB ct).length ≤ 2000 := by rw [List.length_append, tagB_len, hbl, hctt]; omega
              obtain ⟨bA, hbA⟩ : ∃ l, bb ++ tagB ct = l := ⟨_, rfl⟩
              have HBAE := Bas.hid hbA
              rw [hbA] at hbAl hOA
              clear hbA
              clear hA1 hA2 hA3 gA HRWC HOWC HBC hldC hbC HRW HOW HB q0 q1 hcvt hcl hctt hsumE
              obtain ⟨adA, cpA, hvA⟩ := own_slice hOA
              subst hvA
              go_wp2_with (fail)
              obtain ⟨sm, hsm⟩ : ∃ sm, sumL cd = sm := ⟨_, rfl⟩
              obtain ⟨ln, hln⟩ : ∃ ln, cd.length = ln := ⟨_, rfl⟩
              obtain ⟨am, ham⟩ : ∃ am, atM P i = am := ⟨_, rfl⟩
              have HSUM := Bas.hid (sum_any ar cd.length cr cd wA.drew hVD rfl (by omega))
              rw [hsm] at hsumb HSUM
              rw [hln] at q1A HSUM hln1
              rw [ham] at hatb ⊢
              have d := Row.owned_keep hOA (w' := wA.drew) (fun _ _ => rfl)
              obtain ⟨I, F, i0, F0, Fg, Fw, Fb⟩ := Pl.fam_g wA (Value.slice adA bA.length cpA).ownBlock
              have c1 := fun j => (Bas.gcell (Fb j) (b := G3) (o := i * 2 + 1) lG hneA).trans q1A
              have FH := Bas.hid F0
              have hI : Nonempty I := ⟨i0⟩
              have FW := Bas.hid Fw
              clear F0 Fw Fg Fb hVD
              refine Pl.region_plan0 i0 [(true, 0), (true, 1), (true, 2), (true, 3), (true, 4), (true, 5), (true, 8), (true, 10), (true, 11), (true, 12), (true, 13), (true, 14), (true, 15), (false, 6), (false, 7), (false, 9), (false, 16), (false, 17)] [16, 17] (by kernel_rfl) (by kernel_rfl) (fun _ _ _ _ e h => ⟨e ▸ h.1, h.2⟩) FH.out ?_
              refine Pl.head_sel0 [(true, 0), (true, 1), (true, 2), (true, 3), (true, 4), (true, 5), (true, 8), (true, 10), (true, 11), (true, 12), (true, 13), (true, 14), (true, 15)] (by kernel_rfl) (by kernel_rfl) ?_
              simp only [Pl.sel, List.drop_succ_cons, List.drop_zero]
              repeat (go_big_quiet_step (fail))
              refine wpQuiet_nil ?_
              rw [← FH.out]
              clear c1 FH
              refine Pl.one_sel (by kernel_rfl) ?_
              intro Q' hQ' hP'
              simp only [Pl.sel, List.drop_succ_cons, List.drop_zero]
              go_wp2_with (fail)
              refine HSUM.out.mono ?_
              rintro e x ⟨rfl, rfl⟩
              go_wp2_with (fail)
              refine hQ' _ _ (fun _ _ => FW.out _ (Bas.gdrew (Bas.grefl _ _))) ?_
              clear hQ' hP' Q' HSUM
              refine Pl.one_sel (by kernel_rfl) ?_
              intro Q' hQ' hP'
              simp only [Pl.sel, List.drop_succ_cons, List.drop_zero]
              go_wp2_with (fail)
              refine (put_any sm 4 w.heap.size _ _ wA.drew (by omega) (by omega) (by omega) (by first | omega | (simp only [List.length_append, putB_len]; omega)) hbaseA d).mono ?_
              rintro e x1 ⟨z1, rfl, g1⟩
              have gg := Bas.gtrans (Bas.gdrew (Bas.grefl wA _)) g1.grow
              go_wp2_with (fail)
              refine hQ' _ _ (fun _ _ => FW.out _ gg) ?_
              clear hQ' hP' Q' gg
              refine Pl.one_sel (by kernel_rfl) ?_
              intro Q' hQ' hP'
              simp only [Pl.sel, List.drop_succ_cons, List.drop_zero]
              go_wp2_with (fail)
              refine (put_any (am : Int) 4 w.heap.size _ _ x1 (by omega) (by omega) (by omega) (by first | omega | (simp only [List.length_append, putB_len]; omega)) (Nat.le_trans hbaseA g1.grow.size) g1.own).mono ?_
              rintro e x2 ⟨z2, rfl, g2⟩
              have g12 := g1.trans g2
              have gg := Bas.gtrans (Bas.gdrew (Bas.grefl wA _)) g12.grow
              go_wp2_with (fail)
              refine hQ' _ _ (fun _ _ => FW.out _ gg) ?_
              clear hQ' hP' Q' gg FW g1
              refine Pl.tail_sel [(false, 16), (false, 17)] (by kernel_rfl) (by kernel_rfl) ?_
              simp only [Pl.sel, List.drop_succ_cons, List.drop_zero]
              go_wp2_with (fail)
              refine (put_any (ln : Int) 4 w.heap.size _ _ x2 (by omega) (by omega) (by omega) (by first | omega | (simp only [List.length_append, putB_len]; omega)) (Nat.le_trans hbaseA g12.grow.size) g12.own).mono ?_
              rintro e x3 ⟨z3, rfl, g3⟩
              have g13 := g12.trans g3
              have hOW3 := Row.owned_keep (w' := x3) HOWA.out fun g hg => (g13.grow.block g (Row.own_block HOWA.out hg).2 (fun e => own_apart HOWA.out hOA (by decide) g hg e.symm))
              have HB3 := Bas.hid ((g13.below (w := wA.drew) (HBA.out.drew) hbaseA (fun g hg => (Row.own_block hOA hg).1)))
              have HROW3 := Bas.hid g13.own
              have HOW3 := Bas.hid hOW3
              obtain ⟨G, C, hv3, -, -, -, hcl⟩ := Row.elem_cells pC_len hOW3 hx (by omega) (by rw [HQL.out])
              cases hv3
              have q1D : x3.cell? ⟨G3, i * 2 + 1, none⟩ = some (.slice ar ln cr) := by rw [← hln]; exact hcl 1 _ rfl
              clear g2 g3 g12 g13 hcl hOW3 d HBA HOWA q1A
              go_wp2_with (fail)
              have HAS : Hid (atM P (i + 1) = am + pad4 ln) := by unfold Hid; rw [atM_succ P i _ hPi, ham, hln]
              have HBY3 : Hid (headM k near most ++ rowsM (12 + 16 * k) (P.take (i + 1)) = bA ++ putB sm 4 ++ putB (am : Int) 4 ++ putB (ln : Int) 4) := by
                have h := rowsM_take P i _ hPi
                rw [HPN.out] at h
                unfold Hid
                rw [h, ← List.append_assoc, HBBE.out, ← HBAE.out, rowM]
                simp only [hsm, ham, hln, List.append_assoc]
              go_roundw
              case rel => exact ⟨i + 1, z3, by omega, by go_num, by rw [HAS.out]; unfold pad4; go_num, rfl, by rw [HBY3.out]; exact HROW3.out, HOW3.out, HB3.out⟩
              case measure => simp [intOf]; omega
            · have hik2 : i = k := by omega
              subst hik2
              have HBB0 : Hid (bb = headM i near most ++ rowsM (12 + 16 * i) P) := by
                unfold Hid
                rw [← HBBE.out, List.take_of_length_le (by rw [HPN.out]; exact Nat.le_refl _)]
              go_wp2_with (fail)
              obtain ⟨wp, hwp⟩ : ∃ wo : World, wo = wr := ⟨_, rfl⟩
              rw [← hwp] at HRW HOW HB
              rw [← hwp]
              clear hwp
              have HRW0 : Hid (wp.ownsRow w.heap.size 5 1 (.slice adB bb.length cpB) (bb ++ (P.take 0).flatMap bodyM).length ((bb ++ (P.take 0).flatMap bodyM).map (Value.int .u8))) := by
                have h := HRW.out
                unfold Hid
                simpa using h
              have HLB : Hid (∀ j, j ≤ i → (bb ++ (P.take j).flatMap bodyM).length = atM P j) := by
                intro j hj
                rw [List.length_append, hbl, atM, HPN.out]
              have HLM : Hid (∀ j, atM P j % 4 = 0) := by
                intro j
                unfold atM
                have h4 : ∀ l : List PartD, (l.flatMap bodyM).length % 4 = 0 := by
                  intro l
                  induction l with
                  | nil => rfl
                  | cons p l ih =>
                    have := pad4_le p.data.length
                    rw [List.flatMap_cons, List.length_append, bodyM_len]; omega
                have := h4 (P.take j)
                omega
              clear HRW
              go_loopw [10, 13] (fun vb vi wr => ∃ (j : Nat) (vB : Value), j ≤ i ∧ vi = .int .i64 j ∧ vb = vB ∧ wr.ownsRow w.heap.size 5 1 vB (bb ++ (P.take j).flatMap bodyM).length ((bb ++ (P.take j).flatMap bodyM).map (Value.int .u8)) ∧
                wr.ownsRow w.heap.size 27 2 (.slice (some ⟨G3, 0, none⟩) i cp3) i (Q.flatMap pC) ∧ Below w.heap.size w wr) (fun _ vi _ => i - (intOf vi).toNat)
              case atStart => exact ⟨0, _, Nat.zero_le _, rfl, rfl, HRW0.out, HOW.out, HB.out⟩
              case round =>
                obtain ⟨j, vB, hj, rfl, rfl, hrow, how, hb⟩ := hrel
                have HRW := Bas.hid hrow
                have HOW := Bas.hid how
                have HB := Bas.hid hb
                obtain ⟨b2, hb2⟩ : ∃ b, bb ++ (P.take j).flatMap bodyM = b := ⟨_, rfl⟩
                have hb2l : b2.length = atM P j := by rw [← hb2]; exact HLB.out j hj
                have HB2E := Bas.hid hb2
                rw [hb2] at HRW
                obtain ⟨ad2, cp2, hv2⟩ := own_slice HRW.out
                subst hv2
                have hat2 := HATB.out j hj
                clear hrow how hb hb2 HRW0
                by_cases hjk : j < i
                · have e1 : decide ((j : Int) < (i : Int)) = true := by simp; omega
                  have e2 : decide (j < i) = true := by simp; omega
                  obtain ⟨⟨⟨ct, cd⟩, cv⟩, hx⟩ : ∃ x, Q[j]? = some x := ⟨_, List.getElem?_eq_getElem (by rw [HQL.out]; exact hjk)⟩
                  obtain ⟨hld, hdb⟩ := HQV.out j _ hx
                  obtain ⟨ar, cr, hcv⟩ := Row.leads_slice hld
                  simp only at hld hdb hcv
                  subst hcv
                  have hPi : P[j]? = some ⟨ct, cd⟩ := by rw [HQP.out, List.getElem?_map, hx]; rfl
                  have hln1 : cd.length ≤ 1000000 := HDL.out ⟨ct, cd⟩ (List.mem_of_getElem? hPi)
                  obtain ⟨G, C, hv3, -, -, -, hcl⟩ := Row.elem_cells pC_len HOW.out hx (by omega) (by rw [HQL.out])
                  cases hv3
                  have q1 : wr.cell? ⟨G3, j * 2 + 1, none⟩ = some (.slice ar cd.length cr) := hcl 1 _ rfl
                  have hldw := Row.leads_below hld HB.out
                  have HPT := Bas.hid (Row.take_flat bodyM P j _ hPi)
                  have hb2le : b2.length ≤ 1000000 := by omega
                  have HB2L := Bas.hid hb2l
                  clear hcl hb2l
                  go_wp2_with (at_builtin; refine Row.fence ?_)
                  refine Row.unfence ?_
                  refine (Row.append_at rfl _ _ 22 5 rfl (.int .u8 0) 1 1 Try.underlying22 info8 rfl (by decide) w.heap.size (.slice ad2 b2.length cp2) b2.length _ rfl HRW.out (.slice ar cd.length cr) cd.length (cd.map (Value.int .u8)) rfl (u8_flat cd ▸ hldw) (by rw [List.length_map]; omega) (by simp; intros; rfl) (by unfold maxLen; omega) (by omega) HB.out.size ?_)
                  intro vA wA hA1 hA2 _ hA3
                  have gA : Grown wr w.heap.size (.slice ad2 b2.length cp2) (b2 ++ cd) vA wA := ⟨by simpa only [List.map_append, List.length_append] using hA1, hA2, hA3.imp id fun h => ⟨_, h, Nat.le_refl _⟩⟩
                  have HBA := Bas.hid (gA.below HB.out HB.out.size (fun g hg => (Row.own_block HRW.out hg).1))
                  have HOWA := Bas.hid (Row.owned_keep HOW.out fun g hg => gA.grow.block g (Row.own_block HOW.out hg).2 (fun e => own_apart HOW.out HRW.out (by decide) g hg e.symm))
                  have HROWA : Hid (wA.ownsRow w.heap.size 5 1 vA (b2 ++ cd ++ List.replicate 0 0).length ((b2 ++ cd ++ List.replicate 0 0).map (Value.int .u8))) := by
                    have h := gA.own
                    unfold Hid
                    simpa using h
                  clear hA1 hA2 hA3 gA HRW HOW HB q1 hldw hld
                  go_wp2_with (fail)
                  obtain ⟨pd, hpd⟩ : ∃ pd, pad4 cd.length - cd.length = pd := ⟨_, rfl⟩
                  have hp4 := pad4_le cd.length
                  have hm4 := HLM.out j
                  have HPD4 := Bas.hid hpd
                  go_loopw [10] (fun vb wr => ∃ (t : Nat) (vT : Value), t ≤ pd ∧ vb = vT ∧ wr.ownsRow w.heap.size 5 1 vT (b2 ++ cd ++ List.replicate t 0).length ((b2 ++ cd ++ List.replicate t 0).map (Value.int .u8)) ∧
                    wr.ownsRow w.heap.size 27 2 (.slice (some ⟨G3, 0, none⟩) i cp3) i (Q.flatMap pC) ∧ Below w.heap.size w wr) (fun vb _ => match vb with | .slice _ l _ => atM P j + cd.length + pd - l | _ => 0)
                  case atStart => exact ⟨0, _, Nat.zero_le _, rfl, HROWA.out, HOWA.out, HBA.out⟩
                  case round =>
                    obtain ⟨t, vT, htp, rfl, hrow, how, hb⟩ := hrel
                    have HRT := Bas.hid hrow
                    have HOW := Bas.hid how
                    have HB := Bas.hid hb
                    obtain ⟨bt, hbt⟩ : ∃ b, b2 ++ cd ++ List.replicate t 0 = b := ⟨_, rfl⟩
                    have hbtl : bt.length = atM P j + cd.length + t := by rw [← hbt, List.length_append, List.length_append, HB2L.out, List.length_replicate]
                    have HBTE := Bas.hid hbt
                    rw [hbt] at HRT
                    obtain ⟨adT, cpT, hvT⟩ := own_slice HRT.out
                    subst hvT
                    have HBTL := Bas.hid hbtl
                    obtain ⟨lt, hlt⟩ : ∃ l, bt.length = l := ⟨_, rfl⟩
                    have HLT := Bas.hid hlt
                    rw [hlt] at hbtl
                    rw [hlt]
                    clear hrow how hb hbt hlt HROWA HOWA HBA
                    by_cases htd : t < pd
                    · have hmod : 0 < lt % 4 := by omega
                      have r1 : decide ((0 : Int) < (lt : Int) % 4) = true := by simp; omega
                      have r2 : decide (0 < lt % 4) = true := by simpa using hmod
                      have r3 : decide ((0 : Int) < Int.tmod (lt : Int) 4) = true := by rw [Int.tmod_eq_emod_of_nonneg (by omega)]; exact r1
                      have hltb : lt ≤ 3000000 := by omega
                      clear hbtl
                      go_wp2_with (at_builtin; refine Row.fence ?_)
                      refine Row.unfence ?_
                      have hb3 := (Below.refl wr.heap.size wr).alloc (Nat.le_refl _) (.cells #[.int .u8 0] 5)
                      have k3 := Bas.heap_new wr (.cells #[.int .u8 0] 5)
                      have HR3 := Bas.hid (Row.owned_below HRT.out hb3)
                      have HOW3 := Bas.hid (Row.owned_below HOW.out hb3)
                      have HB3 := Bas.hid (Bas.on HB.out hb3)
                      generalize wr.alloc (.cells #[.int .u8 0] 5) = W3 at *
                      have hltE := HLT.out
                      refine (Row.append_at rfl _ _ 22 5 rfl (.int .u8 0) 1 1 Try.underlying22 info8 rfl (by decide) w.heap.size (.slice adT lt cpT) lt _ rfl (hltE ▸ HR3.out) (.slice (some ⟨wr.heap.size, 0, none⟩) 1 1) 1 [.int .u8 0] rfl (leads_heap k3) rfl (by simp; rfl) (by unfold maxLen; omega) (by omega) HB3.out.size ?_)
                      intro vU wU hU1 hU2 _ hU3
                      have gU : Grown W3 w.heap.size (.slice adT lt cpT) (bt ++ [0]) vU wU := ⟨by rw [List.map_append, List.length_append, hltE]; exact hU1, hU2, hU3.imp id fun h => ⟨_, h, Nat.le_refl _⟩⟩
                      have HBU := Bas.hid (gU.below HB3.out HB3.out.size (fun g hg => (Row.own_block (hltE ▸ HR3.out) hg).1))
                      have HOWU := Bas.hid (Row.owned_keep HOW3.out fun g hg => gU.grow.block g (Row.own_block HOW3.out hg).2 (fun e => own_apart HOW3.out HR3.out (by decide) g hg (by rw [hltE]; exact e.symm)))
                      have HRU : Hid (wU.ownsRow w.heap.size 5 1 vU (b2 ++ cd ++ List.replicate (t + 1) 0).length ((b2 ++ cd ++ List.replicate (t + 1) 0).map (Value.int .u8))) := by
                        have e : b2 ++ cd ++ List.replicate (t + 1) 0 = bt ++ [0] := by rw [← HBTE.out, List.replicate_succ', ← List.append_assoc]
                        unfold Hid
                        rw [e]
                        exact gU.own
                      have hUl : (bt ++ [0]).length = lt + 1 := by rw [List.length_append, hltE]; rfl
                      obtain ⟨adU, cpU, hvU⟩ := own_slice gU.own
                      rw [hUl] at hvU
                      subst hvU
                      have HTL := HBTL.out
                      clear hU1 hU2 hU3 gU HR3 HOW3 HB3 HRT HOW HB k3 hb3 hUl
                      go_wp2_with (fail)
                      go_roundw
                      case rel => exact ⟨t + 1, _, by omega, rfl, HRU.out, HOWU.out, HBU.out⟩
                      case measure => simp; omega
                    · have htd2 : t = pd := by omega
                      have hmod : lt % 4 = 0 := by omega
                      have r1 : decide ((0 : Int) < (lt : Int) % 4) = false := by simp; omega
                      have r2 : decide (0 < lt % 4) = false := by simp; omega
                      have r3 : decide ((0 : Int) < Int.tmod (lt : Int) 4) = false := by rw [Int.tmod_eq_emod_of_nonneg (by omega)]; exact r1
                      have HNX : Hid (bb ++ (P.take (j + 1)).flatMap bodyM = bt) := by
                        unfold Hid
                        rw [HPT.out, ← List.append_assoc, HB2E.out, bodyM, ← List.append_assoc, ← HBTE.out, htd2, ← HPD4.out]
                      clear hmod hbtl htd2
                      go_wp2_with (fail)
                      go_roundw
                      case rel => exact ⟨j + 1, _, by omega, by go_num, rfl, by rw [HNX.out, HLT.out]; exact HLT.out ▸ HRT.out, HOW.out, HB.out⟩
                      case measure => simp [intOf]; omega
                · have hjk2 : j = i := by omega
                  subst hjk2
                  go_wp2_with (fail)
                  go_ret
                  refine ⟨near, most, _, rfl, ?_, HB.out⟩
                  have e : makeM P near most = b2 := by
                    rw [makeM, HPN.out, ← HB2E.out, HBB0.out, List.take_of_length_le (by rw [HPN.out]; exact Nat.le_refl _)]
                  rw [e]
                  exact HRW.out
end Fo
end Go.Proofs.Ytkmbeohheblhhaa
