/- The walk of the law SfntOrder. -/
import Derived.Test.YtkmbeohheblhhaaSfSpeak
import Derived.Test.YtkmbeohheblhhaaOpen
namespace Go.Proofs.Ytkmbeohheblhhaa
open Go.RowKit Go.ChangeShapes Go.WideShapes Go.ChangeAt
namespace Sy
open Fo Vw Wr

def vOr (n : Nat) (D : Nat → Pt) (dat : Sl → List Int) : Nat → Pl.VP
  | 1 => fun v u => Outs n D dat v u
  | 2 => fun v _ => ∃ bs, v = .string (strOfNums bs) ∧ OutM n D dat bs
  | 4 => fun v u => Outs n (fun i => D (n - 1 - i)) dat v u
  | _ => fun v _ => ∃ bs, v = .string (strOfNums bs) ∧ OutM n (fun i => D (n - 1 - i)) dat bs
theorem out_same {n : Nat} {xs : List Pt} {D : Nat → Pt} {dat : Sl → List Int} {bs cs : List Int} (hx : Is n xs D) (h : OutM n D dat bs) (k : OutM n (fun i => D (n - 1 - i)) dat cs) : bs = cs := by
  obtain ⟨E, ys, h1, h2, h3, h4⟩ := h
  obtain ⟨F, zs, k1, k2, k3, k4⟩ := k
  obtain ⟨q1, q2⟩ := made_same hx h1 k1 h3 k3 h2 k2
  rcases h4 with ⟨h5, rfl⟩ | ⟨h5, rfl⟩
  · rcases k4 with ⟨_, rfl⟩ | ⟨k5, _⟩
    · rw [q2 h5]
    · exact absurd (q1.1 h5) k5
  · rcases k4 with ⟨k5, _⟩ | ⟨_, rfl⟩
    · exact absurd (q1.2 k5) h5
    · rfl

set_option maxRecDepth 100000 in
set_option maxHeartbeats 8000000 in
theorem sfntOrder_core (ad : Option Addr) (n cap : Nat) (xs : List Pt) (D : Nat → Pt) (dat : Sl → List Int) (w : World) (hl : Row.Leads w (.slice ad n cap) n (xs.flatMap ptC)) (hxs : Is n xs D) (hn : n ≤ 9223372036854775807) (hsz : ∀ i, i < n → (D i).1.size ≤ 9223372036854775807 ∧ (D i).2.2.1 ≤ 9223372036854775807)
    (hdat : ∀ p ∈ xs, Row.Leads w (slV p.2) (dat p.2).length ((dat p.2).flatMap u8C) ∧ (∀ x ∈ dat p.2, 0 ≤ x ∧ x ≤ 255) ∧ (dat p.2).length = p.2.2.1) :
    Calls Try.prog 4 #[.slice ad n cap] w fun e w' => e = .returned (.bool true) ∧ Below w.heap.size w w' := by
  have HL := Bas.hid hl
  have HX := Bas.hid hxs
  have HDT := Bas.hid hdat
  have HBIG := Bas.hid (fun w' (hb : Below w.heap.size w w') => big_any ad n cap xs D w' (Row.leads_below hl hb) hxs hn hsz)
  clear hl hxs hsz hdat
  go_enter Try.func4, Try.ntmps4
  go_wp2_with (fail)
  refine (sspeaks_any w).mono ?_
  rintro e w1 ⟨rfl, hb1⟩
  have HB1 := Bas.hid hb1
  clear hb1
  go_wp2_with (fail)
  refine (HBIG.out w1 HB1.out).mono ?_
  rintro e w2 ⟨b, rfl, hb2, hsm⟩
  have HB2 := Bas.hid (HB1.out.trans (hb2.mono HB1.out.size))
  clear hb2 HBIG HB1
  cases b with
  | true =>
    clear hsm
    go_wp2_with (fail)
    go_ret
    exact ⟨rfl, HB2.out⟩
  | false =>
    obtain ⟨hn30, hsm⟩ := hsm rfl
    have HBY : Hid (∀ w', Below w.heap.size w w' → Bytes w' xs dat) := by
      intro w' hb p hp
      obtain ⟨h1, h2, h3⟩ := HDT.out p hp
      refine ⟨Row.leads_below h1 hb, h2, ?_⟩
      obtain ⟨j, hj⟩ := List.getElem?_of_mem hp
      have hjn : j < n := by have := (List.getElem?_eq_some_iff.1 hj).1; have := HX.out.1; omega
      have hpj := HX.out.2 j hjn
      rw [hj] at hpj
      have := (hsm j hjn).2
      rw [h3, Option.some.inj hpj]
      exact this
    have HRV : Hid (∀ i, i < n → xs.reverse[i]? = some (D (n - 1 - i))) := (is_reverse HX.out).2
    have HRL : Hid (xs.reverse.length = n) := (is_reverse HX.out).1
    clear hsm HDT
    go_wp2_with (fail)
    obtain ⟨wo, hwo⟩ : ∃ wo : World, wo = w2 := ⟨_, rfl⟩
    rw [← hwo] at HB2
    rw [← hwo]
    clear hwo
    go_loopw [3, 11] (fun vb vi wr => ∃ (i : Nat) (vB : Value), i ≤ n ∧ vb = vB ∧ vi = .int .i64 i ∧ wr.ownsRow w.heap.size 37 2 vB i ((xs.reverse.take i).flatMap ptC) ∧ Below w.heap.size w wr) (fun _ vi _ => n - (intOf vi).toNat)
    case atStart => exact ⟨0, _, Nat.zero_le _, rfl, rfl, by simpa using Row.owned_nil wo w.heap.size 37 2, HB2.out⟩
    case round =>
      obtain ⟨i, vB, hi, rfl, rfl, hrow, hb⟩ := hrel
      have HRW := Bas.hid hrow
      have HB := Bas.hid hb
      clear hb
      by_cases hin : i < n
      · have f1 : decide ((i : Int) < (n : Int)) = true := by simp; omega
        have f2 : decide (i < n) = true := by simp; omega
        obtain ⟨bo, o, c, hv, hcell⟩ := Row.leads_elem ptC_len (Row.leads_below HL.out HB.out) (HX.out.2 (n - 1 - i) (by omega)) (by omega)
        cases hv
        have p0 := hcell 0 _ rfl
        have p1 := hcell 1 _ rfl
        obtain ⟨⟨s0, x0, l0, k0⟩, hd0⟩ : ∃ p, D (n - 1 - i) = p := ⟨_, rfl⟩
        rw [hd0] at p0 p1
        have HTK : Hid ((xs.reverse.take (i + 1)).flatMap ptC = (xs.reverse.take i).flatMap ptC ++ [.string s0, .slice x0 l0 k0]) := by
          unfold Hid
          rw [Row.take_flat ptC xs.reverse i _ (HRV.out i hin), hd0]
          rfl
        simp only [Nat.add_zero] at p0 p1
        have z1 : IntKind.i64.wrap ((n : Int) - 1) = ((n - 1 : Nat) : Int) := by rw [IntKind.wrap_i64]; omega
        have z2 : (n : Int) - 1 = ((n - 1 : Nat) : Int) := by omega
        have z3 : IntKind.i64.wrap (((n - 1 : Nat) : Int) - (i : Int)) = ((n - 1 - i : Nat) : Int) := by rw [IntKind.wrap_i64]; omega
        have z4 : ((n - 1 : Nat) : Int) - (i : Int) = ((n - 1 - i : Nat) : Int) := by omega
        have g5 : decide (((n - 1 - i : Nat) : Int) < (n : Int)) = true := by simp; omega
        have hb3 := (Below.refl wr.heap.size wr).alloc (Nat.le_refl _) (.cells #[.string s0, .slice x0 l0 k0] 37)
        have k3 := Bas.heap_new wr (.cells #[.string s0, .slice x0 l0 k0] 37)
        have HR3 := Bas.hid (Row.owned_below hrow hb3)
        have HB3 := Bas.hid (Bas.on HB.out hb3)
        obtain ⟨aB, cB, hvB⟩ := own_slice hrow
        subst hvB
        clear hcell hd0 hrow
        go_wp2_with (at_builtin; refine Row.fence ?_)
        refine Row.unfence ?_
        generalize wr.alloc (.cells #[.string s0, .slice x0 l0 k0] 37) = w3 at *
        refine (Row.append_any rfl _ _ 35 37 rfl (.agg #[.string ⟨#[]⟩, .slice none 0 0]) 2 40 Try.underlying35 infoQ rfl (by decide) w.heap.size (.slice aB i cB) i _ rfl HR3.out (.slice (some ⟨wr.heap.size, 0, none⟩) 1 1) 1 [.string s0, .slice x0 l0 k0] rfl (leads_heap k3) rfl (by simp; exact ⟨rfl, rfl⟩) (by unfold maxLen; omega) (by omega) HB3.out.size ?_)
        intro v4 w4 h41 h42 _
        have HR4 : Hid (w4.ownsRow w.heap.size 37 2 v4 (i + 1) ((xs.reverse.take (i + 1)).flatMap ptC)) := by unfold Hid; rw [HTK.out]; exact h41
        have HB4 := Bas.hid (HB3.out.grown h42 HB3.out.size (fun g hg => (Row.own_block HR3.out hg).1))
        clear h41 h42 k3 hb3 HR3 HB3 p0 p1 z1 z2 z3 z4 g5
        go_wp2_with (fail)
        go_roundw
        case rel => exact ⟨i + 1, v4, by omega, rfl, by go_num, HR4.out, HB4.out⟩
        case measure => simp [intOf]; omega
      · obtain rfl : n = i := by omega
        have f1 : decide ((n : Int) < (n : Int)) = false := by simp
        obtain ⟨aB, cB, hvB⟩ := own_slice hrow
        subst hvB
        have HLR : Hid (Row.Leads wr (.slice aB n cB) n (xs.reverse.flatMap ptC)) := by
          have h := Row.leads_owned hrow
          rw [List.take_of_length_le (by rw [HRL.out]; exact Nat.le_refl _)] at h
          exact h
        have HBYR : Hid (∀ w', Below w.heap.size w w' → Bytes w' xs.reverse dat) := fun w' hb p hp => HBY.out w' hb p (List.mem_reverse.1 hp)
        clear hrow HRW
        go_wp2_with (fail)
        refine' Pl.region_vd 33 [3] [0] [(1, 27), (2, 28), (4, 30), (5, 31)] [6, 7] (fun i => if i = 2 then [(1, 27)] else if i = 5 then [(4, 30)] else []) _ (vOr n D dat) (by kernel_rfl) (by kernel_rfl) (by kernel_rfl) (by simp) (fun _ _ _ _ e h => ⟨e ▸ h.1, h.2⟩) ?_ ?_ ?_ ?_
        rotate_left
        · intro I F hI hF
          simp only [Pl.selN, List.nil_append, List.cons_append, List.drop_succ_cons, List.drop_zero]
          repeat (go_big_quiet_step (fail))
          refine wpQuiet_nil ?_
          rfl
        · intro z hz v u u' h1 hb1 hb2
          simp only [List.mem_cons, List.not_mem_nil, or_false] at hz
          rcases hz with rfl | rfl | rfl | rfl
          · exact Outs.below h1 hb2
          · exact h1
          · exact Outs.below h1 hb2
          · exact h1
        · intro z hz o ho f u hu hd
          simp only [List.mem_cons, List.not_mem_nil, or_false] at hz
          rcases hz with rfl | rfl | rfl | rfl
          · simp only [Pl.selN, List.drop_succ_cons, List.drop_zero, List.mem_singleton] at ho
            subst ho
            go_simp
            simp only [Pl.valsAt]
            have hbu := HB.out.trans (hu.mono HB.out.size)
            refine (smake_out _ xs dat D n u (Row.leads_below HL.out hbu) HX.out hn30 (HBY.out u hbu)).mono ?_
            rintro e w'' ⟨v, rfl, hb, hout⟩
            exact .inl ⟨_, rfl, hb, hout⟩
          · simp only [Pl.selN, List.drop_succ_cons, List.drop_zero, List.mem_singleton] at ho
            subst ho
            obtain ⟨a, cp, bs, hv, h2, h3, h4, h5⟩ := hd (1, 27) (by simp)
            obtain ⟨s5, hs5⟩ : ∃ s5, f 1 = s5 := ⟨_, rfl⟩
            simp only at hv
            rw [hs5] at hv
            simp only [if_true, List.foldl_cons, List.foldl_nil, Act.put, List.setIfInBounds_toArray, List.set_cons_zero, List.set_cons_succ, hs5]
            subst hv
            have hcv := conv_vb (w := u) h4 bs.length cp rfl
            go_simp
            simp only [Pl.valsAt]
            exact ⟨Below.refl _ _, bs, rfl, h5⟩
          · simp only [Pl.selN, List.drop_succ_cons, List.drop_zero, List.mem_singleton] at ho
            subst ho
            go_simp
            simp only [Pl.valsAt]
            have hbu := HB.out.trans (hu.mono HB.out.size)
            refine (smake_out _ xs.reverse dat _ n u (Row.leads_below HLR.out hu) (is_reverse HX.out) hn30 (HBYR.out u hbu)).mono ?_
            rintro e w'' ⟨v, rfl, hb, hout⟩
            exact .inl ⟨_, rfl, hb, hout⟩
          · simp only [Pl.selN, List.drop_succ_cons, List.drop_zero, List.mem_singleton] at ho
            subst ho
            obtain ⟨a, cp, bs, hv, h2, h3, h4, h5⟩ := hd (4, 30) (by simp)
            obtain ⟨s5, hs5⟩ : ∃ s5, f 4 = s5 := ⟨_, rfl⟩
            simp only at hv
            rw [hs5] at hv
            simp only [Nat.reduceEqDiff, if_false, if_true, List.foldl_cons, List.foldl_nil, Act.put, List.setIfInBounds_toArray, List.set_cons_zero, List.set_cons_succ, hs5]
            subst hv
            have hcv := conv_vb (w := u) h4 bs.length cp rfl
            go_simp
            simp only [Pl.valsAt]
            exact ⟨Below.refl _ _, bs, rfl, h5⟩
        · intro f u hu hV
          obtain ⟨bs, h2, hm1⟩ := hV (2, 28) (by simp)
          obtain ⟨cs, h5, hm2⟩ := hV (5, 31) (by simp)
          simp only at h2 h5
          have he := out_same HX.out hm1 hm2
          subst he
          obtain ⟨z1, hz1⟩ : ∃ z, f 1 = z := ⟨_, rfl⟩
          obtain ⟨z4, hz4⟩ : ∃ z, f 4 = z := ⟨_, rfl⟩
          obtain ⟨S, hS⟩ : ∃ S, strOfNums bs = S := ⟨_, rfl⟩
          rw [hS] at h2 h5
          simp only [Pl.selN, List.drop_succ_cons, List.drop_zero, List.foldl_cons, List.foldl_nil, Act.put, List.setIfInBounds_toArray, List.set_cons_zero, List.set_cons_succ, h2, h5, hz1, hz4]
          have HB5 := Bas.hid (HB.out.trans (hu.mono HB.out.size))
          have hss : (S.toList == S.toList) = true := by simp
          clear hu hV h2 h5 hz1 hz4 hm1 hm2 hS
          go_wp2_with (fail)
          go_ret
          exact ⟨rfl, HB5.out⟩

theorem pair2 {c : List Value} (h : c.length = 2) {a b : Value} (h0 : c[0]? = some a) (h1 : c[1]? = some b) : c = [a, b] := by
  match c, h with
  | [x, y], _ => simp at h0 h1; subst h0 h1; rfl
def goodP (w : World) (p : Pt) : Prop := p.1.size ≤ maxLen ∧ ∃ zs, Bas.IsRow .u8 w p.2.1 p.2.2.1 p.2.2.2 zs
theorem row_bytes {w : World} {s : Sl} {zs : List Int} (h : Bas.IsRow .u8 w s.1 s.2.1 s.2.2 zs) : ∃ bs : List Int, Row.Leads w (slV s) bs.length (bs.flatMap u8C) ∧ (∀ x ∈ bs, 0 ≤ x ∧ x ≤ 255) ∧ bs.length = s.2.1 := by
  obtain ⟨a, len, cap⟩ := s
  rcases h with ⟨h1, h2, h3, rfl⟩ | ⟨x, h1, hl, hm, hz, hcell, hwz⟩
  · simp only at h1 h2 h3
    subst h1 h2 h3
    exact ⟨[], .inl ⟨rfl, rfl, rfl⟩, fun x hx => (by cases hx), rfl⟩
  · simp only at h1 hl hm hz hcell
    subst h1
    have hlen : (zs.take len).length = len := by rw [List.length_take]; omega
    refine ⟨zs.take len, ?_, fun y hy => Bas.wf_u8 (hwz y (List.mem_of_mem_take hy)), hlen⟩
    rw [hlen]
    refine .inr ⟨x, cap, rfl, fun j u hu => ?_⟩
    rw [u8_flat, List.getElem?_map] at hu
    have hj : j < len := by
      by_cases hj : j < len
      · exact hj
      · rw [List.getElem?_take_eq_none (by omega)] at hu; cases hu
    rw [List.getElem?_take_of_lt hj, List.getElem?_eq_getElem (by omega)] at hu
    cases hu
    rw [hcell j (by omega), List.getD_eq_getElem?_getD, List.getElem?_eq_getElem (by omega)]
    rfl

set_option maxRecDepth 100000 in
theorem sfntOrder_walk {H : Type} {enc : TypeId × Value → H} (v : Value) (d : DataW H) (p : List MemPlace) (W : World) {base : Nat} (hv : Value.okWide Try.prog W .any base 35 v) (ht : DataW.Trod enc Try.prog W 0 (fun _ => true) true 35 v d p) :
    Calls Try.prog 4 #[v] W fun e w' => e = .returned (.bool true) ∧ Below W.heap.size W w' := by
  obtain ⟨a0, len0, cap0, rfl⟩ := okWide_slice Try.underlying35 hv
  obtain ⟨fuel, h⟩ := ht
  obtain ⟨ad, n, cap, xs, hv2, hn, hl, hlen, hg⟩ : ∃ ad n cap, ∃ xs : List Pt, Value.slice a0 len0 cap0 = .slice ad n cap ∧ n ≤ maxLen ∧ Row.Leads W (.slice ad n cap) n (xs.flatMap ptC) ∧ xs.length = n ∧ ∀ p ∈ xs, goodP W p := by
    rcases Go.Deep.open_slice Try.underlying35 h with ⟨h0, _⟩ | ⟨a, len, cap, m, n, D, Pl, h0, _, hl, hm, hmm, _, hx⟩
    · cases h0
      exact ⟨none, 0, 0, [], rfl, Nat.zero_le _, .inl ⟨rfl, rfl, rfl⟩, rfl, fun p hp => by cases hp⟩
    · cases h0
      have hc2 : Try.prog.cellsOf 37 = 2 := by kernel_rfl
      rw [hc2] at hx
      obtain ⟨l, h1, h2, h3⟩ := Bas.open_elems (f := ptC) (good := goodP W) (by omega) ptC_len (w := W) (base := 0) (a := a) (len := len0) (cap := cap0) (fun i hi => by
        obtain ⟨cs, e1, e2⟩ := hx i (by rw [hmm]; simp; omega)
        refine ⟨cs, e1, ?_⟩
        obtain ⟨_, hlen, _⟩ := World.cells?_some e1
        obtain ⟨_, v0, y0, m0, f0, t0⟩ := Bas.open_field 0 _ Try.underlying37 e2 rfl (by kernel_rfl) (by rw [hc2]; decide)
        obtain ⟨_, v1, y1, m1, f1, t1⟩ := Bas.open_field 1 _ Try.underlying37 e2 rfl (by kernel_rfl) (by rw [hc2]; decide)
        obtain ⟨s, hs, _, hsz⟩ := DataW.trod_string (by kernel_rfl) t0
        cases hs
        obtain ⟨a2, l2, c2, z2, rfl, hz⟩ := Bas.open_bytes (e := 5) (by kernel_rfl) Try.underlying5 (by kernel_rfl) t1
        exact ⟨(s, (a2, l2, c2)), pair2 hlen f0 f1, hsz, z2, hz⟩)
      exact ⟨some a, len0, cap0, l, rfl, by omega, h2, h1, h3⟩
  rw [hv2]
  have hD : Is n xs (fun i => xs.getD i (⟨#[]⟩, (none, 0, 0))) := ⟨hlen, fun i hi => by
    show _ = some (xs.getD i _)
    rw [List.getD_eq_getElem?_getD, List.getElem?_eq_getElem (by omega)]; rfl⟩
  obtain ⟨dat, hdat⟩ : ∃ dat : Sl → List Int, ∀ p ∈ xs, Row.Leads W (slV p.2) (dat p.2).length ((dat p.2).flatMap u8C) ∧ (∀ x ∈ dat p.2, 0 ≤ x ∧ x ≤ 255) ∧ (dat p.2).length = p.2.2.1 := by
    refine ⟨fun s => Classical.epsilon fun bs => Row.Leads W (slV s) bs.length (bs.flatMap u8C) ∧ (∀ x ∈ bs, 0 ≤ x ∧ x ≤ 255) ∧ bs.length = s.2.1, fun p hp => ?_⟩
    obtain ⟨_, zs, hz⟩ := hg p hp
    exact Classical.epsilon_spec (row_bytes hz)
  refine sfntOrder_core ad n cap xs _ dat W hl hD (by unfold maxLen at hn; omega) (fun i hi => ?_) hdat
  have hm : (xs.getD i (⟨#[]⟩, (none, 0, 0))) ∈ xs := List.mem_of_getElem? (hD.2 i hi)
  obtain ⟨h1, zs, hz⟩ := hg _ hm
  refine ⟨by unfold maxLen at h1; omega, ?_⟩
  rcases hz with ⟨_, h2, _⟩ | ⟨x, _, h2, h3, _⟩
  · rw [h2]; omega
  · unfold maxLen at h3; omega
end Sy
end Go.Proofs.Ytkmbeohheblhhaa
