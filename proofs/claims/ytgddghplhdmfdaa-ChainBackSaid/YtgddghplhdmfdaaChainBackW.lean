/- The walk of the law ChainBack. -/
import Derived.Test.YtgddghplhdmfdaaChainCutsW
import Derived.Test.YtgddghplhdmfdaaChainSame
namespace Go.Proofs.Ytgddghplhdmfdaa
open Go.RowKit Go.ChangeShapes Go.WideShapes
namespace Ch
open Vw Wr

theorem in_below {w w' : World} {v : Value} {l : List WChain} (hin : WChains0 w v l) (hb : Below w.heap.size w w') : WChains0 w' v l := by
  obtain ⟨rs, h1, h2, h3⟩ := hin
  refine ⟨rs, h1, Row.leads_below h2 hb, fun i c r hc hr => ?_⟩
  obtain ⟨h4, ds, h5, h6, h7⟩ := h3 i c r hc hr
  refine ⟨Row.leads_below h4 hb, ds, h5, Row.leads_below h6 hb, fun j s d hs hd => ?_⟩
  obtain ⟨a, len, cap, zs, e1, e2, e3⟩ := h7 j s d hs hd
  refine ⟨a, len, cap, zs, e1, ?_, e3⟩
  rcases e2 with e2 | ⟨x, hx, hl, hm, hz, hc, hw⟩
  · exact .inl e2
  · exact .inr ⟨x, hx, hl, hm, hz, fun i hi => (hb.cell (World.block_lt_of_cell? _ _ (hc i hi))).trans (hc i hi), hw⟩

theorem subsPos_get : ∀ (l : List WSub) (p j : Nat) (s : SubD) (t : WSub), (subsPos p l)[j]? = some s → l[j]? = some t → s.cover = t.cover ∧ s.flags = t.flags ∧ s.len = 12 + t.data.length ∧ ∃ x y, l = x ++ t :: y ∧ s.at' = p + (x.flatMap subB).length
  | [], p, j, s, t, _, h => by simp at h
  | y :: l, p, 0, s, t, h1, h2 => by
    simp [subsPos] at h1 h2
    subst h2; subst h1
    exact ⟨rfl, rfl, rfl, [], l, rfl, by simp⟩
  | y :: l, p, j + 1, s, t, h1, h2 => by
    simp [subsPos] at h1 h2
    obtain ⟨e1, e2, e3, x, z, e4, e5⟩ := subsPos_get l _ j s t h1 h2
    exact ⟨e1, e2, e3, y :: x, z, by rw [e4]; rfl, by rw [e5, List.flatMap_cons, List.length_append, subB_len]; omega⟩
theorem subsPos_len : ∀ (l : List WSub) (p : Nat), (subsPos p l).length = l.length
  | [], _ => rfl
  | y :: l, p => by simp [subsPos, subsPos_len l]
theorem chainsPos_len : ∀ (l : List WChain) (p : Nat), (chainsPos p l).length = l.length
  | [], _ => rfl
  | y :: l, p => by simp [chainsPos, chainsPos_len l]
theorem chainsPos_get : ∀ (l : List WChain) (p k : Nat) (c : PlaceD) (t : WChain), (chainsPos p l)[k]? = some c → l[k]? = some t → c.c.first = t.first ∧ c.c.rules = t.rules ∧ c.c.subs = subsPos (16 + 12 * t.rules.length) t.subs ∧ ∃ x y, l = x ++ t :: y ∧ c.p = p + (x.flatMap chainB).length
  | [], p, j, s, t, _, h => by simp at h
  | y :: l, p, 0, s, t, h1, h2 => by
    simp [chainsPos] at h1 h2
    subst h2; subst h1
    exact ⟨rfl, rfl, rfl, [], l, rfl, by simp⟩
  | y :: l, p, j + 1, s, t, h1, h2 => by
    simp [chainsPos] at h1 h2
    obtain ⟨e1, e2, e3, x, z, e4, e5⟩ := chainsPos_get l _ j s t h1 h2
    exact ⟨e1, e2, e3, y :: x, z, by rw [e4]; rfl, by rw [e5, List.flatMap_cons, List.length_append]; omega⟩

theorem rulesB_len (l : List RuleD) : (l.flatMap ruleB).length = 12 * l.length := by
  induction l with
  | nil => rfl
  | cons x l ih => rw [List.flatMap_cons, List.length_append, ruleB_len, ih, List.length_cons]; omega

/-- The bytes of a subtable are those that were written. -/
theorem data_back (l : List WChain) (more : List Int) (k j : Nat) (c : PlaceD) (t : WChain) (s : SubD) (u : WSub) (hc : (chainsPos 8 l)[k]? = some c) (ht : l[k]? = some t) (hs : c.c.subs[j]? = some s) (hu : t.subs[j]? = some u) :
    dataAt (writeB l ++ more) c s = u.data := by
  obtain ⟨_, _, e3, x, y, e4, e5⟩ := chainsPos_get l 8 k c t hc ht
  rw [e3] at hs
  obtain ⟨_, _, f3, x', y', f4, f5⟩ := subsPos_get t.subs _ j s u hs hu
  have hw : writeB l ++ more = (headB l.length ++ x.flatMap chainB ++ (putB t.first 4 ++ putB (16 + ((inB t).length : Int)) 4 ++ putB (t.rules.length : Int) 4 ++ putB (t.subs.length : Int) 4) ++ t.rules.flatMap ruleB ++ x'.flatMap subB ++ (putB (12 + (u.data.length : Int)) 4 ++ putB u.cover 4 ++ putB u.flags 4)) ++ (u.data ++ (y'.flatMap subB ++ List.replicate (t.more % 8).toNat 0 ++ y.flatMap chainB ++ more)) := by
    have h1 : writeB l = headB l.length ++ (x.flatMap chainB ++ (chainB t ++ y.flatMap chainB)) := by
      unfold writeB
      conv => lhs; rhs; rw [e4]
      rw [List.flatMap_append, List.flatMap_cons]
    have h2 : inB t = t.rules.flatMap ruleB ++ (x'.flatMap subB ++ (subB u ++ y'.flatMap subB)) ++ List.replicate (t.more % 8).toNat 0 := by
      unfold inB
      conv => lhs; lhs; rhs; rw [f4]
      rw [List.flatMap_append, List.flatMap_cons]
    have h3 : chainB t = (putB t.first 4 ++ putB (16 + ((inB t).length : Int)) 4 ++ putB (t.rules.length : Int) 4 ++ putB (t.subs.length : Int) 4) ++ (t.rules.flatMap ruleB ++ (x'.flatMap subB ++ (subB u ++ y'.flatMap subB)) ++ List.replicate (t.more % 8).toNat 0) :=
      congrArg (fun z => (putB t.first 4 ++ putB (16 + ((inB t).length : Int)) 4 ++ putB (t.rules.length : Int) 4 ++ putB (t.subs.length : Int) 4) ++ z) h2
    rw [h1, h3]
    simp only [subB, List.append_assoc]
  unfold dataAt
  rw [hw, f3, e5, f5]
  have hp : (headB l.length ++ x.flatMap chainB ++ (putB t.first 4 ++ putB (16 + ((inB t).length : Int)) 4 ++ putB (t.rules.length : Int) 4 ++ putB (t.subs.length : Int) 4) ++ t.rules.flatMap ruleB ++ x'.flatMap subB ++ (putB (12 + (u.data.length : Int)) 4 ++ putB u.cover 4 ++ putB u.flags 4)).length = 8 + (x.flatMap chainB).length + (16 + 12 * t.rules.length + (x'.flatMap subB).length) + 12 := by
    simp only [List.length_append, putB_len, headB_len, rulesB_len]; omega
  rw [← hp, List.drop_left, show 12 + u.data.length - 12 = u.data.length by omega, List.take_append_of_le_length (Nat.le_refl _), List.take_length]

set_option maxRecDepth 100000 in
set_option maxHeartbeats 16000000 in
theorem chainBack_walk (v : Value) (l : List WChain) (am : Option Addr) (ml mc : Nat) (zm : List Int) (w : World) (hin : WChains0 w v l) (hrg : ∀ c ∈ l, rgChain c) (hm : Bas.IsRow .u8 w am ml mc zm) :
    Calls Try.prog 5 #[v, .slice am ml mc] w fun e w' => e = .returned (.bool true) ∧ Below w.heap.size w w' := by
  have HIN : Hid (∀ w', Below w.heap.size w w' → WChains0 w' v l) := fun w' hb => in_below hin hb
  have HRG := Bas.hid hrg
  have HMORE := Bas.hid hm
  have hmlm : ml ≤ 9223372036854775807 := by
    rcases hm with ⟨rfl, rfl, rfl, rfl⟩ | ⟨x, rfl, hl, hm, _⟩
    · omega
    · unfold maxLen at hm; omega
  have HIN0 := Bas.hid hin
  obtain ⟨rs0, _, hlead, _⟩ := hin
  obtain ⟨ad, cp, rfl⟩ := Row.leads_slice hlead
  clear hlead hrg hm
  go_enter Try.func5, Try.ntmps5
  go_wp2_with (fail)
  refine (speaks_any _).mono ?_
  rintro e w1 ⟨rfl, hb1⟩
  have HB1 := Bas.hid hb1
  clear hb1
  go_wp2_with (fail)
  refine (big_any _ l w1 (HIN.out _ HB1.out)).mono ?_
  rintro e w2 ⟨b, rfl, hb2, hbig⟩
  have HB2 := Bas.hid (Bas.on HB1.out hb2)
  clear hb2
  cases b with
  | true =>
    clear hbig
    go_wp2_with (fail)
    go_ret
    exact ⟨rfl, HB2.out⟩
  | false =>
    obtain ⟨hl, hsz⟩ := hbig rfl
    by_cases hml : 100 < ml
    · have d1 : decide ((100 : Int) < (ml : Int)) = true := by simp; omega
      clear hbig hsz hl
      go_wp2_with (fail)
      go_ret
      exact ⟨rfl, HB2.out⟩
    · have d1 : decide ((100 : Int) < (ml : Int)) = false := by simp; omega
      obtain ⟨hmv, hmlen, hmc, hmm, hmn⟩ := VB_of_row HMORE.out (by omega)
      have hok : ∀ c ∈ l, okChain c := fun c hc => ok_of c (HRG.out c hc) (hsz c hc)
      have HOK := Bas.hid hok
      have HSZ := Bas.hid hsz
      have HW := Bas.hid (write_any _ l w2 hl hok ((HIN.out _ HB2.out).up hsz))
      have HMV := Bas.hid hmv
      generalize zm.take ml = M at *
      clear hbig hsz hok hmv
      go_wp2_with (fail)
      refine HW.out.mono ?_
      rintro e w3 ⟨v3, rfl, hown, hb3⟩
      obtain ⟨hw8, hwl⟩ := writeB_len_le l hl HOK.out
      have HB3 := Bas.hid (Bas.on HB2.out hb3)
      have hld : Row.Leads w3 (.slice am ml mc) ml (M.map (Value.int .u8)) := by
        have h := vb_leads (HMV.out.below HB3.out) mc hmn
        rwa [hmlen] at h
      have HB23 := Bas.hid hb3
      have hb3s := hb3.size
      clear HW hb3
      go_wp2_with (at_builtin; refine Row.fence ?_)
      refine Row.unfence ?_
      refine Row.append_any rfl _ _ 26 5 rfl (.int .u8 0) 1 1 Try.underlying26 info8 rfl (by decide) w2.heap.size v3 _ _ rfl hown (.slice am ml mc) ml _ rfl hld (by simp [hmlen]) (by simp; intros; rfl) (by unfold maxLen; omega) (by omega) hb3s ?_
      intro v4 w4 hown4 hg4 _
      have hown4' : w4.ownsRow w2.heap.size 5 1 v4 (writeB l ++ M).length ((writeB l ++ M).map (Value.int .u8)) := by
        simpa only [List.map_append, List.length_append, hmlen] using hown4
      have HB4 := Bas.hid (HB2.out.trans ((HB23.out.grown hg4 hb3s (fun g hg => (Row.own_block hown hg).1)).mono HB2.out.size))
      have hbyte : ∀ x ∈ writeB l ++ M, 0 ≤ x ∧ x ≤ 255 := fun x hx => (List.mem_append.1 hx).elim (writeB_byte l HOK.out x) (HMV.out.byte x)
      have hL : (writeB l ++ M).length ≤ 36338 := by rw [List.length_append]; omega
      obtain ⟨g, cg, rfl, hgc, hgm, hvg⟩ := written hown4' (by rw [List.length_append]; omega) hbyte (by omega)
      have hp : parseAll (writeB l ++ M) = some (chainsPos 8 l) := all_back l M hl HOK.out
      have HDB := Bas.hid (fun k j c t s u => data_back l M k j c t s u)
      generalize writeB l ++ M = BS at *
      obtain ⟨LB, hLB⟩ : ∃ LB, LB = BS.length := ⟨_, rfl⟩
      have HLB := Bas.hid hLB
      rw [← hLB] at hgc hL
      rw [← hLB]
      have HRD := Bas.hid (chainRead_any (some ⟨g, 0, none⟩) LB cg BS w4 hgc hgm hvg hLB.symm (by omega))
      have HVG := Bas.hid hvg
      clear hown hown4 hown4' hg4 hvg hld HB23 hb3s hLB
      go_wp2_with (fail)
      refine HRD.out.mono ?_
      rintro e w5 ⟨hb5, h⟩
      have HP := Bas.hid hp
      rw [hp] at h
      obtain ⟨v5, rs1, rfl, hrow⟩ := h
      obtain ⟨ad5, cp5, rfl⟩ := own_slice hrow.own
      have H1 := Bas.hid hrow
      have HB5 := Bas.hid (Bas.on HB4.out hb5)
      have HV5 := Bas.hid (HVG.out.below hb5)
      have HLL := Bas.hid (chainsPos_len l 8)
      have hin5 := (HIN.out _ HB5.out).up HSZ.out
      obtain ⟨rs, hrl, hlead, hel⟩ := hin5
      rw [HLL.out]
      obtain ⟨n, hn⟩ : ∃ n, n = l.length := ⟨_, rfl⟩
      rw [← hn]
      have HN := Bas.hid hn
      rw [← hn] at hlead
      have HLD := Bas.hid hlead
      have HRL := Bas.hid hrl
      have HEL := Bas.hid hel
      have hn10 : n ≤ 10 := by omega
      have HSB := Bas.hid hL
      clear hb5 hp hrow hrl hlead hel HRD hL hgc hw8 hwl
      have e0 : ((n : Int) == (n : Int)) = true := by simp
      clear hn
      go_wp2_with (fail)
      go_loopw [7, 8, 9, 10, 11, 12, 13, 14, 43] (fun _ _ _ _ _ _ _ _ vi wr => ∃ k : Nat, k ≤ n ∧ vi = .int .i64 k ∧ Below w5.heap.size w5 wr) (fun _ _ _ _ _ _ _ _ vi _ => n - (intOf vi).toNat)
      case atStart => exact ⟨0, Nat.zero_le _, rfl, Below.refl _ _⟩
      case round =>
        obtain ⟨k, hk, rfl, hb⟩ := hrel
        have HB := Bas.hid hb
        by_cases hkn : k < n
        · have hlen := HN.out
          obtain ⟨t, ht⟩ : ∃ t, l[k]? = some t := ⟨_, List.getElem?_eq_getElem (by omega)⟩
          obtain ⟨c, hc⟩ : ∃ c, (chainsPos 8 l)[k]? = some c := ⟨_, List.getElem?_eq_getElem (by rw [HLL.out]; omega)⟩
          obtain ⟨r1, hr1⟩ : ∃ r, rs1[k]? = some r := ⟨_, List.getElem?_eq_getElem (by rw [H1.out.len, HLL.out]; omega)⟩
          obtain ⟨r2, hr2⟩ : ∃ r, rs[k]? = some r := ⟨_, List.getElem?_eq_getElem (by rw [HRL.out]; omega)⟩
          have hz1 : ((chainsPos 8 l).zip rs1)[k]? = some (c, r1) := List.getElem?_zip_eq_some.2 ⟨hc, hr1⟩
          have hz2 : (l.zip rs)[k]? = some (t, r2) := List.getElem?_zip_eq_some.2 ⟨ht, hr2⟩
          obtain ⟨G1, C1, hvG, hGb, hG, hn63, hcl⟩ := Row.elem_cells chainC_len H1.out.own hz1 (by omega) (by rw [List.length_zip, H1.out.len]; omega)
          obtain ⟨B2, O2, C2, hvG2, hcl2⟩ := Row.leads_elem wChainC_len HLD.out hz2 (by omega)
          obtain ⟨hru2, ds, hdl, hsl2, hsd⟩ := HEL.out k t r2 ht hr2
          obtain ⟨ef, er, es, -⟩ := chainsPos_get l 8 k c t hc ht
          have HR1 := Bas.hid (H1.out.rules k c r1 hc hr1)
          have HS1 := Bas.hid (H1.out.subs k c r1 hc hr1)
          have HR2 := Bas.hid hru2
          have HS2 := Bas.hid hsl2
          have HSD := Bas.hid hsd
          have HDL := Bas.hid hdl
          have HCM := Bas.hid (List.mem_of_getElem? hc)
          have HCK := Bas.hid hc
          have HTK := Bas.hid ht
          have HES := Bas.hid es
          have hoc := HOK.out t (List.mem_of_getElem? ht)
          have HOC := Bas.hid hoc
          obtain ⟨vr1, vs1⟩ := r1
          obtain ⟨vr2, vs2⟩ := r2
          obtain ⟨ar1, cr1, rfl⟩ := own_slice HR1.out
          obtain ⟨as1, cs1, rfl⟩ := own_slice HS1.out
          obtain ⟨ar2, cr2, rfl⟩ := Row.leads_slice HR2.out
          obtain ⟨as2, cs2, rfl⟩ := Row.leads_slice HS2.out
          cases hvG
          cases hvG2
          have q0 := (hb.cell (p := ⟨G1, k * 3, none⟩) hG).trans (hcl 0 _ rfl)
          have q1 := (hb.cell (p := ⟨G1, k * 3 + 1, none⟩) hG).trans (hcl 1 _ rfl)
          have q2 := (hb.cell (p := ⟨G1, k * 3 + 2, none⟩) hG).trans (hcl 2 _ rfl)
          have p0 := (hb.cell (p := ⟨B2, O2 + k * 4, none⟩) (World.block_lt_of_cell? _ _ (hcl2 0 _ rfl))).trans (hcl2 0 _ rfl)
          have p1 := (hb.cell (p := ⟨B2, O2 + k * 4 + 1, none⟩) (World.block_lt_of_cell? _ _ (hcl2 1 _ rfl))).trans (hcl2 1 _ rfl)
          have p2 := (hb.cell (p := ⟨B2, O2 + k * 4 + 2, none⟩) (World.block_lt_of_cell? _ _ (hcl2 2 _ rfl))).trans (hcl2 2 _ rfl)
          have p3 := (hb.cell (p := ⟨B2, O2 + k * 4 + 3, none⟩) (World.block_lt_of_cell? _ _ (hcl2 3 _ rfl))).trans (hcl2 3 _ rfl)
          simp only [er, es, subsPos_len, ef] at q0 q1 q2 HR1 HS1
          obtain ⟨nr, hnr⟩ : ∃ nr, nr = t.rules.length := ⟨_, rfl⟩
          obtain ⟨ns, hns⟩ : ∃ ns, ns = t.subs.length := ⟨_, rfl⟩
          simp only [← hnr, ← hns] at HR1 HR2 HS1 HS2 q1 q2 p1 p2
          have HNR := Bas.hid hnr
          have HNS := Bas.hid hns
          have hnr40 : nr ≤ 40 := by rw [hnr]; exact hoc.2.2.2.2.1
          have hns10 : ns ≤ 10 := by rw [hns]; exact hoc.2.2.2.2.2
          obtain ⟨x, hx⟩ : ∃ x, x = t.first := ⟨_, rfl⟩
          obtain ⟨y, hy⟩ : ∃ y, y = t.more := ⟨_, rfl⟩
          simp only [← hx, ← hy] at q0 p0 p3
          have e1 : ((nr : Int) == (nr : Int)) = true := by simp
          have e2 : ((ns : Int) == (ns : Int)) = true := by simp
          clear hcl hcl2 hz1 hz2 hc hr1 hr2 hb hx hy hnr hns hlen hru2 hsl2 hsd hdl hoc ef er es ht
          go_wp2_with (fail)
          have hbW := (Below.refl wr.heap.size wr).alloc (Nat.le_refl _) (.cells #[.int .u32 x, .slice ar2 nr cr2, .slice as2 ns cs2, .int .u8 y] 42)
          have k6 := Bas.heap_new wr (.cells #[.int .u32 x, .slice ar2 nr cr2, .slice as2 ns cs2, .int .u8 y] 42)
          have l0 := (hbW.cell (p := ⟨G1, k * 3, none⟩) (World.block_lt_of_cell? _ _ q0)).trans q0
          have l1 := (hbW.cell (p := ⟨G1, k * 3 + 1, none⟩) (World.block_lt_of_cell? _ _ q1)).trans q1
          have l2 := (hbW.cell (p := ⟨G1, k * 3 + 2, none⟩) (World.block_lt_of_cell? _ _ q2)).trans q2
          have HB3 := Bas.hid (HB.out.trans (hbW.mono HB.out.size))
          generalize wr.alloc (.cells #[.int .u32 x, .slice ar2 nr cr2, .slice as2 ns cs2, .int .u8 y] 42) = W3 at *
          generalize wr.heap.size = B at k6 ⊢
          have z0 := cell_of_heap (i := 0) (v := .int .u32 x) k6 rfl
          have z1 := cell_of_heap (i := 1) (v := .slice ar2 nr cr2) k6 rfl
          have z2 := cell_of_heap (i := 2) (v := .slice as2 ns cs2) k6 rfl
          clear q0 q1 q2 p0 p1 p2 p3 hbW
          go_quiet (fail)
          go_wp2_with (fail)
          have HB4 := Bas.hid (Bas.below_drewN HB3.out nq)
          have k7 : (W3.drewN nq).heap[B]? = _ := k6
          have m0 : (W3.drewN nq).cell? ⟨G1, k * 3, none⟩ = _ := l0
          have m1 : (W3.drewN nq).cell? ⟨G1, k * 3 + 1, none⟩ = _ := l1
          have m2 : (W3.drewN nq).cell? ⟨G1, k * 3 + 2, none⟩ = _ := l2
          generalize W3.drewN nq = W4 at *
          clear l0 l1 l2 z0 z1 z2 k6
          go_loopw [9, 10, 11, 83] (fun _ _ _ vi wr => ∃ i : Nat, i ≤ nr ∧ vi = .int .i64 i ∧ Below W4.heap.size W4 wr) (fun _ _ _ vi _ => nr - (intOf vi).toNat)
          case atStart => exact ⟨0, Nat.zero_le _, rfl, Below.refl _ _⟩
          case round =>
            obtain ⟨i, hi, rfl, hb⟩ := hrel
            have HBi := Bas.hid hb
            have hs4 := HB4.out.size
            by_cases hin : i < nr
            · have hlen := HNR.out
              obtain ⟨r, hr⟩ : ∃ r, t.rules[i]? = some r := ⟨_, List.getElem?_eq_getElem (by omega)⟩
              obtain ⟨G3, C3, hv3, -, hG3, -, hcl3⟩ := Row.elem_cells (f := ruleC) (l := t.rules) ruleC_len HR1.out hr (by omega) hlen.symm
              obtain ⟨B4, O4, C4, hv4, hcl4⟩ := Row.leads_elem wRuleC_len HR2.out hr (by omega)
              cases hv3
              cases hv4
              have HBw := HB4.out.trans (hb.mono hs4)
              have q0 := (HBw.cell (p := ⟨G3, i * 4, none⟩) hG3).trans (hcl3 0 _ rfl)
              have q1 := (HBw.cell (p := ⟨G3, i * 4 + 1, none⟩) hG3).trans (hcl3 1 _ rfl)
              have q2 := (HBw.cell (p := ⟨G3, i * 4 + 2, none⟩) hG3).trans (hcl3 2 _ rfl)
              have q3 := (HBw.cell (p := ⟨G3, i * 4 + 3, none⟩) hG3).trans (hcl3 3 _ rfl)
              have p0 := (HBw.cell (p := ⟨B4, O4 + i * 4, none⟩) (World.block_lt_of_cell? _ _ (hcl4 0 _ rfl))).trans (hcl4 0 _ rfl)
              have p1 := (HBw.cell (p := ⟨B4, O4 + i * 4 + 1, none⟩) (World.block_lt_of_cell? _ _ (hcl4 1 _ rfl))).trans (hcl4 1 _ rfl)
              have p2 := (HBw.cell (p := ⟨B4, O4 + i * 4 + 2, none⟩) (World.block_lt_of_cell? _ _ (hcl4 2 _ rfl))).trans (hcl4 2 _ rfl)
              have p3 := (HBw.cell (p := ⟨B4, O4 + i * 4 + 3, none⟩) (World.block_lt_of_cell? _ _ (hcl4 3 _ rfl))).trans (hcl4 3 _ rfl)
              obtain ⟨⟨o1, o2⟩, ⟨o3, o4⟩, ⟨o5, o6⟩, ⟨o7, o8⟩⟩ := HOC.out.2.2.1 r (List.mem_of_getElem? hr)
              obtain ⟨r1, r2, r3, r4⟩ := r
              simp only at q0 q1 q2 q3 p0 p1 p2 p3 o1 o2 o3 o4 o5 o6 o7 o8
              have m1' := (hb.cell (p := ⟨G1, k * 3 + 1, none⟩) (World.block_lt_of_cell? _ _ m1)).trans m1
              have m0' := (hb.cell (p := ⟨G1, k * 3, none⟩) (World.block_lt_of_cell? _ _ m0)).trans m0
              have m2' := (hb.cell (p := ⟨G1, k * 3 + 2, none⟩) (World.block_lt_of_cell? _ _ m2)).trans m2
              have HE := Bas.hid ((hb.alloc hb.size (.cells #[.int .u16 r1, .int .u16 r2, .int .u32 r3, .int .u32 r4] 48)).alloc (by have := hb.size; simp; omega) (.cells #[.int .i64 r1, .int .i64 r2, .int .u32 r3, .int .u32 r4] 50))
              have lG1 : G1 < wr.heap.size := World.block_lt_of_cell? _ _ m1'
              have lG3 : G3 < wr.heap.size := World.block_lt_of_cell? _ _ q0
              clear hcl3 hcl4 HBw hr hlen hb
              go_wp2_with (fail)
              go_roundw
              case rel => exact ⟨i + 1, by omega, by go_num, HE.out⟩
              case measure => simp [intOf]; omega
            · have hkn2 : i = nr := by omega
              subst hkn2
              have k8 := (hb.block _ (heap_lt k7)).trans k7
              have c82 := cell_of_heap (i := 2) (v := .slice as2 ns cs2) k8 rfl
              have m0' := (hb.cell (p := ⟨G1, k * 3, none⟩) (World.block_lt_of_cell? _ _ m0)).trans m0
              have m1' := (hb.cell (p := ⟨G1, k * 3 + 1, none⟩) (World.block_lt_of_cell? _ _ m1)).trans m1
              have m2' := (hb.cell (p := ⟨G1, k * 3 + 2, none⟩) (World.block_lt_of_cell? _ _ m2)).trans m2
              clear hb
              go_wp2_with (fail)
              generalize hwo : wr = W5 at *
              clear hwo
              have HBi2 := Bas.hid (HB4.out.trans (HBi.out.mono hs4))
              clear m0 m1 m2 c82 k7
              go_loopw [12, 13, 14, 128] (fun _ _ _ vi wr => ∃ j : Nat, j ≤ ns ∧ vi = .int .i64 j ∧ Below W5.heap.size W5 wr) (fun _ _ _ vi _ => ns - (intOf vi).toNat)
              case atStart => exact ⟨0, Nat.zero_le _, rfl, Below.refl _ _⟩
              case round =>
                obtain ⟨j, hj, rfl, hb⟩ := hrel
                have HBj := Bas.hid hb
                by_cases hjn : j < ns
                · have hlen := HNS.out
                  obtain ⟨u, hu⟩ : ∃ r, t.subs[j]? = some r := ⟨_, List.getElem?_eq_getElem (by omega)⟩
                  obtain ⟨sd, hsd⟩ : ∃ r, c.c.subs[j]? = some r := ⟨_, List.getElem?_eq_getElem (by rw [HES.out, subsPos_len]; omega)⟩
                  obtain ⟨d, hd⟩ : ∃ d, ds[j]? = some d := ⟨_, List.getElem?_eq_getElem (by rw [HDL.out]; omega)⟩
                  have hz : (t.subs.zip ds)[j]? = some (u, d) := List.getElem?_zip_eq_some.2 ⟨hu, hd⟩
                  have hsub : c.c.subs.length = ns := by rw [HES.out, subsPos_len]; exact hlen.symm
                  have hsd2 := hsd
                  rw [HES.out] at hsd2
                  obtain ⟨f1, f2, f3, -⟩ := subsPos_get t.subs _ j sd u hsd2 hu
                  obtain ⟨G3, C3, hv3, -, hG3, -, hcl3⟩ := Row.elem_cells (f := subC (sub (some ⟨g, 0, none⟩) c.p c.size)) (l := c.c.subs) (subC_len _) (by rw [HES.out, ← HNR.out]; exact HS1.out) hsd (by omega) hsub
                  obtain ⟨B4, O4, C4, hv4, hcl4⟩ := Row.leads_elem wSubC_len HS2.out hz (by omega)
                  cases hv3
                  cases hv4
                  obtain ⟨da, dcap, rfl, hdv, hdc, hdm, hdn⟩ := HSD.out j u d hu hd
                  obtain ⟨d1, -, d3, -, -⟩ := data_vb HV5.out HP.out HCM.out (List.mem_of_getElem? hsd) (Nat.le_refl _)
                  rw [HDB.out k j c t sd u HCK.out HTK.out hsd hu] at d1 d3
                  have HBw := HBi2.out.trans (hb.mono HBi2.out.size)
                  have q0 := (HBw.cell (p := ⟨G3, j * 3, none⟩) hG3).trans (hcl3 0 _ rfl)
                  have q1 := (HBw.cell (p := ⟨G3, j * 3 + 1, none⟩) hG3).trans (hcl3 1 _ rfl)
                  have q2 := (HBw.cell (p := ⟨G3, j * 3 + 2, none⟩) hG3).trans (hcl3 2 _ rfl)
                  have p0 := (HBw.cell (p := ⟨B4, O4 + j * 3, none⟩) (World.block_lt_of_cell? _ _ (hcl4 0 _ rfl))).trans (hcl4 0 _ rfl)
                  have p1 := (HBw.cell (p := ⟨B4, O4 + j * 3 + 1, none⟩) (World.block_lt_of_cell? _ _ (hcl4 1 _ rfl))).trans (hcl4 1 _ rfl)
                  have p2 := (HBw.cell (p := ⟨B4, O4 + j * 3 + 2, none⟩) (World.block_lt_of_cell? _ _ (hcl4 2 _ rfl))).trans (hcl4 2 _ rfl)
                  rw [f1] at q0
                  rw [f2] at q1
                  generalize sub (sub (sub (some ⟨g, 0, none⟩) c.p c.size) sd.at' sd.len) 12 (sd.len - 12) = A1 at *
                  obtain ⟨cv, fl, D⟩ := u
                  simp only at q0 q1 q2 p0 p1 p2 f3 hdv hdc d1 d3
                  have hm12 : sd.len - 12 = D.length := by omega
                  obtain ⟨m, hm⟩ : ∃ m, m = D.length := ⟨_, rfl⟩
                  have HM := Bas.hid hm
                  rw [hm12] at q2
                  simp only [← hm] at q2 p2 hdc
                  have hml : m ≤ 300 := by rw [hm]; exact (HOC.out.2.2.2.1 _ (List.mem_of_getElem? hu)).2.2.2
                  clear hm hcl3 hcl4 hsd hlen hu hd hz hsub hsd2 f1 f2 f3 d3 hm12
                  have v1 := d1.below HBw
                  have v2 := hdv.below HBw
                  have hn0 : A1 = none → m = 0 := fun e => by
                    rcases Nat.eq_zero_or_pos m with h | h
                    · exact h
                    · obtain ⟨b, o, h1, _⟩ := d1.cell 0 (by rw [← HM.out]; exact h)
                      rw [e] at h1; cases h1
                  have mm0 := (hb.cell (p := ⟨G1, k * 3, none⟩) (World.block_lt_of_cell? _ _ m0')).trans m0'
                  have mm1 := (hb.cell (p := ⟨G1, k * 3 + 1, none⟩) (World.block_lt_of_cell? _ _ m1')).trans m1'
                  have mm2 := (hb.cell (p := ⟨G1, k * 3 + 2, none⟩) (World.block_lt_of_cell? _ _ m2')).trans m2'
                  have lG1 : G1 < wr.heap.size := World.block_lt_of_cell? _ _ mm0
                  have lG3 : G3 < wr.heap.size := World.block_lt_of_cell? _ _ q0
                  clear d1 hdv m0' m1' m2'
                  go_wp2_with (fail)
                  have hbW0 := (Below.refl wr.heap.size wr).alloc (Nat.le_refl _) (.cells #[.int .u32 cv, .int .u32 fl, .slice da m dcap] 52)
                  have hbW := hbW0.alloc hbW0.size (.cells #[.int .u32 cv, .int .u32 fl, .slice A1 m m] 56)
                  have HBW := Bas.hid (hb.trans (hbW.mono hb.size))
                  have k8 : ((wr.alloc (.cells #[.int .u32 cv, .int .u32 fl, .slice da m dcap] 52)).alloc (.cells #[.int .u32 cv, .int .u32 fl, .slice A1 m m] 56)).heap[wr.heap.size]? = some (.cells #[.int .u32 cv, .int .u32 fl, .slice da m dcap] 52 (0, 0)) := (Below.heap_alloc _ _ _ (by simp)).trans (Bas.heap_new _ _)
                  have k9 : ((wr.alloc (.cells #[.int .u32 cv, .int .u32 fl, .slice da m dcap] 52)).alloc (.cells #[.int .u32 cv, .int .u32 fl, .slice A1 m m] 56)).heap[wr.heap.size + 1]? = some (.cells #[.int .u32 cv, .int .u32 fl, .slice A1 m m] 56 (0, 0)) := Bas.heap_new2 _ _ _
                  have HVV1 := Bas.hid (v1.below hbW)
                  have HVV2 := Bas.hid (v2.below hbW)
                  generalize (wr.alloc (.cells #[.int .u32 cv, .int .u32 fl, .slice da m dcap] 52)).alloc (.cells #[.int .u32 cv, .int .u32 fl, .slice A1 m m] 56) = W6 at *
                  generalize wr.heap.size = B9 at k8 k9 ⊢
                  clear q0 q1 q2 p0 p1 p2 HBw hbW hbW0 hb v1 v2 mm0 mm1 mm2 lG1 lG3
                  obtain ⟨I, F, hI, HF⟩ := Bas.fam W6.heap.size W6
                  have z0 := fun i => Bas.cell_fam HF (heap_lt k9) (cell_of_heap (i := 0) (v := .int .u32 cv) k9 rfl) i
                  have z1 := fun i => Bas.cell_fam HF (heap_lt k9) (cell_of_heap (i := 1) (v := .int .u32 fl) k9 rfl) i
                  have z2 := fun i => Bas.cell_fam HF (heap_lt k9) (cell_of_heap (i := 2) (v := .slice A1 m m) k9 rfl) i
                  have y0 := fun i => Bas.cell_fam HF (heap_lt k8) (cell_of_heap (i := 0) (v := .int .u32 cv) k8 rfl) i
                  have y1 := fun i => Bas.cell_fam HF (heap_lt k8) (cell_of_heap (i := 1) (v := .int .u32 fl) k8 rfl) i
                  have y2 := fun i => Bas.cell_fam HF (heap_lt k8) (cell_of_heap (i := 2) (v := .slice da m dcap) k8 rfl) i
                  have cv2 := fun i => conv_vb (HVV2.out.below (HF.2 i)) m dcap HM.out.symm
                  clear k8 k9
                  refine Pl.region_plan [(true, 0), (true, 1), (true, 2), (true, 3), (true, 4), (true, 5), (true, 6), (true, 7), (true, 8), (true, 9), (true, 10), (true, 11), (true, 12), (true, 13), (true, 14), (true, 17), (true, 18), (true, 19), (false, 15), (false, 16), (false, 20), (false, 21)] [20, 21] (by kernel_rfl) (by kernel_rfl) (fun _ _ _ _ e h => ⟨e ▸ h.1, h.2⟩) (HF.1 _ ((Below.refl _ _).drew)) ?_
                  intro i0
                  refine Pl.head_sel [(true, 0), (true, 1), (true, 2), (true, 3), (true, 4), (true, 5), (true, 6), (true, 7), (true, 8), (true, 9), (true, 10), (true, 11), (true, 12), (true, 13), (true, 14), (true, 17), (true, 18), (true, 19)] (by kernel_rfl) ?_ i0
                  simp only [Pl.sel, List.drop_succ_cons, List.drop_zero]
                  repeat (go_big_quiet_step (fail))
                  refine wpQuiet_nil ?_
                  intro j0
                  have hb6 := HF.2 j0
                  clear z0 z1 z2 y0 y1 y2 cv2
                  refine Pl.one_sel (by kernel_rfl) ?_
                  intro Q' hQ' hP'
                  simp only [Pl.sel, List.drop_succ_cons, List.drop_zero]
                  go_wp2_with (fail)
                  refine (bytes_any A1 m m D _ (Nat.le_refl _) (by unfold maxLen; omega) (HVV1.out.below hb6) HM.out.symm hn0).mono ?_
                  rintro e w7 ⟨vb, rfl, hob, hnb, hb7⟩
                  have HB7 := Bas.hid (Bas.on hb6 hb7)
                  obtain ⟨g7, cg7, rfl, hgb, hgl, hgc7, hgm7, hvg, -⟩ := owned hob hnb rfl HVV1.out.byte HVV1.out.len
                  rw [← HM.out]
                  have cvg := conv_vb hvg m cg7 HM.out.symm
                  clear hob hnb hb7
                  go_wp2_with (fail)
                  refine hQ' _ _ (fun _ _ => HF.1 _ HB7.out) ?_
                  clear hQ' hP' Q'
                  refine Pl.one_sel (by kernel_rfl) ?_
                  intro Q' hQ' hP'
                  simp only [Pl.sel, List.drop_succ_cons, List.drop_zero]
                  go_wp2_with (fail)
                  refine hQ' _ _ (fun _ h => h) ?_
                  clear hQ' hP' Q'
                  refine Pl.tail_sel [(false, 20), (false, 21)] (by kernel_rfl) (by kernel_rfl) ?_
                  simp only [Pl.sel, List.drop_succ_cons, List.drop_zero]
                  have HBE := Bas.hid (HBW.out.trans (HB7.out.mono HBW.out.size))
                  clear cvg HF hvg
                  go_wp2_with (fail)
                  go_roundw
                  case rel => exact ⟨j + 1, by omega, by go_num, HBE.out⟩
                  case measure => simp [intOf]; omega
                · have hjn2 : j = ns := by omega
                  subst hjn2
                  have HE := Bas.hid (HBi2.out.trans (hb.mono HBi2.out.size))
                  clear hb m0' m1' m2'
                  go_wp2_with (fail)
                  go_roundw
                  case rel => exact ⟨k + 1, by omega, by go_num, HE.out⟩
                  case measure => simp [intOf]; omega
        · have hkn2 : k = n := by omega
          subst hkn2
          clear hb
          have HE := Bas.hid (HB5.out.trans (HB.out.mono HB5.out.size))
          go_wp2_with (fail)
          go_ret
          exact ⟨rfl, HE.out⟩

set_option maxRecDepth 100000 in
theorem chainBack_law {H : Type} {enc : TypeId × Value → H} (v : Value) (d : DataW H) (p : List MemPlace) (am : Option Addr) (ml mc : Nat) (zm : List Int) (W : World) {base : Nat}
    (hv : Value.okWide Try.prog W .any base 22 v) (ht : DataW.Trod enc Try.prog W 0 (fun _ => true) true 22 v d p) (hm : Bas.IsRow .u8 W am ml mc zm) :
    Calls Try.prog 5 #[v, .slice am ml mc] W fun e w' => e = .returned (.bool true) ∧ Below W.heap.size W w' := by
  obtain ⟨a, len, cap, rfl⟩ := okWide_slice Try.underlying22 hv
  obtain ⟨fuel, hf⟩ := ht
  obtain ⟨l, h1, h2⟩ := open_chains (v := .slice a len cap) hf
  exact chainBack_walk _ l am ml mc zm W h1 h2 hm
end Ch
end Go.Proofs.Ytgddghplhdmfdaa
