/- The law's own 'same' (layer 19). -/
import Derived.Test.YtgddghplhdmfdaaChainRefB
import Derived.Test.YtgddghplhdmfdaaRowB
namespace Go.Proofs.Ytgddghplhdmfdaa
open Go.RowKit
namespace Ch
open Vw Ref01

/-- What a subtable's bytes are. -/
def dataAt (bs : List Int) (c : PlaceD) (s : SubD) : List Int := (bs.drop (c.p + s.at' + 12)).take (s.len - 12)

theorem subsAt_mem (bs : List Int) : ∀ (n p : Nat) (l : List SubD), subsAt bs n p = some l → ∀ s ∈ l, 12 ≤ s.len ∧ s.at' + s.len ≤ bs.length
  | 0, p, l, h, s, hs => by
    have : l = [] := by simpa [subsAt] using h.symm
    subst this; cases hs
  | n + 1, p, l, h, s, hs => by
    rw [subsAt] at h
    split at h
    · rename_i hc
      obtain ⟨l', hl', rfl⟩ := Option.map_eq_some_iff.1 h
      rcases List.mem_cons.1 hs with rfl | hs
      · exact ⟨hc.2.1, hc.2.2⟩
      · exact subsAt_mem bs n _ l' hl' s hs
    · cases h

theorem one_mem {bs : List Int} {c : ChainD} (h : parseOne bs = some c) : ∀ s ∈ c.subs, 12 ≤ s.len ∧ s.at' + s.len ≤ bs.length := by
  unfold parseOne at h
  split at h
  · obtain ⟨l, hl, rfl⟩ := Option.map_eq_some_iff.1 h
    exact subsAt_mem bs _ _ l hl
  · cases h

theorem chains_mem (bs : List Int) : ∀ (n p : Nat) (l : List PlaceD), chainsAt bs n p = some l → ∀ c ∈ l, c.p + c.size ≤ bs.length ∧ parseOne ((bs.drop c.p).take c.size) = some c.c
  | 0, p, l, h, c, hc => by
    have : l = [] := by simpa [chainsAt] using h.symm
    subst this; cases hc
  | n + 1, p, l, h, c, hc => by
    rw [chainsAt] at h
    split at h
    · rename_i hcc
      obtain ⟨x, hx, h2⟩ := Option.bind_eq_some_iff.1 h
      obtain ⟨l', hl', rfl⟩ := Option.map_eq_some_iff.1 h2
      rcases List.mem_cons.1 hc with rfl | hc
      · exact ⟨hcc.2.2, hx⟩
      · exact chains_mem bs n _ l' hl' c hc
    · cases h

theorem all_mem {bs : List Int} {cs : List PlaceD} (h : parseAll bs = some cs) : ∀ c ∈ cs, c.p + c.size ≤ bs.length ∧ parseOne ((bs.drop c.p).take c.size) = some c.c := by
  unfold parseAll at h
  split at h
  · exact chains_mem bs _ _ cs h
  · cases h

/-- Where a subtable's bytes stand. -/
theorem data_vb {w : World} {a : Option Addr} {bs : List Int} {cs : List PlaceD} (hv : VB w a bs) (h : parseAll bs = some cs) {c : PlaceD} (hc : c ∈ cs) {s : SubD} (hs : s ∈ c.c.subs) {cap : Nat} (hcap : bs.length ≤ cap) :
    VB w (sub (sub (sub a c.p c.size) s.at' s.len) 12 (s.len - 12)) (dataAt bs c s) ∧ VB w (sub (sub a c.p (cap - c.p)) (s.at' + 12) (cap - c.p - (s.at' + 12))) (dataAt bs c s) ∧ (dataAt bs c s).length = s.len - 12 ∧ s.len - 12 ≤ cap - c.p - (s.at' + 12) ∧ s.len ≤ bs.length := by
  obtain ⟨h1, h2⟩ := all_mem h c hc
  obtain ⟨h3, h4⟩ := one_mem h2 s hs
  have hl : ((bs.drop c.p).take c.size).length = c.size := by rw [List.length_take, List.length_drop]; omega
  rw [hl] at h4
  have v1 := hv.sub c.p c.size h1
  have v2 := v1.sub s.at' s.len (by rw [hl]; exact h4)
  have hl2 : ((((bs.drop c.p).take c.size).drop s.at').take s.len).length = s.len := by rw [List.length_take, List.length_drop, hl]; omega
  have v3 := v2.sub 12 (s.len - 12) (by rw [hl2]; omega)
  have v4 := VB.win hv c.p c.size (cap - c.p) h1 (by omega)
  have v5 := VB.win v4 (s.at' + 12) (s.len - 12) (cap - c.p - (s.at' + 12)) (by rw [hl]; omega) (by omega)
  have e1 : ((((((bs.drop c.p).take c.size).drop s.at').take s.len).drop 12).take (s.len - 12)) = dataAt bs c s := by
    unfold dataAt
    simp only [List.drop_take, List.take_take, List.drop_drop]
    rw [show min (s.len - 12) (min s.len (c.size - s.at') - 12) = s.len - 12 by omega]
  have e2 : ((((bs.drop c.p).take c.size).drop (s.at' + 12)).take (s.len - 12)) = dataAt bs c s := by
    unfold dataAt
    simp only [List.drop_take, List.take_take, List.drop_drop]
    rw [show min (s.len - 12) (c.size - (s.at' + 12)) = s.len - 12 by omega, show c.p + (s.at' + 12) = c.p + s.at' + 12 by omega]
  rw [e1] at v3
  rw [e2] at v5
  refine ⟨v3, v5, ?_, by omega, by omega⟩
  unfold dataAt
  rw [List.length_take, List.length_drop]; omega

theorem chainC_len (x : PlaceD × (Value × Value)) : (chainC x).length = 3 := rfl
theorem ruleC_len (r : RuleD) : (ruleC r).length = 4 := rfl
theorem subC_len (a : Option Addr) (s : SubD) : (subC a s).length = 3 := rfl
theorem subR_len (a : Option Addr) (cap : Nat) (s : SubD) : (subR a cap s).length = 3 := rfl

set_option maxRecDepth 100000 in
set_option maxHeartbeats 8000000 in
theorem same_any (a : Option Addr) (cap : Nat) (bs : List Int) (v1 v2 : Value) (cs : List PlaceD) (rs1 rs2 : List (Value × Value)) (b1 b2 : Nat) (w : World) (hcap : bs.length ≤ cap) (hlm : bs.length ≤ 1000000000) (hv : VB w a bs) (hpa : parseAll bs = some cs) (hcm : cap ≤ maxLen)
    (h1 : ChRow w b1 a v1 cs rs1) (h2 : RRow w b2 a cap v2 cs rs2) :
    Calls Try.prog 19 #[v1, v2] w fun e w' => e = .returned (.bool true) ∧ Below w.heap.size w w' := by
  obtain ⟨a1, c1, rfl⟩ := own_slice h1.own
  obtain ⟨a2, c2, rfl⟩ := own_slice h2.own
  have H1 := Bas.hid h1
  have H2 := Bas.hid h2
  have HV := Bas.hid hv
  have HP := Bas.hid hpa
  obtain ⟨n, hn⟩ : ∃ n, n = cs.length := ⟨_, rfl⟩
  have HN := Bas.hid hn
  rw [← hn]
  clear hv h1 h2 hpa hn
  have e0 : (n : Int) = (n : Int) := rfl
  go_enter Try.func19, Try.ntmps19
  go_wp2_with (fail)
  go_loopw [5, 6, 7, 8, 9, 10, 11, 19] (fun _ _ _ _ _ _ _ vi wr => ∃ k : Nat, k ≤ n ∧ vi = .int .i64 k ∧ Below w.heap.size w wr) (fun _ _ _ _ _ _ _ vi _ => n - (intOf vi).toNat)
  case atStart => exact ⟨0, Nat.zero_le _, rfl, Below.refl _ _⟩
  case round =>
    obtain ⟨k, hk, rfl, hb⟩ := hrel
    have HB := Bas.hid hb
    by_cases hkn : k < n
    · have hlen := HN.out
      obtain ⟨c, hc⟩ : ∃ c, cs[k]? = some c := ⟨_, List.getElem?_eq_getElem (by omega)⟩
      obtain ⟨r1, hr1⟩ : ∃ r, rs1[k]? = some r := ⟨_, List.getElem?_eq_getElem (by rw [H1.out.len]; omega)⟩
      obtain ⟨r2, hr2⟩ : ∃ r, rs2[k]? = some r := ⟨_, List.getElem?_eq_getElem (by rw [H2.out.len]; omega)⟩
      have hz1 : (cs.zip rs1)[k]? = some (c, r1) := List.getElem?_zip_eq_some.2 ⟨hc, hr1⟩
      have hz2 : (cs.zip rs2)[k]? = some (c, r2) := List.getElem?_zip_eq_some.2 ⟨hc, hr2⟩
      obtain ⟨G1, C1, hvG, hGb, hG, hn63, hcl⟩ := Row.elem_cells chainC_len H1.out.own hz1 (by omega) (by rw [List.length_zip, H1.out.len]; omega)
      obtain ⟨G2, C2, hvG2, hGb2, hG2, -, hcl2⟩ := Row.elem_cells chainC_len H2.out.own hz2 (by omega) (by rw [List.length_zip, H2.out.len]; omega)
      have hnb : n ≤ 9223372036854775807 := by omega
      have HR1 := Bas.hid (H1.out.rules k c r1 hc hr1)
      have HR2 := Bas.hid (H2.out.rules k c r2 hc hr2)
      have HS1 := Bas.hid (H1.out.subs k c r1 hc hr1)
      have HS2 := Bas.hid (H2.out.subs k c r2 hc hr2)
      have HCM := Bas.hid (List.mem_of_getElem? hc)
      obtain ⟨vr1, vs1⟩ := r1
      obtain ⟨vr2, vs2⟩ := r2
      obtain ⟨ar1, cr1, rfl⟩ := own_slice HR1.out
      obtain ⟨ar2, cr2, rfl⟩ := own_slice HR2.out
      obtain ⟨as1, cs1, rfl⟩ := own_slice HS1.out
      obtain ⟨as2, cs2, rfl⟩ := own_slice HS2.out
      cases hvG
      cases hvG2
      have q0 := (hb.cell (p := ⟨G1, k * 3, none⟩) hG).trans (hcl 0 _ rfl)
      have q1 := (hb.cell (p := ⟨G1, k * 3 + 1, none⟩) hG).trans (hcl 1 _ rfl)
      have q2 := (hb.cell (p := ⟨G1, k * 3 + 2, none⟩) hG).trans (hcl 2 _ rfl)
      have p0 := (hb.cell (p := ⟨G2, k * 3, none⟩) hG2).trans (hcl2 0 _ rfl)
      have p1 := (hb.cell (p := ⟨G2, k * 3 + 1, none⟩) hG2).trans (hcl2 1 _ rfl)
      have p2 := (hb.cell (p := ⟨G2, k * 3 + 2, none⟩) hG2).trans (hcl2 2 _ rfl)
      obtain ⟨nr, hnr⟩ : ∃ nr, nr = c.c.rules.length := ⟨_, rfl⟩
      obtain ⟨ns, hns⟩ : ∃ ns, ns = c.c.subs.length := ⟨_, rfl⟩
      simp only [← hnr, ← hns] at HR1 HR2 HS1 HS2 q1 q2 p1 p2
      have HNR := Bas.hid hnr
      have HNS := Bas.hid hns
      obtain ⟨x, hx⟩ : ∃ x, x = c.c.first := ⟨_, rfl⟩
      simp only [← hx] at q0 p0
      have hgl1 : G1 < wr.heap.size := Nat.lt_of_lt_of_le hG hb.size
      have hgl2 : G2 < wr.heap.size := Nat.lt_of_lt_of_le hG2 hb.size
      have e1 : (nr : Int) = (nr : Int) := rfl
      clear hcl hcl2 hz1 hz2 hc hr1 hr2 hb hx hnr hns hlen
      go_wp2_with (fail)
      generalize hW : (wr.alloc (.cells #[.int .u32 x, .slice ar1 nr cr1, .slice as1 ns cs1] 46)).alloc (.cells #[.int .u32 x, .slice ar2 nr cr2, .slice as2 ns cs2] 99) = W3
      have hb3 : Below wr.heap.size wr W3 := by rw [← hW]; exact ((Below.refl _ _).alloc (Nat.le_refl _) _).alloc (by simp) _
      have k6 : W3.heap[wr.heap.size]? = some (.cells #[.int .u32 x, .slice ar1 nr cr1, .slice as1 ns cs1] 46 (0, 0)) := by
        rw [← hW, Below.heap_alloc _ _ _ (by simp)]; exact Bas.heap_new _ _
      have k7 : W3.heap[wr.heap.size + 1]? = some (.cells #[.int .u32 x, .slice ar2 nr cr2, .slice as2 ns cs2] 99 (0, 0)) := by
        rw [← hW]; exact Bas.heap_new2 _ _ _
      have HB3 := Bas.hid (HB.out.trans (hb3.mono HB.out.size))
      have hs3 := HB3.out.size
      clear hW hb3 q0 q1 q2 p0 p1 p2 hgl1 hgl2
      generalize wr.heap.size = B at k6 k7 ⊢
      have i0 := cell_of_heap (i := 0) k6 rfl
      go_loopw [8, 9, 54] (fun _ _ vi wr => ∃ i : Nat, i ≤ nr ∧ vi = .int .i64 i ∧ Below W3.heap.size W3 wr) (fun _ _ vi _ => nr - (intOf vi).toNat)
      case atStart => exact ⟨0, Nat.zero_le _, rfl, Below.refl _ _⟩
      case round =>
        skip
        obtain ⟨i, hi, rfl, hb⟩ := hrel
        have HBi := Bas.hid hb
        by_cases hin : i < nr
        · have hlen := HNR.out
          obtain ⟨r, hr⟩ : ∃ r, c.c.rules[i]? = some r := ⟨_, List.getElem?_eq_getElem (by omega)⟩
          obtain ⟨G3, C3, hv3, -, hG3, hn63r, hcl3⟩ := Row.elem_cells (f := ruleC) (l := c.c.rules) ruleC_len HR1.out hr (by omega) hlen.symm
          obtain ⟨G4, C4, hv4, -, hG4, -, hcl4⟩ := Row.elem_cells (f := ruleC) (l := c.c.rules) ruleC_len HR2.out hr (by omega) hlen.symm
          cases hv3
          cases hv4
          have HBw := HB3.out.trans (hb.mono hs3)
          have q0 := (HBw.cell (p := ⟨G3, i * 4, none⟩) hG3).trans (hcl3 0 _ rfl)
          have q1 := (HBw.cell (p := ⟨G3, i * 4 + 1, none⟩) hG3).trans (hcl3 1 _ rfl)
          have q2 := (HBw.cell (p := ⟨G3, i * 4 + 2, none⟩) hG3).trans (hcl3 2 _ rfl)
          have q3 := (HBw.cell (p := ⟨G3, i * 4 + 3, none⟩) hG3).trans (hcl3 3 _ rfl)
          obtain ⟨r1, r2, r3, r4⟩ := r
          simp only at q0 q1 q2 q3
          go_wp2_with (fail)
          have hbW := (Below.refl wr.heap.size wr).alloc (Nat.le_refl _) (.cells #[.int .i64 r1, .int .i64 r2, .int .u32 r3, .int .u32 r4] 50)
          have HBW := Bas.hid (hb.trans (hbW.mono hb.size))
          have k9 := Bas.heap_new wr (.cells #[.int .i64 r1, .int .i64 r2, .int .u32 r3, .int .u32 r4] 50)
          generalize wr.alloc (.cells #[.int .i64 r1, .int .i64 r2, .int .u32 r3, .int .u32 r4] 50) = W4 at *
          have HBw4 := HB3.out.trans (HBW.out.mono hs3)
          have p0 := (HBw4.cell (p := ⟨G4, i * 4, none⟩) hG4).trans (hcl4 0 _ rfl)
          have p1 := (HBw4.cell (p := ⟨G4, i * 4 + 1, none⟩) hG4).trans (hcl4 1 _ rfl)
          have p2 := (HBw4.cell (p := ⟨G4, i * 4 + 2, none⟩) hG4).trans (hcl4 2 _ rfl)
          have p3 := (HBw4.cell (p := ⟨G4, i * 4 + 3, none⟩) hG4).trans (hcl4 3 _ rfl)
          simp only at p0 p1 p2 p3
          have t1 := (HBW.out.cell (p := ⟨B + 1, 1, none⟩) (heap_lt k7)).trans (cell_of_heap (i := 1) k7 rfl)
          have x0 := cell_of_heap (i := 0) k9 rfl
          have x1 := cell_of_heap (i := 1) k9 rfl
          have x2 := cell_of_heap (i := 2) k9 rfl
          have x3 := cell_of_heap (i := 3) k9 rfl
          clear q0 q1 q2 q3 hcl3 hcl4 HBw HBw4 hbW k9 hb hr hlen
          go_quiet (fail)
          go_wp2_with (fail)
          go_roundw
          case rel => exact ⟨i + 1, by omega, by go_num, Bas.below_drewN HBW.out _⟩
          case measure => simp [intOf]; omega
        · have hkn2 : i = nr := by omega
          subst hkn2
          have y2 := (hb.cell (p := ⟨B, 2, none⟩) (heap_lt k6)).trans (cell_of_heap (i := 2) k6 rfl)
          clear hb i0
          go_wp2_with (fail)
          generalize hwo : wr = W5 at *
          clear hwo
          have HBi2 := Bas.hid (HB3.out.trans (HBi.out.mono hs3))
          have hs5 := HBi.out.size
          go_loopw [10, 11, 105] (fun _ _ vi wr => ∃ j : Nat, j ≤ ns ∧ vi = .int .i64 j ∧ Below W5.heap.size W5 wr) (fun _ _ vi _ => ns - (intOf vi).toNat)
          case atStart => exact ⟨0, Nat.zero_le _, rfl, Below.refl _ _⟩
          case round =>
            obtain ⟨j, hj, rfl, hb⟩ := hrel
            have HBj := Bas.hid hb
            by_cases hjn : j < ns
            · have hlen := HNS.out
              obtain ⟨sd, hsd⟩ : ∃ r, c.c.subs[j]? = some r := ⟨_, List.getElem?_eq_getElem (by omega)⟩
              obtain ⟨G3, C3, hv3, -, hG3, hn63s, hcl3⟩ := Row.elem_cells (f := subC (sub a c.p c.size)) (l := c.c.subs) (subC_len _) HS1.out hsd (by omega) hlen.symm
              obtain ⟨G4, C4, hv4, -, hG4, -, hcl4⟩ := Row.elem_cells (f := subR (sub a c.p (cap - c.p)) (cap - c.p)) (l := c.c.subs) (subR_len _ _) HS2.out hsd (by omega) hlen.symm
              cases hv3
              cases hv4
              obtain ⟨d1, d2, d3, d4, d5⟩ := data_vb HV.out HP.out HCM.out (List.mem_of_getElem? hsd) hcap
              have HBw := HBi2.out.trans (hb.mono HBi2.out.size)
              have q0 := (HBw.cell (p := ⟨G3, j * 3, none⟩) hG3).trans (hcl3 0 _ rfl)
              have q1 := (HBw.cell (p := ⟨G3, j * 3 + 1, none⟩) hG3).trans (hcl3 1 _ rfl)
              have q2 := (HBw.cell (p := ⟨G3, j * 3 + 2, none⟩) hG3).trans (hcl3 2 _ rfl)
              have p0 := (HBw.cell (p := ⟨G4, j * 3, none⟩) hG4).trans (hcl4 0 _ rfl)
              have p1 := (HBw.cell (p := ⟨G4, j * 3 + 1, none⟩) hG4).trans (hcl4 1 _ rfl)
              have p2 := (HBw.cell (p := ⟨G4, j * 3 + 2, none⟩) hG4).trans (hcl4 2 _ rfl)
              have hc2m : cap - c.p - (sd.at' + 12) ≤ maxLen := by omega
              generalize sub (sub (sub a c.p c.size) sd.at' sd.len) 12 (sd.len - 12) = A1 at *
              generalize sub (sub a c.p (cap - c.p)) (sd.at' + 12) (cap - c.p - (sd.at' + 12)) = A2 at *
              generalize cap - c.p - (sd.at' + 12) = C2 at *
              generalize dataAt bs c sd = D at *
              obtain ⟨m, hm⟩ : ∃ m, m = sd.len - 12 := ⟨_, rfl⟩
              rw [← hm] at d3 d4 q2 p2
              have hml : m ≤ 1000000000 := by omega
              generalize sd.cover = cv at *
              generalize sd.flags = fl at *
              clear hm hcl3 hcl4 hsd hlen d5
              have v1 := d1.below HBw
              have v2 := d2.below HBw
              have hn0 : A1 = none → m = 0 := fun e => by
                rcases Nat.eq_zero_or_pos m with h | h
                · exact h
                · obtain ⟨b, o, h1, _⟩ := d1.cell 0 (by omega)
                  rw [e] at h1; cases h1
              clear d1 d2
              have kk7 := (hb.block _ (Nat.lt_of_lt_of_le (heap_lt k7) hs5)).trans ((HBi.out.block _ (heap_lt k7)).trans k7)
              go_wp2_with (fail)
              have hbW := (Below.refl wr.heap.size wr).alloc (Nat.le_refl _) (.cells #[.int .u32 cv, .int .u32 fl, .slice A1 m m] 56)
              have HBW := Bas.hid (hb.trans (hbW.mono hb.size))
              have k9 := Bas.heap_new wr (.cells #[.int .u32 cv, .int .u32 fl, .slice A1 m m] 56)
              have l0 := (hbW.cell (p := ⟨G4, j * 3, none⟩) (World.block_lt_of_cell? _ _ p0)).trans p0
              have l1 := (hbW.cell (p := ⟨G4, j * 3 + 1, none⟩) (World.block_lt_of_cell? _ _ p1)).trans p1
              have l2 := (hbW.cell (p := ⟨G4, j * 3 + 2, none⟩) (World.block_lt_of_cell? _ _ p2)).trans p2
              have t2 := (hbW.cell (p := ⟨B + 1, 2, none⟩) (heap_lt kk7)).trans (cell_of_heap (i := 2) kk7 rfl)
              have HVV1 := Bas.hid (v1.below hbW)
              have HVV2 := Bas.hid (v2.below hbW)
              have hrr : Hid (wr.heap.size = wr.heap.size) := rfl
              generalize wr.alloc (.cells #[.int .u32 cv, .int .u32 fl, .slice A1 m m] 56) = W6 at *
              generalize wr.heap.size = B9 at k9 ⊢
              have x0 := cell_of_heap (i := 0) k9 rfl
              have x1 := cell_of_heap (i := 1) k9 rfl
              have x2 := cell_of_heap (i := 2) k9 rfl
              clear q0 q1 q2 p0 p1 p2 HBw hbW hb v1 v2 kk7 hrr y2
              obtain ⟨I, F, hI, HF⟩ := Bas.fam W6.heap.size W6
              have z0 := fun i => Bas.cell_fam HF (heap_lt k9) x0 i
              have z1 := fun i => Bas.cell_fam HF (heap_lt k9) x1 i
              have z2 := fun i => Bas.cell_fam HF (heap_lt k9) x2 i
              have y0 := fun i => Bas.cell_fam HF (World.block_lt_of_cell? _ _ l0) l0 i
              have y1 := fun i => Bas.cell_fam HF (World.block_lt_of_cell? _ _ l1) l1 i
              have y2 := fun i => Bas.cell_fam HF (World.block_lt_of_cell? _ _ l2) l2 i
              have u2 := fun i => Bas.cell_fam HF (World.block_lt_of_cell? _ _ t2) t2 i
              have cv2 := fun i => conv_vb (HVV2.out.below (HF.2 i)) m C2 d3
              clear x0 x1 x2 l0 l1 l2 t2
              refine Pl.region_plan [(true, 0), (true, 1), (true, 2), (true, 3), (true, 4), (true, 5), (true, 6), (true, 7), (true, 8), (true, 9), (true, 10), (true, 11), (true, 12), (true, 13), (true, 14), (true, 15), (true, 16), (true, 17), (true, 18), (true, 19), (true, 20), (true, 21), (true, 22), (true, 25), (true, 26), (true, 27), (true, 28), (true, 29), (true, 30), (true, 31), (false, 23), (false, 24), (false, 32), (false, 33)] [32, 33] (by kernel_rfl) (by kernel_rfl) (fun _ _ _ _ e h => ⟨e ▸ h.1, h.2⟩) (HF.1 _ ((Below.refl _ _).drew)) ?_
              intro i0
              refine Pl.head_sel [(true, 0), (true, 1), (true, 2), (true, 3), (true, 4), (true, 5), (true, 6), (true, 7), (true, 8), (true, 9), (true, 10), (true, 11), (true, 12), (true, 13), (true, 14), (true, 15), (true, 16), (true, 17), (true, 18), (true, 19), (true, 20), (true, 21), (true, 22), (true, 25), (true, 26), (true, 27), (true, 28), (true, 29), (true, 30), (true, 31)] (by kernel_rfl) ?_ i0
              simp only [Pl.sel, List.drop_succ_cons, List.drop_zero]
              repeat (go_big_quiet_step (fail))
              refine wpQuiet_nil ?_
              intro j0
              have hb6 := HF.2 j0
              clear z0 z1 z2 y0 y1 y2 u2 cv2
              refine Pl.one_sel (by kernel_rfl) ?_
              intro Q' hQ' hP'
              simp only [Pl.sel, List.drop_succ_cons, List.drop_zero]
              go_wp2_with (fail)
              refine (bytes_any A1 m m D _ (Nat.le_refl _) (by omega) (HVV1.out.below hb6) d3 hn0).mono ?_
              rintro e w7 ⟨vb, rfl, hob, hnb, hb7⟩
              have HB7 := Bas.hid (Bas.on hb6 hb7)
              obtain ⟨g, cg, rfl, hgb, hgl, hgc, hgm, hvg, -⟩ := owned hob hnb rfl HVV1.out.byte HVV1.out.len
              rw [d3]
              have cvg := conv_vb hvg m cg d3
              clear hob hnb hb7
              go_wp2_with (fail)
              refine hQ' _ _ (fun _ _ => HF.1 _ HB7.out) ?_
              clear hQ' hP' Q'
              refine Pl.one_sel (by kernel_rfl) ?_
              intro Q' hQ' hP'
              simp only [Pl.sel, List.drop_succ_cons, List.drop_zero]
              go_wp2_with (fail)
              refine hQ' _ _ (fun _ h => h) ?_
              clear hQ' hP' Q'
              refine Pl.tail_sel [(false, 32), (false, 33)] (by kernel_rfl) (by kernel_rfl) ?_
              simp only [Pl.sel, List.drop_succ_cons, List.drop_zero]
              have HBE := Bas.hid (HBW.out.trans (HB7.out.mono HBW.out.size))
              clear cvg HF hvg
              go_wp2_with (fail)
              go_roundw
              case rel => exact ⟨j + 1, by omega, by go_num, HBE.out⟩
              case measure => simp [intOf]; omega
            · have hjn2 : j = ns := by omega
              subst hjn2
              have HE := Bas.hid (HBi2.out.trans (hb.mono HBi2.out.size))
              clear hb y2
              go_wp2_with (fail)
              go_roundw
              case rel => exact ⟨k + 1, by omega, by go_num, HE.out⟩
              case measure => simp [intOf]; omega
    · have hkn2 : k = n := by omega
      subst hkn2
      clear hb
      go_wp2_with (fail)
      go_ret
      exact ⟨rfl, HB.out⟩
end Ch
end Go.Proofs.Ytgddghplhdmfdaa
