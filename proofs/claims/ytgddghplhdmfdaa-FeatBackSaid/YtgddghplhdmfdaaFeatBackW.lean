/- The walk of the law FeatBack. -/
import Derived.Test.YtgddghplhdmfdaaFeatSpeak
import Derived.Test.YtgddghplhdmfdaaOpen
namespace Go.Proofs.Ytgddghplhdmfdaa
open Go.RowKit Go.ChangeShapes Go.WideShapes Go.ChangeAt
namespace Ft
open Vw Ch

instance : Inhabited WPlan := ⟨⟨0, 0, []⟩⟩

theorem zip_self {α β : Type} (l : List (α × β)) : (l.map Prod.fst).zip (l.map Prod.snd) = l := by
  induction l with
  | nil => rfl
  | cons x l ih => simp [ih]
theorem list3 {c : List Value} (h : c.length = 3) {a b d : Value} (h0 : c[0]? = some a) (h1 : c[1]? = some b) (h2 : c[2]? = some d) : c = [a, b, d] := by
  match c, h with
  | [x, y, z], _ => simp at h0 h1 h2; subst h0 h1 h2; rfl

section
variable {H : Type} {enc : TypeId × Value → H} {w : World} {base : Nat} {held : Bool}

theorem open_sets {fuel : Nat} {v : Value} {x : DataW H × List MemPlace} (h : DataW.trod enc Try.prog w base (fun _ => true) held fuel 63 [v] = some x) :
    ∃ l : List Int, Row.Leads w v l.length (l.flatMap wS) ∧ ∀ s ∈ l, 0 ≤ s ∧ s ≤ 65535 := by
  rcases Go.Deep.open_slice Try.underlying63 h with ⟨h0, _⟩ | ⟨a, len, cap, m, n, D, Pl, h0, _, hl, hm, hmm, _, hx⟩
  · cases h0
    exact ⟨[], .inl ⟨rfl, rfl, rfl⟩, fun r hr => by cases hr⟩
  · cases h0
    have hc1 : Try.prog.cellsOf 23 = 1 := by kernel_rfl
    rw [hc1] at hx
    obtain ⟨l, h1, h2, h3⟩ := Bas.open_elems (f := wS) (good := fun s => 0 ≤ s ∧ s ≤ 65535) (by omega) wS_len (w := w) (base := base) (a := a) (len := len) (cap := cap) (fun i hi => by
      obtain ⟨cs, e1, e2⟩ := hx i (by rw [hmm]; simp; omega)
      refine ⟨cs, e1, ?_⟩
      obtain ⟨s, e3, _, hw⟩ := DataW.trod_int Try.underlying23 e2
      exact ⟨s, e3, Bas.wf_u16 hw⟩)
    subst h1
    exact ⟨l, h2, h3⟩

theorem open_plans {fuel : Nat} {v : Value} {x : DataW H × List MemPlace} (h : DataW.trod enc Try.prog w base (fun _ => true) held fuel 62 [v] = some x) :
    ∃ l : List WPlan, WPlans w v l ∧ ∀ c ∈ l, rgPlan c := by
  rcases Go.Deep.open_slice Try.underlying62 h with ⟨h0, _⟩ | ⟨a, len, cap, m, n, D, Pl, h0, _, hl, hm, hmm, _, hx⟩
  · cases h0
    exact ⟨[], ⟨[], rfl, .inl ⟨rfl, rfl, rfl⟩, fun j s d hs => by simp at hs⟩, fun r hr => by cases hr⟩
  · cases h0
    have hc3 : Try.prog.cellsOf 65 = 3 := by kernel_rfl
    rw [hc3] at hx
    obtain ⟨l, h1, h2, h3⟩ := Bas.open_elems (f := wPC) (good := fun x => Row.Leads w x.2 x.1.sets.length (x.1.sets.flatMap wS) ∧ rgPlan x.1) (by omega) wPC_len (w := w) (base := base) (a := a) (len := len) (cap := cap) (fun i hi => by
      obtain ⟨cs, e1, e2⟩ := hx i (by rw [hmm]; simp; omega)
      refine ⟨cs, e1, ?_⟩
      obtain ⟨_, hlen, _⟩ := World.cells?_some e1
      obtain ⟨n0, f0, w0⟩ := Bas.open_field_int (kd := .u16) 0 _ Try.underlying65 e2 rfl (by kernel_rfl) (by rw [hc3]; decide) (by kernel_rfl)
      obtain ⟨n1, f1, w1⟩ := Bas.open_field_int (kd := .u16) 1 _ Try.underlying65 e2 rfl (by kernel_rfl) (by rw [hc3]; decide) (by kernel_rfl)
      obtain ⟨_, v2, y2, m2, f2, t2⟩ := Bas.open_field 2 _ Try.underlying65 e2 rfl (by kernel_rfl) (by rw [hc3]; decide)
      obtain ⟨ls, hs1, hs2⟩ := open_sets t2
      exact ⟨(⟨n0, n1, ls⟩, v2), list3 hlen f0 f1 f2, hs1, Bas.wf_u16 w0, Bas.wf_u16 w1, hs2⟩)
    subst h1
    refine ⟨l.map Prod.fst, ⟨l.map Prod.snd, by simp, by rw [zip_self, List.length_map]; exact h2, fun j s d hs hd => ?_⟩, fun s hs => ?_⟩
    · rw [List.getElem?_map] at hs hd
      cases hj : l[j]? with
      | none => rw [hj] at hs; cases hs
      | some y =>
        rw [hj] at hs hd
        cases hs; cases hd
        exact (h3 y (List.mem_of_getElem? hj)).1
    · obtain ⟨y, hy, rfl⟩ := List.mem_map.1 hs
      exact (h3 y hy).2
end

/-- The types of the first ones rise. -/
def lastP (l : List WPlan) : Option Int := l.getLast?.map WPlan.type
theorem rises_snoc (p : WPlan) : ∀ (l : List WPlan) (prev : Option Int), risesL prev (l ++ [p]) = (risesL prev l && risesB (match lastP l with | none => prev | some t => some t) p.type)
  | [], prev => by simp [risesL, lastP]
  | q :: l, prev => by
    rw [List.cons_append, risesL, rises_snoc p l, risesL, Bool.and_assoc]
    congr 2
    cases l with
    | nil => simp [lastP]
    | cons r l =>
      have : lastP (q :: r :: l) = lastP (r :: l) := by simp [lastP, List.getLast?_cons_cons]
      rw [this]
      have h2 : ∃ t, lastP (r :: l) = some t := by
        unfold lastP
        rw [List.getLast?_eq_some_getLast (by simp)]
        exact ⟨_, rfl⟩
      obtain ⟨t, ht⟩ := h2
      rw [ht]
theorem rises_take (l : List WPlan) (k : Nat) (p : WPlan) (h : l[k]? = some p) : risesL none (l.take (k + 1)) = (risesL none (l.take k) && risesB (if k = 0 then none else (l[k - 1]?).map WPlan.type) p.type) := by
  rw [List.take_add_one, h]
  have := rises_snoc p (l.take k) none
  rw [show (some p).toList = [p] from rfl, this]
  congr 2
  have hk : k < l.length := (List.getElem?_eq_some_iff.1 h).1
  by_cases h0 : k = 0
  · subst h0; simp [lastP]
  · rw [if_neg h0]
    unfold lastP
    rw [List.getLast?_eq_getElem?, List.length_take, Nat.min_eq_left (by omega), List.getElem?_take_of_lt (by omega), List.getElem?_eq_getElem (show k - 1 < l.length by omega)]
    rfl

set_option maxRecDepth 100000 in
set_option maxHeartbeats 16000000 in
theorem featBack_walk (v : Value) (l : List WPlan) (w : World) (hin : WPlans w v l) (hrg : ∀ c ∈ l, rgPlan c) :
    Calls Try.prog 7 #[v] w fun e w' => e = .returned (.bool true) ∧ Below w.heap.size w w' := by
  have HIN := Bas.hid hin
  have HRG := Bas.hid hrg
  obtain ⟨rs, hrl, hlead, hel⟩ := hin
  obtain ⟨ad, cp, rfl⟩ := Row.leads_slice hlead
  obtain ⟨n, hn⟩ : ∃ n, n = l.length := ⟨_, rfl⟩
  rw [← hn]
  have HN := Bas.hid hn
  have HEL := Bas.hid hel
  have HLD := Bas.hid hlead
  have HRL := Bas.hid hrl
  clear hrl hlead hel hn hrg
  by_cases hbig : 30 < n
  · have d0 : decide ((30 : Int) < (n : Int)) = true := by simp; omega
    go_enter Try.func7, Try.ntmps7
    go_wp2_with (fail)
    refine (speaks_any _).mono ?_
    rintro e w1 ⟨rfl, hb1⟩
    go_wp2_with (fail)
    go_ret
    exact ⟨rfl, hb1⟩
  · have d0 : decide ((30 : Int) < (n : Int)) = false := by simp; omega
    go_enter Try.func7, Try.ntmps7
    go_wp2_with (fail)
    refine (speaks_any _).mono ?_
    rintro e w1 ⟨rfl, hb1⟩
    have HB1 := Bas.hid hb1
    clear hb1
    go_wp2_with (fail)
    go_loopw [3, 4, 5, 19] (fun vr _ _ vi wr => ∃ (k : Nat) (b : Bool), k ≤ n ∧ vi = .int .i64 k ∧ vr = .bool b ∧ b = risesL none (l.take k) ∧ (∀ c ∈ l.take k, c.sets.length ≤ 60) ∧ Below w.heap.size w wr) (fun _ _ _ vi _ => n - (intOf vi).toNat)
    case atStart => exact ⟨0, true, Nat.zero_le _, rfl, rfl, rfl, fun c hc => by simp at hc, HB1.out⟩
    case round =>
      obtain ⟨k, b, hk, rfl, rfl, hbv, hsz, hb⟩ := hrel
      have HBV := Bas.hid hbv
      have HSZ := Bas.hid hsz
      have HB := Bas.hid hb
      clear hbv hsz
      by_cases hkn : k < n
      · have hlen := HN.out
        obtain ⟨c, hc⟩ : ∃ c, l[k]? = some c := ⟨_, List.getElem?_eq_getElem (by omega)⟩
        obtain ⟨r, hr⟩ : ∃ r, rs[k]? = some r := ⟨_, List.getElem?_eq_getElem (by rw [HRL.out]; omega)⟩
        have hse := HEL.out k c r hc hr
        have hz : (l.zip rs)[k]? = some (c, r) := List.getElem?_zip_eq_some.2 ⟨hc, hr⟩
        obtain ⟨B0, O0, cp0, hv0, hcl⟩ := Row.leads_elem wPC_len HLD.out hz (by omega)
        obtain ⟨as', cs', rfl⟩ := Row.leads_slice hse
        cases hv0
        have q0 := (hb.cell (p := ⟨B0, O0 + k * 3, none⟩) (World.block_lt_of_cell? _ _ (hcl 0 _ rfl))).trans (hcl 0 _ rfl)
        have q1 := (hb.cell (p := ⟨B0, O0 + k * 3 + 1, none⟩) (World.block_lt_of_cell? _ _ (hcl 1 _ rfl))).trans (hcl 1 _ rfl)
        have q2 := (hb.cell (p := ⟨B0, O0 + k * 3 + 2, none⟩) (World.block_lt_of_cell? _ _ (hcl 2 _ rfl))).trans (hcl 2 _ rfl)
        have HRT := Bas.hid (rises_take l k c hc)
        have HCK := Bas.hid hc
        obtain ⟨ct, cf, cs⟩ := c
        simp only at q0 q1 q2 HRT
        obtain ⟨ns, hns⟩ : ∃ ns, ns = cs.length := ⟨_, rfl⟩
        have HNS := Bas.hid hns
        rw [← hns] at q2
        have HB5 := Bas.hid (HB.out.trans (((Below.refl wr.heap.size wr).alloc (Nat.le_refl _) (.cells #[.int .u16 ct, .int .u16 cf, .slice as' ns cs'] 65)).mono HB.out.size))
        have k5 := Bas.heap_new wr (.cells #[.int .u16 ct, .int .u16 cf, .slice as' ns cs'] 65)
        have hpre : ∀ j, k = j + 1 → ∃ t : Int, (if k = 0 then none else (l[k - 1]?).map WPlan.type) = some t ∧ wr.cell? ⟨B0, O0 + j * 3, none⟩ = some (.int .u16 t) := fun j hj => by
          obtain ⟨c', hc'⟩ : ∃ c', l[j]? = some c' := ⟨_, List.getElem?_eq_getElem (by omega)⟩
          obtain ⟨r', hr'⟩ : ∃ r', rs[j]? = some r' := ⟨_, List.getElem?_eq_getElem (by rw [HRL.out]; omega)⟩
          have hz' : (l.zip rs)[j]? = some (c', r') := List.getElem?_zip_eq_some.2 ⟨hc', hr'⟩
          obtain ⟨B', O', cp', hv', hcl'⟩ := Row.leads_elem wPC_len HLD.out hz' (by omega)
          cases hv'
          refine ⟨c'.type, by rw [if_neg (by omega), show k - 1 = j by omega, hc']; rfl, ?_⟩
          exact (hb.cell (p := ⟨B0, O0 + j * 3, none⟩) (World.block_lt_of_cell? _ _ (hcl' 0 _ rfl))).trans (hcl' 0 _ rfl)
        have HPRE := Bas.hid hpre
        clear hcl hse hb hr hz hlen hc hns hpre
        by_cases h60 : 60 < ns
        · have d1 : decide ((60 : Int) < (ns : Int)) = true := by simp; omega
          go_wp2_with (fail)
          exact bodyPost_ret (v := .bool true) (by simp [results, Try.results7, go_sem]) rfl ⟨rfl, HB5.out⟩
        · have d1 : decide ((60 : Int) < (ns : Int)) = false := by simp; omega
          have HSZ2 : Hid (∀ c ∈ l.take (k + 1), c.sets.length ≤ 60) := fun y hy => by
            rw [List.take_add_one, HCK.out] at hy
            rcases List.mem_append.1 hy with h | h
            · exact HSZ.out y h
            · simp at h; subst h; show cs.length ≤ 60; rw [← HNS.out]; omega
          cases b with
          | false =>
            have HR2 : Hid (risesL none (l.take (k + 1)) = false) := by unfold Hid; rw [HRT.out, ← HBV.out]; rfl
            go_wp2_with (fail)
            generalize wr.alloc (.cells #[.int .u16 ct, .int .u16 cf, .slice as' ns cs'] 65) = W5 at *
            go_quiet (fail)
            go_wp2_with (fail)
            go_roundw
            case rel => exact ⟨k + 1, false, by omega, by go_num, rfl, HR2.out.symm, HSZ2.out, Bas.below_drewN HB5.out _⟩
            case measure => simp [intOf]; omega
          | true =>
            rcases Nat.eq_zero_or_pos k with h0 | h0
            · have HR2 : Hid (risesL none (l.take (k + 1)) = true) := by unfold Hid; rw [HRT.out, ← HBV.out, if_pos h0]; rfl
              have hk0 : ((k : Int) == 0) = true := by simp; omega
              clear h0
              go_wp2_with (fail)
              generalize wr.alloc (.cells #[.int .u16 ct, .int .u16 cf, .slice as' ns cs'] 65) = W5 at *
              go_quiet (fail)
              go_wp2_with (fail)
              go_roundw
              case rel => exact ⟨k + 1, true, by omega, by go_num, rfl, HR2.out.symm, HSZ2.out, Bas.below_drewN HB5.out _⟩
              case measure => simp [intOf]; omega
            · obtain ⟨j, hj⟩ : ∃ j, k = j + 1 := ⟨k - 1, by omega⟩
              obtain ⟨pt, hpt, cpt⟩ := HPRE.out j hj
              have e5 : (k : Int) - 1 = (j : Int) := by omega
              have hne : ((k : Int) == 0) = false := by simp; omega
              have hjn : j < n := by omega
              have HR2 : Hid (risesL none (l.take (k + 1)) = decide (pt < ct)) := by unfold Hid; rw [HRT.out, ← HBV.out, hpt]; rfl
              have lB : B0 < wr.heap.size := World.block_lt_of_cell? _ _ cpt
              have c5 := (((Below.refl wr.heap.size wr).alloc (Nat.le_refl _) (.cells #[.int .u16 ct, .int .u16 cf, .slice as' ns cs'] 65)).cell (p := ⟨B0, O0 + j * 3, none⟩) lB).trans cpt
              clear hj hpt cpt
              go_wp2_with (fail)
              generalize wr.alloc (.cells #[.int .u16 ct, .int .u16 cf, .slice as' ns cs'] 65) = W5 at *
              generalize wr.heap.size = T5 at k5 ⊢
              have c50 := cell_of_heap (i := 0) (v := .int .u16 ct) k5 rfl
              clear q0 q1 q2 lB HB
              go_quiet (fail)
              go_wp2_with (fail)
              go_roundw
              case rel => exact ⟨k + 1, decide (pt < ct), by omega, by go_num, rfl, HR2.out.symm, HSZ2.out, Bas.below_drewN HB5.out _⟩
              case measure => simp [intOf]; omega
      · have hkn2 : k = n := by omega
        have hok : ∀ p ∈ l, okPlan p := fun p hp => ⟨HRG.out p hp, by
          have h := HSZ.out p
          rw [hkn2, HN.out, List.take_length] at h
          exact h hp⟩
        have hbv2 : b = risesL none l := by rw [HBV.out, hkn2, HN.out, List.take_length]
        have hl30 : l.length ≤ 30 := by have := HN.out; omega
        have HW := Bas.hid (fwrite_any _ l wr hl30 hok (by have := HIN.out.below HB.out; rwa [← HN.out] at this))
        have HOK := Bas.hid hok
        have HBV2 := Bas.hid hbv2
        have hwl := featW_len_le l hl30 hok
        obtain ⟨w81, w82⟩ := hwl
        clear hb hbv2 hok
        go_wp2_with (fail)
        refine HW.out.mono ?_
        rintro e w3 ⟨v3, rfl, hown, hb3⟩
        obtain ⟨g, cg, rfl, hgc, hgm, hvg⟩ := written hown (by omega) (featW_byte l) (by omega)
        have HB3 := Bas.hid (HB.out.trans (hb3.mono HB.out.size))
        obtain ⟨L, hL⟩ : ∃ L, L = (featW l).length := ⟨_, rfl⟩
        have hLs := hL.symm
        rw [← hL] at hgc w82 ⊢
        have HRD := Bas.hid (fRead_any (some ⟨g, 0, none⟩) L cg (featW l) w3 hgc hgm hvg hLs (by omega))
        clear hown hb3 hvg HW hL hLs w81
        go_wp2_with (fail)
        refine HRD.out.mono ?_
        rintro e w4 ⟨hb4, h⟩
        rw [fall_back l hl30 HOK.out, ← HBV2.out] at h
        have HB4 := Bas.hid (HB3.out.trans (hb4.mono HB3.out.size))
        clear hb4 HRD
        cases b with
        | false =>
          simp only [Bool.false_eq_true, if_false] at h
          subst h
          go_wp2_with (fail)
          go_ret
          exact ⟨rfl, HB4.out⟩
        | true =>
          simp only [if_true] at h
          obtain ⟨v5, ss, rfl, hrow⟩ := h
          obtain ⟨ad5, cp5, rfl⟩ := own_slice hrow.own
          have HR := Bas.hid hrow
          have hml : (l.map toF).length = n := by rw [List.length_map]; exact HN.out.symm
          have HML := Bas.hid hml
          rw [hml]
          have e1 : ((n : Int) == (n : Int)) = true := by simp
          clear hrow hml
          go_wp2_with (fail)
          go_loopw [8, 9, 10, 11, 66] (fun _ _ _ _ vi wr => ∃ k : Nat, k ≤ n ∧ vi = .int .i64 k ∧ Below w4.heap.size w4 wr) (fun _ _ _ _ vi _ => n - (intOf vi).toNat)
          case atStart => exact ⟨0, Nat.zero_le _, rfl, Below.refl _ _⟩
          case round =>
            obtain ⟨k, hk, rfl, hb⟩ := hrel
            have HB5 := Bas.hid hb
            by_cases hkn : k < n
            · have hlen := HN.out
              obtain ⟨c, hc⟩ : ∃ c, l[k]? = some c := ⟨_, List.getElem?_eq_getElem (by omega)⟩
              obtain ⟨r, hr⟩ : ∃ r, rs[k]? = some r := ⟨_, List.getElem?_eq_getElem (by rw [HRL.out]; omega)⟩
              obtain ⟨s, hs⟩ : ∃ s, ss[k]? = some s := ⟨_, List.getElem?_eq_getElem (by rw [HR.out.len, HML.out]; omega)⟩
              have hse := HEL.out k c r hc hr
              have hz : (l.zip rs)[k]? = some (c, r) := List.getElem?_zip_eq_some.2 ⟨hc, hr⟩
              have hcf : (l.map toF)[k]? = some (toF c) := by rw [List.getElem?_map, hc]; rfl
              have hz2 : ((l.map toF).zip ss)[k]? = some (toF c, s) := List.getElem?_zip_eq_some.2 ⟨hcf, hs⟩
              obtain ⟨B0, O0, cp0, hv0, hcl⟩ := Row.leads_elem wPC_len HLD.out hz (by omega)
              obtain ⟨G, C, hvG, -, hG, -, hcl2⟩ := Row.elem_cells fC_len HR.out.own hz2 (by omega) (by rw [List.length_zip, HR.out.len, Nat.min_self])
              rw [HML.out] at hvG
              obtain ⟨as', cs', rfl⟩ := Row.leads_slice hse
              have hso := HR.out.sets k _ s hcf hs
              obtain ⟨sa, sc, rfl⟩ := own_slice hso
              cases hv0
              cases hvG
              have hbw := HB4.out.trans (hb.mono HB4.out.size)
              have q0 := (hbw.cell (p := ⟨B0, O0 + k * 3, none⟩) (World.block_lt_of_cell? _ _ (hcl 0 _ rfl))).trans (hcl 0 _ rfl)
              have q1 := (hbw.cell (p := ⟨B0, O0 + k * 3 + 1, none⟩) (World.block_lt_of_cell? _ _ (hcl 1 _ rfl))).trans (hcl 1 _ rfl)
              have q2 := (hbw.cell (p := ⟨B0, O0 + k * 3 + 2, none⟩) (World.block_lt_of_cell? _ _ (hcl 2 _ rfl))).trans (hcl 2 _ rfl)
              have p0 := (hb.cell (p := ⟨G, k * 4, none⟩) hG).trans (hcl2 0 _ rfl)
              have p1 := (hb.cell (p := ⟨G, k * 4 + 1, none⟩) hG).trans (hcl2 1 _ rfl)
              have p3 := (hb.cell (p := ⟨G, k * 4 + 3, none⟩) hG).trans (hcl2 3 _ rfl)
              obtain ⟨⟨⟨ot1, ot2⟩, ⟨of1, of2⟩, hss⟩, hs60⟩ := HOK.out c (List.mem_of_getElem? hc)
              obtain ⟨ct, cf, cs⟩ := c
              simp only [toF] at q0 q1 q2 p0 p1 p3 hso ot1 ot2 of1 of2 hs60 hse
              obtain ⟨ns, hns⟩ : ∃ ns, ns = cs.length := ⟨_, rfl⟩
              have HNS := Bas.hid hns
              rw [← hns] at q2 p3 hso hs60 hse
              have HSO := Bas.hid hso
              have HSE := Bas.hid hse
              have HSS := Bas.hid hss
              have hge : (decide (cf ≥ 32768) == decide (32768 ≤ cf)) = true := by simp
              have e3 : ((ns : Int) == (ns : Int)) = true := by simp
              clear hcl hcl2 hz hz2 hcf hso hse hss hc hr hs hlen hbw hns
              go_wp2_with (fail)
              have hbW := (Below.refl wr.heap.size wr).alloc (Nat.le_refl _) (.cells #[.int .u16 ct, .int .u16 cf, .slice as' ns cs'] 65)
              have k9 := Bas.heap_new wr (.cells #[.int .u16 ct, .int .u16 cf, .slice as' ns cs'] 65)
              have m0 := (hbW.cell (p := ⟨G, k * 4, none⟩) (World.block_lt_of_cell? _ _ p0)).trans p0
              have m1 := (hbW.cell (p := ⟨G, k * 4 + 1, none⟩) (World.block_lt_of_cell? _ _ p1)).trans p1
              have m3 := (hbW.cell (p := ⟨G, k * 4 + 3, none⟩) (World.block_lt_of_cell? _ _ p3)).trans p3
              have HB6 := Bas.hid (hb.trans (hbW.mono hb.size))
              generalize wr.alloc (.cells #[.int .u16 ct, .int .u16 cf, .slice as' ns cs'] 65) = W6 at *
              generalize wr.heap.size = T9 at k9 ⊢
              have z0 := cell_of_heap (i := 0) (v := .int .u16 ct) k9 rfl
              have z1 := cell_of_heap (i := 1) (v := .int .u16 cf) k9 rfl
              have z2 := cell_of_heap (i := 2) (v := .slice as' ns cs') k9 rfl
              clear q0 q1 q2 p0 p1 p3 hbW hb HB5
              by_cases hex : 32768 ≤ cf
              all_goals
                have d4 : decide (cf ≥ 32768) = decide (32768 ≤ cf) := rfl
                rw [d4] at m1
                go_quiet (fail)
                go_wp2_with (fail)
                have HB7 := Bas.hid (Bas.below_drewN HB6.out nq)
                have mm3 : (W6.drewN nq).cell? ⟨G, k * 4 + 3, none⟩ = some (.slice sa ns sc) := m3
                generalize W6.drewN nq = W7 at *
                have lG := World.block_lt_of_cell? _ _ mm3
                clear m0 m1 m3 z0 z1 z2 k9 HB6
                go_loop [10, 11, 106] (fun _ _ vj => ∃ j : Nat, j ≤ ns ∧ vj = .int .i64 j) (fun _ _ vj => ns - (intOf vj).toNat)
                case atStart => exact ⟨0, Nat.zero_le _, rfl⟩
                case round =>
                  obtain ⟨j, hj, rfl⟩ := hrel
                  by_cases hjn : j < ns
                  · have hlen := HNS.out
                    obtain ⟨x, hx⟩ : ∃ x, cs[j]? = some x := ⟨_, List.getElem?_eq_getElem (by omega)⟩
                    obtain ⟨B1, O1, cp1, hv1, hcl⟩ := Row.leads_elem wS_len HSE.out hx (by omega)
                    cases hv1
                    rcases Row.owned_parts HSO.out with ⟨_, h0, _⟩ | ⟨G2, C2, hv2, _, hG2, _, _, hc2, _⟩
                    · omega
                    cases hv2
                    have hbw := HB4.out.trans (HB7.out.mono HB4.out.size)
                    have hc0 : w.cell? ⟨B1, O1 + j, none⟩ = some (.int .u16 x) := by
                      have h := hcl 0 (.int .u16 x) rfl
                      simpa using h
                    have cx := (hbw.cell (p := ⟨B1, O1 + j, none⟩) (World.block_lt_of_cell? _ _ hc0)).trans hc0
                    have cy := (HB7.out.cell (p := ⟨G2, j, none⟩) hG2).trans (hc2 j (.int .i64 x) (by rw [List.getElem?_map, hx]; rfl))
                    obtain ⟨os1, os2⟩ := HSS.out x (List.mem_of_getElem? hx)
                    clear hc2 hx hlen hcl hc0 hbw
                    go_wp2_with (fail)
                    go_round
                    case rel => exact ⟨j + 1, by omega, by go_num⟩
                    case measure => simp [intOf]; omega
                  · have hjn2 : j = ns := by omega
                    subst hjn2
                    clear mm3 lG
                    go_wp2_with (fail)
                    go_roundw
                    case rel => exact ⟨k + 1, by omega, by go_num, HB7.out⟩
                    case measure => simp [intOf]; omega
            · have hkn3 : k = n := by omega
              subst hkn3
              have HE := Bas.hid (HB4.out.trans (HB5.out.mono HB4.out.size))
              clear hb
              go_wp2_with (fail)
              go_ret
              exact ⟨rfl, HE.out⟩

set_option maxRecDepth 100000 in
theorem featBack_law {H : Type} {enc : TypeId × Value → H} (v : Value) (d : DataW H) (p : List MemPlace) (W : World) {base : Nat}
    (hv : Value.okWide Try.prog W .any base 62 v) (ht : DataW.Trod enc Try.prog W 0 (fun _ => true) true 62 v d p) :
    Calls Try.prog 7 #[v] W fun e w' => e = .returned (.bool true) ∧ Below W.heap.size W w' := by
  obtain ⟨a, len, cap, rfl⟩ := okWide_slice Try.underlying62 hv
  obtain ⟨fuel, hf⟩ := ht
  obtain ⟨l, h1, h2⟩ := open_plans (v := .slice a len cap) hf
  exact featBack_walk _ l W h1 h2
end Ft
end Go.Proofs.Ytgddghplhdmfdaa
