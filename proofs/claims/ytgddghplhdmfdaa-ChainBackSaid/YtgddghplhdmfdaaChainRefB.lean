/- The reference of layer 19: Read. -/
import Derived.Test.YtgddghplhdmfdaaChainRef
import Derived.Test.YtgddghplhdmfdaaChainTake
namespace Go.Proofs.Ytgddghplhdmfdaa
open Go.RowKit
namespace Ch
open Vw Ref01

/-- A row of chains of the call's own. -/
structure RRow (w : World) (base : Nat) (a : Option Addr) (cap : Nat) (v : Value) (cs : List PlaceD) (rs : List (Value × Value)) : Prop where
  len : rs.length = cs.length
  own : w.ownsRow base 99 3 v cs.length ((cs.zip rs).flatMap chainC)
  rules : ∀ (i : Nat) (c : PlaceD) (r : Value × Value), cs[i]? = some c → rs[i]? = some r → w.ownsRow base 102 4 r.1 c.c.rules.length (rulesC c.c.rules)
  subs : ∀ (i : Nat) (c : PlaceD) (r : Value × Value), cs[i]? = some c → rs[i]? = some r → w.ownsRow base 103 3 r.2 c.c.subs.length (subsR (sub a c.p (cap - c.p)) (cap - c.p) c.c.subs)

theorem rRow_nil (w : World) (base : Nat) (a : Option Addr) (cap : Nat) : RRow w base a cap (.slice none 0 0) [] [] := ⟨rfl, Row.owned_nil _ _ _ _, fun i c r h => by simp at h, fun i c r h => by simp at h⟩

/-- Kept where the inner rows are kept, the outer row being told anew. -/
theorem rRow_snoc {w w' : World} {base : Nat} {a : Option Addr} {cap : Nat} {v v' : Value} {cs : List PlaceD} {rs : List (Value × Value)} {c : PlaceD} {vr vs : Value} (h : RRow w base a cap v cs rs)
    (hown : w'.ownsRow base 99 3 v' (cs.length + 1) ((cs.zip rs).flatMap chainC ++ [.int .u32 c.c.first, vr, vs]))
    (hk : ∀ (e : TypeId) (size n : Nat) (u : Value) (xs : List Value), e ≠ 99 → w.ownsRow base e size u n xs → w'.ownsRow base e size u n xs)
    (h1 : w'.ownsRow base 102 4 vr c.c.rules.length (rulesC c.c.rules)) (h2 : w'.ownsRow base 103 3 vs c.c.subs.length (subsR (sub a c.p (cap - c.p)) (cap - c.p) c.c.subs)) : RRow w' base a cap v' (cs ++ [c]) (rs ++ [(vr, vs)]) := by
  refine ⟨by simp [h.len], ?_, fun i c' r' hc hr => ?_, fun i c' r' hc hr => ?_⟩
  · rw [List.length_append, List.zip_append h.len.symm, List.flatMap_append]
    simpa [chainC] using hown
  · by_cases hi : i < cs.length
    · rw [List.getElem?_append_left hi] at hc
      rw [List.getElem?_append_left (by rw [h.len]; exact hi)] at hr
      exact hk _ _ _ _ _ (by decide) (h.rules i c' r' hc hr)
    · have hi2 : i = cs.length := by
        have := (List.getElem?_eq_some_iff.1 hc).1
        simp at this; omega
      subst hi2
      rw [List.getElem?_append_right (by omega)] at hc
      rw [List.getElem?_append_right (by have := h.len; omega)] at hr
      simp [h.len] at hc hr
      subst hc hr
      exact h1
  · by_cases hi : i < cs.length
    · rw [List.getElem?_append_left hi] at hc
      rw [List.getElem?_append_left (by rw [h.len]; exact hi)] at hr
      exact hk _ _ _ _ _ (by decide) (h.subs i c' r' hc hr)
    · have hi2 : i = cs.length := by
        have := (List.getElem?_eq_some_iff.1 hc).1
        simp at this; omega
      subst hi2
      rw [List.getElem?_append_right (by omega)] at hc
      rw [List.getElem?_append_right (by have := h.len; omega)] at hr
      simp [h.len] at hc hr
      subst hc hr
      exact h2

theorem rRow_below {w w' : World} {base : Nat} {a : Option Addr} {cap : Nat} {v : Value} {cs : List PlaceD} {rs : List (Value × Value)} (h : RRow w base a cap v cs rs) (hb : Below w.heap.size w w') : RRow w' base a cap v cs rs :=
  ⟨h.len, Row.owned_below h.own hb, fun i c r hc hr => Row.owned_below (h.rules i c r hc hr) hb, fun i c r hc hr => Row.owned_below (h.subs i c r hc hr) hb⟩


theorem owned_empty (w : World) (base : Nat) (e : TypeId) (size : Nat) (hb : base ≤ w.heap.size) : (w.alloc (.cells #[] e)).ownsRow base e size (.slice (some ⟨w.heap.size, 0, none⟩) 0 0) 0 [] :=
  ⟨by simp, .inr ⟨w.heap.size, 0, #[], rfl, hb, Bas.heap_new _ _, Nat.le_refl _, Nat.zero_le _, by simp, by simp⟩⟩

theorem rRow_empty (w : World) (a : Option Addr) (cap : Nat) : RRow (w.alloc (.cells #[] 99)) w.heap.size a cap (.slice (some ⟨w.heap.size, 0, none⟩) 0 0) [] [] :=
  ⟨rfl, owned_empty _ _ _ _ (Nat.le_refl _), fun i c r h => by simp at h, fun i c r h => by simp at h⟩

def RefReadP (w : World) (a : Option Addr) (cap : Nat) (bs : List Int) (e : Ending) (w' : World) : Prop :=
  Below w.heap.size w w' ∧ match parseAll bs with
    | none => e = .returned (.tuple #[.slice none 0 0, .bool false])
    | some cs => ∃ v rs, e = .returned (.tuple #[v, .bool true]) ∧ RRow w' w.heap.size a cap v cs rs

theorem infoRC : (Try.prog.info? 99).map (fun i => (i.zero, i.size, i.bytes)) = some (some (.agg #[.int .u32 0, .slice none 0 0, .slice none 0 0]), 3, 56) := by kernel_rfl

theorem VB.win {w : World} {a : Option Addr} {bs : List Int} (h : VB w a bs) (p n c : Nat) (hn : p + n ≤ bs.length) (hc : n ≤ c) : VB w (sub a p c) ((bs.drop p).take n) := by
  by_cases h0 : n = 0
  · subst h0; exact ⟨by simp, by simp, by simp⟩
  · have h1 := h.sub p n hn
    have h2 : sub a p c = sub a p n := by unfold sub; rw [if_neg (by omega), if_neg h0]
    rw [h2]; exact h1

set_option maxRecDepth 100000 in
set_option maxHeartbeats 8000000 in
theorem refRead_any (a : Option Addr) (len cap : Nat) (bs : List Int) (w : World) (hlc : len ≤ cap) (hcm : cap ≤ maxLen) (hlm : len ≤ 1000000000) (hv : VB w a bs) (hbl : bs.length = len) :
    Calls Try.prog 18 #[.slice a len cap] w (RefReadP w a cap bs) := by
  have UK := u_any a len cap bs 0 2 2 rfl w (by omega) hv hbl (by omega)
  have UN := u_any a len cap bs 4 4 4 rfl w (by omega) hv hbl (by omega)
  have bk := uval_bd bs hv.byte 0 2 (by omega)
  have bn := uval_bd bs hv.byte 4 4 (by omega)
  have HK : Hid (8 ≤ len → uval bs 0 2 = be bs 0 2 ∧ uval bs 4 4 = be bs 4 4) := fun h => ⟨uval_nat bs 0 2 (by omega), uval_nat bs 4 4 (by omega)⟩
  have HN0 : Hid (0 ≤ uval bs 4 4 → 8 ≤ len) := fun h => by
    by_cases h8 : 8 ≤ len
    · exact h8
    · exfalso
      unfold uval at h
      rw [if_neg (by omega)] at h
      omega
  generalize uval bs 0 2 = kind at *
  generalize uval bs 4 4 = n at *
  have HV := Bas.hid hv
  have HUK := Bas.hid UK
  have HUN := Bas.hid UN
  clear hv UK UN
  go_enter Try.func18, Try.ntmps18
  go_wp2_with (fail)
  refine HUK.out.mono ?_
  rintro e w' ⟨rfl, rfl⟩
  go_wp2_with (fail)
  refine HUN.out.mono ?_
  rintro e w' ⟨rfl, rfl⟩
  by_cases hgood : (kind = 2 ∨ kind = 3) ∧ 0 ≤ n
  · obtain ⟨hkind, hn0⟩ := hgood
    have h8 := HN0.out hn0
    obtain ⟨hk1, hn1⟩ := HK.out h8
    obtain ⟨m, rfl⟩ := Int.eq_ofNat_of_zero_le hn0
    have HPA : Hid (parseAll bs = chainsAt bs m 8) := by
      unfold Hid parseAll
      rw [← hn1, Int.toNat_natCast, ← hk1, if_pos ⟨by omega, hkind⟩]
    clear hk1 hn1 HK HN0 HUK HUN
    rcases hkind with rfl | rfl
    all_goals
      go_wp2_with (fail)
      have K1 := rRow_empty w a cap
      have HB1 := Bas.hid ((Below.refl w.heap.size w).alloc (Nat.le_refl _) (.cells #[] 99))
      generalize w.alloc (.cells #[] 99) = W1 at *
      go_loopw [6, 7, 8, 9, 10, 11] (fun xo va vc xs xp xk wr => ∃ (k p : Nat) (vo : Value) (cs : List PlaceD) (rs : List (Value × Value)), k ≤ m ∧ vc = .int .i64 k ∧ va = .int .i64 p ∧ xo = vo ∧ p ≤ len ∧ cs.length = k ∧ chainsAt bs m 8 = (chainsAt bs (m - k) p).map (fun l => cs ++ l) ∧
        RRow wr w.heap.size a cap vo cs rs ∧ Below w.heap.size w wr) (fun _ _ vc _ _ _ _ => m - (intOf vc).toNat)
      case atStart => exact ⟨0, 8, _, [], [], Nat.zero_le _, rfl, rfl, rfl, h8, rfl, by simp, K1, HB1.out⟩
      case round =>
        obtain ⟨k, p, vo, cs, rs, hk, rfl, rfl, rfl, hp, hdl, hsub, hrow, hb⟩ := hrel
        obtain ⟨ado, cpo, rfl⟩ := own_slice hrow.own
        have HSUB := Bas.hid hsub
        have HDL := Bas.hid hdl
        have HCR := Bas.hid hrow
        have HBL := Bas.hid hb
        clear hsub hdl hrow hb K1
        by_cases hkn : k < m
        · have hfail : ¬ (p + 8 ≤ bs.length ∧ 16 ≤ (be bs (p + 4) 4).toNat ∧ p + (be bs (p + 4) 4).toNat ≤ bs.length) → RefReadP w a cap bs (.returned (.tuple #[.slice none 0 0, .bool false])) wr := fun hn => by
            refine ⟨HBL.out, ?_⟩
            have : parseAll bs = none := by
              rw [HPA.out, HSUB.out, show m - k = (m - k - 1) + 1 by omega, chainsAt, if_neg hn]
              rfl
            rw [this]
          have HFAIL := Bas.hid hfail
          have UP := u_any a len cap bs ((p : Int) + 4) 4 4 rfl wr (by omega) (HV.out.below HBL.out) hbl (by omega)
          have gb := uval_bd bs HV.out.byte ((p : Int) + 4) 4 (by omega)
          have hun : 0 ≤ uval bs ((p : Int) + 4) 4 → p + 8 ≤ len ∧ uval bs ((p : Int) + 4) 4 = be bs (p + 4) 4 := fun h => by
            by_cases h4 : p + 8 ≤ len
            · exact ⟨h4, uval_nat bs (p + 4) 4 (by omega)⟩
            · exfalso
              unfold uval at h
              rw [if_neg (by omega)] at h
              omega
          have hun2 : p + 8 ≤ len → uval bs ((p : Int) + 4) 4 = be bs (p + 4) 4 := fun h => uval_nat bs (p + 4) 4 (by omega)
          generalize uval bs ((p : Int) + 4) 4 = n at *
          have HUP := Bas.hid UP
          have HUN := Bas.hid hun
          have HUN2 := Bas.hid hun2
          clear hfail UP hun hun2
          go_wp2_with (fail)
          refine HUP.out.mono ?_
          rintro e w' ⟨rfl, rfl⟩
          by_cases f2 : 16 ≤ n
          · obtain ⟨h4, hnb⟩ := HUN.out (by omega)
            obtain ⟨q, rfl⟩ := Int.eq_ofNat_of_zero_le (show 0 ≤ n by omega)
            have d2 : decide ((q : Int) < 16) = false := by simp; omega
            have HN := Bas.hid hnb.symm
            rw [← hnb, Int.toNat_natCast] at HFAIL
            clear hnb HUN HUN2 HUP
            go_wp2_with (fail)
            by_cases f3 : p + q ≤ len
            · refine (in_yes _ _ _ _ (by omega) (by omega) (by omega) (by omega)).mono ?_
              rintro e w' ⟨rfl, rfl⟩
              have SW : ∀ W, (Instr.slice 26 (.slice a len cap) (some (.int .i64 (p : Int))) (some (.int .i64 ((p : Int) + (q : Int)))) none).run Try.prog W = .ok (.slice (sub a p (cap - p)) q (cap - p)) W := fun W => by
                have h := run_win W a len cap p (p + q) (by omega) (by omega)
                rw [show p + q - p = q by omega, Int.natCast_add] at h
                exact h
              have HS : Hid (sub a p (cap - p) = sub a p (cap - p)) := rfl
              have HVS := Bas.hid (VB.win (HV.out.below HBL.out) p q (cap - p) (by omega) (by omega))
              have HRR : Hid (∀ s : List SubD, subsR (sub a p (cap - p)) (cap - p) s = subsR (sub a p (cap - p)) (cap - p) s) := fun _ => rfl
              generalize hS : sub a p (cap - p) = S at *
              generalize hsc : cap - p = sc at *
              have HSS := Bas.hid hS
              have HSC := Bas.hid hsc
              have hbm : ((bs.drop p).take q).length = q := by rw [List.length_take, List.length_drop]; omega
              have hqc : q ≤ sc := by omega
              have hscm : sc ≤ maxLen := by omega
              have HO := Bas.hid (refOne_any S q sc _ wr hqc hscm (by omega) HVS.out hbm)
              clear hS hsc HS HRR hbm
              go_wp2_with (fail)
              refine HO.out.mono ?_
              rintro e w8 ⟨hb8, he⟩
              have HB8 := Bas.hid (HBL.out.trans (hb8.mono HBL.out.size))
              have HC8 := Bas.hid (rRow_below HCR.out hb8)
              have hs8 := hb8.size
              have hs0 := HBL.out.size
              cases hpo : parseOne ((bs.drop p).take q) with
              | none =>
                rw [hpo] at he
                obtain ⟨f, a1, n1, c1, a2, n2, c2, rfl⟩ := he
                have HNO : Hid (parseAll bs = none) := by
                  unfold Hid
                  rw [HPA.out, HSUB.out, show m - k = (m - k - 1) + 1 by omega, chainsAt, HN.out, Int.toNat_natCast, if_pos ⟨by omega, by omega, by omega⟩, hpo]
                  rfl
                have POST : Hid (∀ w', Below w8.heap.size w8 w' → RefReadP w a cap bs (.returned (.tuple #[.slice none 0 0, .bool false])) w') := fun w' hb => ⟨HB8.out.trans (hb.mono HB8.out.size), by rw [HNO.out]⟩
                clear hb8 HO hpo HFAIL SW
                go_wp2_with (fail)
                exact bodyPost_ret (v := .tuple #[.slice none 0 0, .bool false]) (by simp [results, Try.results18, go_sem]) rfl (POST.out _ ((Below.refl _ _).alloc (Nat.le_refl _) _))
              | some c =>
                rw [hpo] at he
                obtain ⟨vr, vs, rfl, hr1, hr2⟩ := he
                have HP := Bas.hid hpo
                have HR1 := Bas.hid (Row.owned_base hr1 hs0)
                have HR2 := Bas.hid (Row.owned_base hr2 hs0)
                obtain ⟨adr, cpr, rfl⟩ := own_slice hr1
                obtain ⟨ads, cps, rfl⟩ := own_slice hr2
                clear hb8 HO hpo hr1 hr2 HFAIL SW
                go_wp2_with (at_builtin; refine Row.fence ?_)
                refine Row.unfence ?_
                have hb8' := (Below.refl w8.heap.size w8).alloc (Nat.le_refl _) (.cells #[.int .u32 c.first, .slice adr c.rules.length cpr, .slice ads c.subs.length cps] 99)
                have hs9 : (w8.alloc (.cells #[.int .u32 c.first, .slice adr c.rules.length cpr, .slice ads c.subs.length cps] 99)).heap.size = w8.heap.size + 1 := by simp
                generalize w8.alloc (.cells #[.int .u32 c.first, .slice adr c.rules.length cpr, .slice ads c.subs.length cps] 99) = W9 at *
                have k9 := Bas.heap_new W9 (.cells #[.int .u32 c.first, .slice adr c.rules.length cpr, .slice ads c.subs.length cps] 99)
                rw [hs9] at k9
                have hb9 : Below w8.heap.size w8 (W9.alloc (.cells #[.int .u32 c.first, .slice adr c.rules.length cpr, .slice ads c.subs.length cps] 99)) := hb8'.alloc hb8'.size _
                have HB9 := Bas.hid (HB8.out.trans (hb9.mono HB8.out.size))
                have HC9 := Bas.hid (rRow_below HC8.out hb9)
                have HR1' := Bas.hid (Row.owned_below HR1.out hb9)
                have HR2' := Bas.hid (Row.owned_below HR2.out hb9)
                generalize W9.alloc (.cells #[.int .u32 c.first, .slice adr c.rules.length cpr, .slice ads c.subs.length cps] 99) = W10 at *
                clear hb9 hb8' HB8 HC8 HR1 HR2
                have hkb : cs.length ≤ 4294967295 := by rw [HDL.out]; omega
                refine (Row.append_any rfl _ _ 33 99 rfl (.agg #[.int .u32 0, .slice none 0 0, .slice none 0 0]) 3 56 Try.underlying33 infoRC rfl (by decide) w.heap.size (.slice ado cs.length cpo) cs.length _ rfl HC9.out.own (.slice (some ⟨w8.heap.size + 1, 0, none⟩) 1 1) 1 [.int .u32 c.first, .slice adr c.rules.length cpr, .slice ads c.subs.length cps] rfl (leads_heap k9) rfl (by simp; exact ⟨rfl, rfl, rfl⟩) (by unfold maxLen; omega) (by omega) HB9.out.size ?_)
                intro v' w10 hown10 hg10 _
                obtain ⟨ad10, cp10, rfl⟩ := own_slice hown10
                have HK := Bas.hid fun (e : TypeId) (size n : Nat) (u : Value) (xs : List Value) (he : e ≠ 99) (ho : W10.ownsRow w.heap.size e size u n xs) => Row.owned_keep ho fun g' hg' => hg10.block g' (Row.own_block ho hg').2 (fun e' => own_rows_ne HC9.out.own ho (fun h => he h.symm) e'.symm hg')
                have HCN := Bas.hid (rRow_snoc (c := ⟨c, p, q⟩) HC9.out hown10 HK.out (HK.out _ _ _ _ _ (by decide) HR1'.out) (by rw [HSC.out, HSS.out]; exact HK.out _ _ _ _ _ (by decide) HR2'.out))
                have HB10 := Bas.hid (HB9.out.grown hg10 HB9.out.size (fun g' hg' => (Row.own_block HC9.out.own hg').1))
                clear hown10 hg10 k9 HB9 HC9 HR1' HR2' HK
                go_wp2_with (fail)
                go_roundw
                case rel => exact ⟨k + 1, p + q, _, cs ++ [⟨c, p, q⟩], rs ++ [(.slice adr c.rules.length cpr, .slice ads c.subs.length cps)], by omega, by go_num, by go_num, rfl, f3, by rw [List.length_append, HDL.out]; rfl, by
                  rw [HSUB.out, show m - k = (m - (k + 1)) + 1 by omega, chainsAt, HN.out, Int.toNat_natCast, if_pos ⟨by omega, by omega, by omega⟩, HP.out]; simp [Option.map_map, Function.comp_def], HCN.out, HB10.out⟩
                case measure => simp [intOf]; omega
            · refine (in_no _ _ _ _ (by omega) (by omega) (by omega)).mono ?_
              rintro e w' ⟨rfl, rfl⟩
              go_wp2_with (fail)
              exact bodyPost_ret (v := .tuple #[.slice none 0 0, .bool false]) (by simp [results, Try.results18, go_sem]) rfl (HFAIL.out (by omega))
          · have d2 : decide (n < 16) = true := by simp; omega
            go_wp2_with (fail)
            exact bodyPost_ret (v := .tuple #[.slice none 0 0, .bool false]) (by simp [results, Try.results18, go_sem]) rfl (HFAIL.out (fun h => by have := HUN2.out (by omega); omega))
        · have hdone : parseAll bs = some cs := by
            rw [HPA.out, HSUB.out, show m - k = 0 by omega, chainsAt]; simp
          have HD := Bas.hid hdone
          clear hdone
          go_wp2_with (fail)
          refine bodyPost_ret (v := .tuple #[.slice ado cs.length cpo, .bool true]) (by simp [results, Try.results18, go_sem]) rfl ⟨HBL.out, ?_⟩
          rw [HD.out]
          exact ⟨_, _, rfl, HCR.out⟩
  · have HPA : Hid (parseAll bs = none) := by
      unfold Hid parseAll
      by_cases h8 : 8 ≤ len
      · obtain ⟨hk1, hn1⟩ := HK.out h8
        have hg := be4_bd bs HV.out.byte 4 (by omega)
        rw [← hk1, if_neg (by omega)]
      · rw [if_neg (by omega)]
    have POST : Hid (RefReadP w a cap bs (.returned (.tuple #[.slice none 0 0, .bool false])) w) := ⟨Below.refl _ _, by rw [HPA.out]⟩
    by_cases q1 : kind = 2
    · subst q1
      have d : decide (n < 0) = true := by simp; omega
      go_wp2_with (fail)
      exact bodyPost_ret (v := .tuple #[.slice none 0 0, .bool false]) (by simp [results, Try.results18, go_sem]) rfl POST.out
    · have e1 : (kind == 2) = false := by simpa using q1
      by_cases q2 : kind = 3
      · subst q2
        have d : decide (n < 0) = true := by simp; omega
        go_wp2_with (fail)
        exact bodyPost_ret (v := .tuple #[.slice none 0 0, .bool false]) (by simp [results, Try.results18, go_sem]) rfl POST.out
      · have e2 : (kind == 3) = false := by simpa using q2
        go_wp2_with (fail)
        exact bodyPost_ret (v := .tuple #[.slice none 0 0, .bool false]) (by simp [results, Try.results18, go_sem]) rfl POST.out

end Ch
end Go.Proofs.Ytgddghplhdmfdaa
