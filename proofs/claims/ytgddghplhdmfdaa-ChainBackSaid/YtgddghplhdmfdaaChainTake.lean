/- Layer 19 (chain): Take. -/
import Derived.Test.YtgddghplhdmfdaaChainOneB
namespace Go.Proofs.Ytgddghplhdmfdaa
open Go.RowKit
namespace Ch
open Vw

/-- A chain, and where it stands. -/
structure PlaceD where
  c : ChainD
  p : Nat
  size : Nat

def chainsAt (bs : List Int) : Nat → Nat → Option (List PlaceD)
  | 0, _ => some []
  | k + 1, p => if p + 8 ≤ bs.length ∧ 16 ≤ (be bs (p + 4) 4).toNat ∧ p + (be bs (p + 4) 4).toNat ≤ bs.length then
      (parseOne ((bs.drop p).take (be bs (p + 4) 4).toNat)).bind fun c => (chainsAt bs k (p + (be bs (p + 4) 4).toNat)).map fun l => ⟨c, p, (be bs (p + 4) 4).toNat⟩ :: l
    else none

/-- All chains of a table. -/
def parseAll (bs : List Int) : Option (List PlaceD) :=
  if 8 ≤ bs.length ∧ (be bs 0 2 = 2 ∨ be bs 0 2 = 3) then chainsAt bs (be bs 4 4).toNat 8 else none

def chainC (x : PlaceD × (Value × Value)) : List Value := [.int .u32 x.1.c.first, x.2.1, x.2.2]

/-- A row of chains of the call's own. -/
structure ChRow (w : World) (base : Nat) (a : Option Addr) (v : Value) (cs : List PlaceD) (rs : List (Value × Value)) : Prop where
  len : rs.length = cs.length
  own : w.ownsRow base 46 3 v cs.length ((cs.zip rs).flatMap chainC)
  rules : ∀ (i : Nat) (c : PlaceD) (r : Value × Value), cs[i]? = some c → rs[i]? = some r → w.ownsRow base 50 4 r.1 c.c.rules.length (rulesC c.c.rules)
  subs : ∀ (i : Nat) (c : PlaceD) (r : Value × Value), cs[i]? = some c → rs[i]? = some r → w.ownsRow base 56 3 r.2 c.c.subs.length (subsC (sub a c.p c.size) c.c.subs)

theorem chRow_nil (w : World) (base : Nat) (a : Option Addr) : ChRow w base a (.slice none 0 0) [] [] := ⟨rfl, Row.owned_nil _ _ _ _, fun i c r h => by simp at h, fun i c r h => by simp at h⟩

/-- Kept where the inner rows are kept, the outer row being told anew. -/
theorem chRow_snoc {w w' : World} {base : Nat} {a : Option Addr} {v v' : Value} {cs : List PlaceD} {rs : List (Value × Value)} {c : PlaceD} {vr vs : Value} (h : ChRow w base a v cs rs)
    (hown : w'.ownsRow base 46 3 v' (cs.length + 1) ((cs.zip rs).flatMap chainC ++ [.int .u32 c.c.first, vr, vs]))
    (hk : ∀ (e : TypeId) (size n : Nat) (u : Value) (xs : List Value), e ≠ 46 → w.ownsRow base e size u n xs → w'.ownsRow base e size u n xs)
    (h1 : w'.ownsRow base 50 4 vr c.c.rules.length (rulesC c.c.rules)) (h2 : w'.ownsRow base 56 3 vs c.c.subs.length (subsC (sub a c.p c.size) c.c.subs)) : ChRow w' base a v' (cs ++ [c]) (rs ++ [(vr, vs)]) := by
  refine ⟨by simp [h.len], ?_, fun i c' r' hc hr => ?_, fun i c' r' hc hr => ?_⟩
  · rw [List.length_append, List.zip_append h.len.symm, List.flatMap_append]
    simpa [chainC] using hown
  · by_cases hi : i < cs.length
    · rw [List.getElem?_append_left hi] at hc
      rw [List.getElem?_append_left (by rw [h.len]; exact hi)] at hr
      exact hk _ _ _ _ _ (by decide) (h.rules i c' r' hc hr)
    · have hi2 : i = cs.length := by
        have := (List.getElem?_eq_some_iff.1 hc).1
        simp at this; omega
      subst hi2
      rw [List.getElem?_append_right (by omega)] at hc
      rw [List.getElem?_append_right (by have := h.len; omega)] at hr
      simp [h.len] at hc hr
      subst hc hr
      exact h1
  · by_cases hi : i < cs.length
    · rw [List.getElem?_append_left hi] at hc
      rw [List.getElem?_append_left (by rw [h.len]; exact hi)] at hr
      exact hk _ _ _ _ _ (by decide) (h.subs i c' r' hc hr)
    · have hi2 : i = cs.length := by
        have := (List.getElem?_eq_some_iff.1 hc).1
        simp at this; omega
      subst hi2
      rw [List.getElem?_append_right (by omega)] at hc
      rw [List.getElem?_append_right (by have := h.len; omega)] at hr
      simp [h.len] at hc hr
      subst hc hr
      exact h2

theorem chRow_below {w w' : World} {base : Nat} {a : Option Addr} {v : Value} {cs : List PlaceD} {rs : List (Value × Value)} (h : ChRow w base a v cs rs) (hb : Below w.heap.size w w') : ChRow w' base a v cs rs :=
  ⟨h.len, Row.owned_below h.own hb, fun i c r hc hr => Row.owned_below (h.rules i c r hc hr) hb, fun i c r hc hr => Row.owned_below (h.subs i c r hc hr) hb⟩

def TakeP (w : World) (a : Option Addr) (bs : List Int) (e : Ending) (w' : World) : Prop :=
  Below w.heap.size w w' ∧ match parseAll bs with
    | none => e = .panicked short
    | some cs => ∃ v rs, e = .returned v ∧ ChRow w' w.heap.size a v cs rs

theorem infoC : (Try.prog.info? 46).map (fun i => (i.zero, i.size, i.bytes)) = some (some (.agg #[.int .u32 0, .slice none 0 0, .slice none 0 0]), 3, 56) := by kernel_rfl

set_option maxRecDepth 100000 in
set_option maxHeartbeats 8000000 in
theorem take_main (a : Option Addr) (len cap : Nat) (bs : List Int) (n : Nat) (w : World) (hl : len ≤ cap) (hc : cap ≤ maxLen) (hv : VB w a bs) (hbl : bs.length = len) (hsmall : len ≤ 1000000000)
    (h8 : 8 ≤ len) (hn : be bs 4 4 = n) :
    Calls Try.prog 23 #[.agg #[.slice a len cap]] w (TakeP w a bs) := by
  have hn32 : n ≤ 4294967295 := by have := be4_bd bs hv.byte 4 (by omega); omega
  have U1 := fun (w' : World) (hb : Below w.heap.size w w') => u16_ok a len cap bs 0 w' hl hc (hv.below hb) hbl (by omega) (by omega)
  have U2 := fun (w' : World) (hb : Below w.heap.size w w') => u32_ok a len cap bs 4 w' hl hc (hv.below hb) hbl (by omega) (by omega)
  simp only [show Int.toNat 0 = 0 from rfl, show Int.toNat 4 = 4 from rfl] at U1 U2
  rw [hn] at U2
  have HPA : Hid (parseAll bs = if be bs 0 2 = 2 ∨ be bs 0 2 = 3 then chainsAt bs n 8 else none) := by
    unfold Hid parseAll
    rw [hn, Int.toNat_natCast]
    by_cases hk : be bs 0 2 = 2 ∨ be bs 0 2 = 3
    · rw [if_pos ⟨by omega, hk⟩, if_pos hk]
    · rw [if_neg (fun h => hk h.2), if_neg hk]
  have HU1 := Bas.hid U1
  have HU2 := Bas.hid U2
  have HV := Bas.hid hv
  generalize be bs 0 2 = kind at *
  clear U1 U2 hn hv
  go_enter Try.func23, Try.ntmps23
  go_wp2_with (fail)
  have k1 := Bas.heap_new w (.cells #[.slice a len cap] 54)
  have HB1 := Bas.hid ((Below.refl w.heap.size w).alloc (Nat.le_refl _) (.cells #[.slice a len cap] 54))
  generalize w.alloc (.cells #[.slice a len cap] 54) = W1 at *
  refine' Pl.region_v0 42 [] [0, 1, 2, 3, 4, 5] [] _ (by kernel_rfl) (by kernel_rfl) (by simp) (fun _ _ _ _ e h => ⟨e ▸ h.1, h.2⟩) ?_ ?_
  rotate_left
  · intro I F hI hF
    simp only [Pl.selN, List.nil_append, List.drop_succ_cons, List.drop_zero]
    have x1 := fun i => hF.cell (heap_lt k1) (cell_of_heap (i := 0) k1 rfl) i
    repeat (go_big_quiet_step ((first | (go_at_call 44; with_reducible exact hF.call (HU1.out _ (hF.on HB1.out _))) | (go_at_call 45; with_reducible exact hF.call (HU2.out _ (hF.on HB1.out _))))))
    refine wpQuiet_nil ?_
    rfl
  intro u hu
  simp only [Pl.selN]
  have k2 := (hu.block _ (heap_lt k1)).trans k1
  have HB2 := Bas.hid (HB1.out.trans (hu.mono HB1.out.size))
  clear hu k1 HB1 HU1 HU2
  have HU := Bas.hid fun (q : Nat) (w' : World) (hq : q + 4 ≤ len) (hb : Below w.heap.size w w') => (by
    have h := u32_ok a len cap bs (q : Int) w' hl hc (HV.out.below hb) hbl (by omega) (by omega)
    rwa [Int.toNat_natCast] at h : Calls Try.prog 45 #[.agg #[.slice a len cap], .int .i64 (q : Int)] w' fun e w'' => e = .returned (.int .i64 (be bs q 4)) ∧ Below w'.heap.size w' w'')
  by_cases hkind : kind = 2 ∨ kind = 3
  · have q1 : (if kind = 2 ∨ kind = 3 then chainsAt bs n 8 else none) = chainsAt bs n 8 := if_pos hkind
    rw [q1] at HPA
    clear q1
    rcases hkind with rfl | rfl
    all_goals
      go_wp2_with (go_at_call 46; refine (need_yesb _ _ (by first | rfl | (simp; done) | (simp; omega))).mono ?_; rintro e w' ⟨rfl, rfl⟩)
      go_loopw [5, 6, 20] (fun xo va vc wr => ∃ (k p : Nat) (vo : Value) (cs : List PlaceD) (rs : List (Value × Value)), k ≤ n ∧ vc = .int .i64 k ∧ va = .int .i64 p ∧ vo = xo ∧ p ≤ len ∧ cs.length = k ∧ chainsAt bs n 8 = (chainsAt bs (n - k) p).map (fun l => cs ++ l) ∧
        ChRow wr w.heap.size a vo cs rs ∧ Below w.heap.size w wr ∧ wr.heap[w.heap.size]? = some (.cells #[.slice a len cap] 54 (0, 0))) (fun _ _ vc _ => n - (intOf vc).toNat)
      case atStart => exact ⟨0, 8, _, [], [], Nat.zero_le _, rfl, rfl, rfl, h8, rfl, by simp, chRow_nil _ _ _, HB2.out, k2⟩
      case round =>
        obtain ⟨k, p, vo, cs, rs, hk, rfl, rfl, hvo0, hp, hdl, hsub, hrow, hb, n1⟩ := hrel
        rw [← hvo0]
        clear hvo0
        have HSUB := Bas.hid hsub
        have HDL := Bas.hid hdl
        have HCR := Bas.hid hrow
        have HBL := Bas.hid hb
        have c1 := cell_of_heap (i := 0) n1 rfl
        clear hsub hdl hrow hb k2
        by_cases hkn : k < n
        · have hfail : ¬ (p + 8 ≤ bs.length ∧ 16 ≤ (be bs (p + 4) 4).toNat ∧ p + (be bs (p + 4) 4).toNat ≤ bs.length) → parseAll bs = none := fun hn => by
            rw [HPA.out, HSUB.out, show n - k = (n - k - 1) + 1 by omega, chainsAt, if_neg hn]
            rfl
          have HFAIL := Bas.hid hfail
          clear hfail
          by_cases f1 : p + 8 ≤ len
          · have gb := be4_bd bs HV.out.byte (p + 4) (by omega)
            have UP := fun w' hb => HU.out (p + 4) w' (by omega) hb
            obtain ⟨m, hm⟩ : ∃ m : Nat, be bs (p + 4) 4 = m := ⟨(be bs (p + 4) 4).toNat, by omega⟩
            rw [hm] at UP gb
            rw [hm, Int.toNat_natCast] at HFAIL
            rw [show ((p + 4 : Nat) : Int) = (p : Int) + 4 by omega] at UP
            have HUP := Bas.hid UP
            have HM := Bas.hid hm
            clear UP hm
            have hm32 : m ≤ 4294967295 := by omega
            go_wp2_with (fail)
            refine (HUP.out _ HBL.out).mono ?_
            rintro e w6 ⟨rfl, hb6⟩
            have p1 := (hb6.block _ (heap_lt n1)).trans n1
            have c1 := cell_of_heap (i := 0) p1 rfl
            have HB6 := Bas.hid (HBL.out.trans (hb6.mono HBL.out.size))
            have HC6 := Bas.hid (chRow_below HCR.out hb6)
            clear hb6 n1 HUP HCR HBL
            by_cases f2 : 16 ≤ m
            · have d2 : decide ((16 : Int) ≤ (m : Int)) = true := by simp; omega
              go_wp2_with (go_at_call 46; refine (need_yesb _ _ (by first | rfl | (simp; done) | (simp; omega))).mono ?_; rintro e w' ⟨rfl, rfl⟩)
              by_cases f3 : p + m ≤ len
              · refine (cut_nat a len cap p m _ hl hc f3).mono ?_
                rintro e w7 ⟨rfl, hb7⟩
                have o1 := (hb7.block _ (heap_lt p1)).trans p1
                have HB7 := Bas.hid (HB6.out.trans (hb7.mono HB6.out.size))
                have HC7 := Bas.hid (chRow_below HC6.out hb7)
                generalize hS : sub a p m = S
                have HVS := Bas.hid ((HV.out.below HB7.out).sub p m (by omega))
                rw [hS] at HVS
                have HSS := Bas.hid hS
                have hs7 : w.heap.size < w7.heap.size := heap_lt o1
                have hbm : ((bs.drop p).take m).length = m := by rw [List.length_take, List.length_drop]; omega
                have hmm : m ≤ maxLen := by unfold maxLen; omega
                have HO := Bas.hid (one_any S m m _ w7 (Nat.le_refl _) hmm HVS.out hbm (by omega))
                clear hb7 p1 c1 HB6 HC6 hS
                go_wp2_with (fail)
                refine HO.out.mono ?_
                rintro e w8 ⟨hb8, he⟩
                have o8 := (hb8.block _ (heap_lt o1)).trans o1
                have HB8 := Bas.hid (HB7.out.trans (hb8.mono HB7.out.size))
                have HC8 := Bas.hid (chRow_below HC7.out hb8)
                have hs8 := hb8.size
                cases hpo : parseOne ((bs.drop p).take m) with
                | none =>
                  rw [hpo] at he
                  subst he
                  have HP := Bas.hid hpo
                  clear hb8 o1 HB7 HC7 HO hpo
                  go_wp2_with (fail)
                  refine ⟨rfl, HB8.out, ?_⟩
                  rw [HPA.out, HSUB.out, show n - k = (n - k - 1) + 1 by omega, chainsAt, HM.out, Int.toNat_natCast, if_pos ⟨by omega, f2, by omega⟩, HP.out]
                  rfl
                | some c =>
                  rw [hpo] at he
                  obtain ⟨vr, vs, rfl, hr1, hr2⟩ := he
                  have HP := Bas.hid hpo
                  have HR1 := Bas.hid (Row.owned_base hr1 (Nat.le_of_lt hs7))
                  have HR2 := Bas.hid (Row.owned_base hr2 (Nat.le_of_lt hs7))
                  obtain ⟨adr, cpr, rfl⟩ := own_slice hr1
                  obtain ⟨ads, cps, rfl⟩ := own_slice hr2
                  clear hb8 o1 HB7 HC7 HO hpo hr1 hr2
                  go_wp2_with (at_builtin; refine Row.fence ?_)
                  refine Row.unfence ?_
                  have o9 := (Below.heap_alloc w8 (.cells #[.int .u32 c.first, .slice adr c.rules.length cpr, .slice ads c.subs.length cps] 46) _ (heap_lt o8)).trans o8
                  have k9 := Bas.heap_new w8 (.cells #[.int .u32 c.first, .slice adr c.rules.length cpr, .slice ads c.subs.length cps] 46)
                  have hb9 := (Below.refl w8.heap.size w8).alloc (Nat.le_refl _) (.cells #[.int .u32 c.first, .slice adr c.rules.length cpr, .slice ads c.subs.length cps] 46)
                  have HB9 := Bas.hid (HB8.out.trans (hb9.mono HB8.out.size))
                  have HC9 := Bas.hid (chRow_below HC8.out hb9)
                  have HR1' := Bas.hid (Row.owned_below HR1.out hb9)
                  have HR2' := Bas.hid (Row.owned_below HR2.out hb9)
                  generalize w8.alloc (.cells #[.int .u32 c.first, .slice adr c.rules.length cpr, .slice ads c.subs.length cps] 46) = W9 at *
                  clear hb9 o8 HB8 HC8 HR1 HR2
                  have hvo := own_ty HC9.out.own o9 (by decide)
                  have hkb : cs.length ≤ 4294967295 := by rw [HDL.out]; omega
                  refine (Row.append_any rfl _ _ 28 46 rfl (.agg #[.int .u32 0, .slice none 0 0, .slice none 0 0]) 3 56 Try.underlying28 infoC rfl (by decide) w.heap.size vo cs.length _ rfl HC9.out.own (.slice (some ⟨w8.heap.size, 0, none⟩) 1 1) 1 [.int .u32 c.first, .slice adr c.rules.length cpr, .slice ads c.subs.length cps] rfl (leads_heap k9) rfl (by simp; exact ⟨rfl, rfl, rfl⟩) (by unfold maxLen; omega) (by omega) HB9.out.size ?_)
                  intro v' w10 hown10 hg10 _
                  obtain ⟨ad10, cp10, rfl⟩ := own_slice hown10
                  have z1 := (hg10.block _ (heap_lt o9) (fun e => hvo e.symm)).trans o9
                  have HK := Bas.hid fun (e : TypeId) (size n : Nat) (u : Value) (xs : List Value) (he : e ≠ 46) (ho : W9.ownsRow w.heap.size e size u n xs) => Row.owned_keep ho fun g' hg' => hg10.block g' (Row.own_block ho hg').2 (fun e' => own_rows_ne HC9.out.own ho (fun h => he h.symm) e'.symm hg')
                  have HCN := Bas.hid (chRow_snoc (c := ⟨c, p, m⟩) HC9.out hown10 HK.out (HK.out _ _ _ _ _ (by decide) HR1'.out) (by rw [HSS.out]; exact HK.out _ _ _ _ _ (by decide) HR2'.out))
                  have HB10 := Bas.hid (HB9.out.grown hg10 HB9.out.size (fun g' hg' => (Row.own_block HC9.out.own hg').1))
                  clear hown10 hg10 o9 k9 hvo HB9 HC9 HR1' HR2' HK
                  go_wp2_with (fail)
                  go_roundw
                  case rel => exact ⟨k + 1, p + m, _, cs ++ [⟨c, p, m⟩], rs ++ [(.slice adr c.rules.length cpr, .slice ads c.subs.length cps)], by omega, by go_num, by go_num, rfl, f3, by rw [List.length_append, HDL.out]; rfl, by
                    rw [HSUB.out, show n - k = (n - (k + 1)) + 1 by omega, chainsAt, HM.out, Int.toNat_natCast, if_pos ⟨by omega, f2, by omega⟩, HP.out]; simp [Option.map_map, Function.comp_def], HCN.out, HB10.out, z1⟩
                  case measure => simp [intOf]; omega
              · refine (cut_no a len cap _ _ _ hl hc (by omega)).mono ?_
                rintro e w7 ⟨rfl, hb7⟩
                go_wp2_with (fail)
                exact ⟨rfl, HB6.out.trans (hb7.mono HB6.out.size), by rw [HFAIL.out (by omega)]⟩
            · go_wp2_with (go_at_call 46; refine (need_nob _ _ (by first | (simp; done) | (simp; omega))).mono ?_; rintro e w' ⟨rfl, rfl⟩)
              exact ⟨rfl, HB6.out, by rw [HFAIL.out (by omega)]⟩
          · go_wp2_with (fail)
            refine (u32_no a len cap _ _ hl hc (by omega)).mono ?_
            rintro e w6 ⟨rfl, hb6⟩
            go_wp2_with (fail)
            exact ⟨rfl, HBL.out.trans (hb6.mono HBL.out.size), by rw [HFAIL.out (by omega)]⟩
        · have hdone : parseAll bs = some cs := by
            rw [HPA.out, HSUB.out, show n - k = 0 by omega, chainsAt]; simp
          have HD := Bas.hid hdone
          obtain ⟨ads, cps, rfl⟩ := own_slice HCR.out.own
          clear hdone
          go_wp2_with (fail)
          refine bodyPost_ret (v := .slice ads cs.length cps) (by simp [results, Try.results23, go_sem]) rfl ?_
          refine ⟨HBL.out, ?_⟩
          rw [HD.out]
          exact ⟨_, _, rfl, HCR.out⟩
  · have q1 : (if kind = 2 ∨ kind = 3 then chainsAt bs n 8 else none) = none := if_neg hkind
    rw [q1] at HPA
    have e1 : (kind == 2) = false := by simpa using fun h => hkind (.inl h)
    have e2 : (kind == 3) = false := by simpa using fun h => hkind (.inr h)
    go_wp2_with (go_at_call 46; refine (need_nob _ _ (by first | (simp; done) | (simp; omega))).mono ?_; rintro e w' ⟨rfl, rfl⟩)
    exact ⟨rfl, HB2.out, by rw [HPA.out]⟩
set_option maxRecDepth 100000 in
set_option maxHeartbeats 8000000 in
theorem take_short (a : Option Addr) (len cap : Nat) (bs : List Int) (w : World) (hl : len ≤ cap) (hc : cap ≤ maxLen) (hv : VB w a bs) (hbl : bs.length = len) (hsmall : len ≤ 1000000000)
    (h8 : len < 8) :
    Calls Try.prog 23 #[.agg #[.slice a len cap]] w (TakeP w a bs) := by
  have HNO : Hid (parseAll bs = none) := by unfold Hid parseAll; rw [if_neg (by omega)]
  have HV := Bas.hid hv
  clear hv
  go_enter Try.func23, Try.ntmps23
  go_wp2_with (fail)
  have k1 := Bas.heap_new w (.cells #[.slice a len cap] 54)
  have HB1 := Bas.hid ((Below.refl w.heap.size w).alloc (Nat.le_refl _) (.cells #[.slice a len cap] 54))
  generalize w.alloc (.cells #[.slice a len cap] 54) = W1 at *
  by_cases h2 : 2 ≤ len
  · have U1 := fun (w' : World) (hb : Below w.heap.size w w') => u16_ok a len cap bs 0 w' hl hc (HV.out.below hb) hbl (by omega) (by omega)
    simp only [show Int.toNat 0 = 0 from rfl] at U1
    have HU1 := Bas.hid U1
    clear U1
    refine' Pl.region_vh 42 [] [0, 1, 2] [] 3 11 [4, 5] _ (fun ch w' => ch = short ∧ Below w.heap.size w w') (by kernel_rfl) (by kernel_rfl) (by kernel_rfl) (by simp) (fun _ _ _ _ e h => ⟨e ▸ h.1, h.2⟩) ?_ ?_ ?_ ?_
    rotate_left
    · intro I F hI hF
      simp only [Pl.selN, List.nil_append, List.drop_succ_cons, List.drop_zero]
      have x1 := fun i => hF.cell (heap_lt k1) (cell_of_heap (i := 0) k1 rfl) i
      repeat (go_big_quiet_step ((go_at_call 44; with_reducible exact hF.call (HU1.out _ (hF.on HB1.out _)))))
      refine wpQuiet_nil ?_
      rfl
    · simp only [Pl.selN, List.drop_succ_cons, List.drop_zero, List.mem_singleton, forall_eq]
      intro u hu
      go_simp
      simp only [Pl.valsAt]
      refine (u32_no a len cap _ u hl hc (by omega)).mono ?_
      rintro e w'' ⟨he, hb⟩
      exact .inr ⟨short, he, rfl, HB1.out.trans ((hu.trans (hb.mono hu.size)).mono HB1.out.size)⟩
    · intro x hx; cases hx
    · rintro c a' u hd ⟨rfl, hb⟩
      exact ⟨hd, hb, by rw [HNO.out]⟩
  · refine' Pl.region_vh 42 [] [0, 2] [] 1 9 [3, 4, 5] _ (fun ch w' => ch = short ∧ Below w.heap.size w w') (by kernel_rfl) (by kernel_rfl) (by kernel_rfl) (by simp) (fun _ _ _ _ e h => ⟨e ▸ h.1, h.2⟩) ?_ ?_ ?_ ?_
    rotate_left
    · intro I F hI hF
      simp only [Pl.selN, List.nil_append, List.drop_succ_cons, List.drop_zero]
      have x1 := fun i => hF.cell (heap_lt k1) (cell_of_heap (i := 0) k1 rfl) i
      repeat (go_big_quiet_step (fail))
      refine wpQuiet_nil ?_
      rfl
    · simp only [Pl.selN, List.drop_succ_cons, List.drop_zero, List.mem_singleton, forall_eq]
      intro u hu
      go_simp
      simp only [Pl.valsAt]
      refine (u16_no a len cap _ u hl hc (by omega)).mono ?_
      rintro e w'' ⟨he, hb⟩
      exact .inr ⟨short, he, rfl, HB1.out.trans ((hu.trans (hb.mono hu.size)).mono HB1.out.size)⟩
    · intro x hx; cases hx
    · rintro c a' u hd ⟨rfl, hb⟩
      exact ⟨hd, hb, by rw [HNO.out]⟩

theorem take_any (a : Option Addr) (len cap : Nat) (bs : List Int) (w : World) (hl : len ≤ cap) (hc : cap ≤ maxLen) (hv : VB w a bs) (hbl : bs.length = len) (hsmall : len ≤ 1000000000) :
    Calls Try.prog 23 #[.agg #[.slice a len cap]] w (TakeP w a bs) := by
  by_cases h8 : 8 ≤ len
  · have h1 := be4_bd bs hv.byte 4 (by omega)
    exact take_main a len cap bs (be bs 4 4).toNat w hl hc hv hbl hsmall h8 (by omega)
  · exact take_short a len cap bs w hl hc hv hbl hsmall (by omega)
end Ch
end Go.Proofs.Ytgddghplhdmfdaa
