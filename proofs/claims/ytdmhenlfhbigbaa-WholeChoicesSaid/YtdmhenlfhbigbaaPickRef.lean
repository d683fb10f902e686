/- Layer 9's reference: Exclusive, Right, Over, On. -/
import Derived.Test.YtdmhenlfhbigbaaPickOn
namespace Go.Proofs.Ytdmhenlfhbigbaa
open Go.RowKit
namespace Pk
open Ch Ft Go.Maps

set_option maxHeartbeats 2000000 in
theorem rright_any (t v : Int) (w : World) : Calls Try.prog 21 #[.agg #[.int .i64 t, .int .i64 v]] w fun e w' => e = .returned (.bool (rightB (t, v))) ∧ Below w.heap.size w w' := by
  have HB := Bas.hid ((Below.refl w.heap.size w).alloc (Nat.le_refl _) (.cells #[.int .i64 t, .int .i64 v] 27))
  by_cases h1 : 0 ≤ t
  · have a1 : decide (t ≥ 0) = true := decide_eq_true h1
    have b1 : decide (0 ≤ t) = true := decide_eq_true h1
    by_cases h2 : t ≤ 65535
    · have a2 : decide (t ≤ 65535) = true := decide_eq_true h2
      by_cases h3 : 0 ≤ v
      · have a3 : decide (v ≥ 0) = true := decide_eq_true h3
        have b3 : decide (0 ≤ v) = true := decide_eq_true h3
        by_cases h4 : v ≤ 65535
        · have a4 : decide (v ≤ 65535) = true := decide_eq_true h4
          have hr : rightB (t, v) = true := decide_eq_true ⟨h1, h2, h3, h4⟩
          rw [hr]
          clear h1 h2 h3 h4 hr
          go_enter Try.func21, Try.ntmps21
          go_wp2_with (fail)
          go_ret
          exact ⟨rfl, HB.out⟩
        · have a4 : decide (v ≤ 65535) = false := decide_eq_false h4
          have hr : rightB (t, v) = false := decide_eq_false (fun h => h4 h.2.2.2)
          rw [hr]
          clear h1 h2 h3 h4 hr
          go_enter Try.func21, Try.ntmps21
          go_wp2_with (fail)
          go_ret
          exact ⟨rfl, HB.out⟩
      · have a3 : decide (v ≥ 0) = false := decide_eq_false h3
        have b3 : decide (0 ≤ v) = false := decide_eq_false h3
        have hr : rightB (t, v) = false := decide_eq_false (fun h => h3 h.2.2.1)
        rw [hr]
        clear h1 h2 h3 hr
        go_enter Try.func21, Try.ntmps21
        go_wp2_with (fail)
        go_ret
        exact ⟨rfl, HB.out⟩
    · have a2 : decide (t ≤ 65535) = false := decide_eq_false h2
      have hr : rightB (t, v) = false := decide_eq_false (fun h => h2 h.2.1)
      rw [hr]
      clear h1 h2 hr
      go_enter Try.func21, Try.ntmps21
      go_wp2_with (fail)
      go_ret
      exact ⟨rfl, HB.out⟩
  · have a1 : decide (t ≥ 0) = false := decide_eq_false h1
    have b1 : decide (0 ≤ t) = false := decide_eq_false h1
    have hr : rightB (t, v) = false := decide_eq_false (fun h => h1 h.1)
    rw [hr]
    clear h1 hr
    go_enter Try.func21, Try.ntmps21
    go_wp2_with (fail)
    go_ret
    exact ⟨rfl, HB.out⟩


/-- The reference's features, as they lie. -/
def RRow (w : World) (v : Value) (fs : List FeatD) (rs : List Value) : Prop := rs.length = fs.length ∧ Row.Leads w v fs.length ((fs.zip rs).flatMap fC)
theorem rRow_below {w w' : World} {v : Value} {fs : List FeatD} {rs : List Value} (h : RRow w v fs rs) (hb : Below w.heap.size w w') : RRow w' v fs rs := ⟨h.1, Row.leads_below h.2 hb⟩
def rexclL (fs : List FeatD) (kind : Int) : Bool := match fs.find? (fun f => decide (f.type = kind)) with
  | some f => f.excl
  | none => false

set_option maxRecDepth 100000 in
set_option maxHeartbeats 4000000 in
theorem rexcl_any (v : Value) (fs : List FeatD) (rs : List Value) (kind : Int) (w : World) (hr : RRow w v fs rs) (hlen : fs.length ≤ 100000) :
    Calls Try.prog 33 #[v, .int .i64 kind] w fun e w' => e = .returned (.bool (rexclL fs kind)) ∧ w = w' := by
  obtain ⟨hrl, hl⟩ := hr
  obtain ⟨ad, cp, rfl⟩ := Row.leads_slice hl
  have HL := Bas.hid hl
  have HRL := Bas.hid hrl
  obtain ⟨n, hn⟩ : ∃ n, fs.length = n := ⟨_, rfl⟩
  have HN := Bas.hid hn
  rw [hn] at HL hlen ⊢
  obtain ⟨r, hrr⟩ : ∃ r, rexclL fs kind = r := ⟨_, rfl⟩
  have HR := Bas.hid hrr
  rw [hrr]
  clear hl hrl hn hrr
  go_enter Try.func33, Try.ntmps33
  go_wp2_with (fail)
  go_loopw [5] (fun vi wr => ∃ i : Nat, i ≤ n ∧ vi = .int .i64 i ∧ (∀ f ∈ fs.take i, f.type ≠ kind) ∧ w = wr) (fun vi _ => n - (intOf vi).toNat)
  case atStart => exact ⟨0, Nat.zero_le _, rfl, fun f hf => by simp at hf, rfl⟩
  case round =>
    obtain ⟨i, hi, rfl, hno, rfl⟩ := hrel
    have HNO := Bas.hid hno
    clear hno
    by_cases hin : i < n
    · have e1 : decide ((i : Int) < (n : Int)) = true := by simp; omega
      have e2 : decide (i < n) = true := by simp; omega
      obtain ⟨f, hf⟩ : ∃ f, fs[i]? = some f := ⟨_, List.getElem?_eq_getElem (by rw [HN.out]; exact hin)⟩
      obtain ⟨s, hs⟩ : ∃ s, rs[i]? = some s := ⟨_, List.getElem?_eq_getElem (by rw [HRL.out, HN.out]; exact hin)⟩
      have hz : (fs.zip rs)[i]? = some (f, s) := List.getElem?_zip_eq_some.2 ⟨hf, hs⟩
      obtain ⟨B, Of, cp0, hv0, hcl⟩ := Row.leads_elem fC_len HL.out hz (by omega)
      cases hv0
      have c0 := hcl 0 _ rfl
      have c1 := hcl 1 _ rfl
      simp only [Nat.add_zero] at c0
      simp only at c0 c1
      have HF := Bas.hid hf
      have htk : fs.take (i + 1) = fs.take i ++ [f] := by rw [List.take_add_one, hf]; rfl
      have HTK := Bas.hid htk
      obtain ⟨ty, hty⟩ : ∃ ty, f.type = ty := ⟨_, rfl⟩
      obtain ⟨ex, hex⟩ : ∃ ex, f.excl = ex := ⟨_, rfl⟩
      rw [hty] at c0
      rw [hex] at c1
      have HTY := Bas.hid hty
      have HEX := Bas.hid hex
      clear hcl hz hf hs htk hty hex
      by_cases ht : ty = kind
      · subst ht
        have hre : r = ex := by
          rw [← HR.out, ← HEX.out]
          unfold rexclL
          have : fs.find? (fun f => decide (f.type = ty)) = some f := by
            rw [List.find?_eq_some_iff_getElem]
            refine ⟨by simp [HTY.out], i, by rw [HN.out]; exact hin, ?_, fun j hj => ?_⟩
            · have := HF.out
              rw [List.getElem?_eq_getElem (by rw [HN.out]; exact hin)] at this
              exact Option.some.inj this
            · have hm : fs[j]'(by rw [HN.out]; omega) ∈ fs.take i := by
                rw [List.mem_take_iff_getElem]
                exact ⟨j, by rw [HN.out]; omega, rfl⟩
              have := HNO.out _ hm
              simpa using this
          rw [this]
        have HRE := Bas.hid hre
        clear hre
        go_wp2_with (fail)
        go_ret
        exact ⟨by rw [HRE.out]; first | done | rfl, rfl⟩
      · have f1 : (ty == kind) = false := by simpa using ht
        have f2 : decide (ty = kind) = false := by simpa using ht
        have HNX : Hid (∀ g ∈ fs.take (i + 1), g.type ≠ kind) := fun g hg => by
          rw [HTK.out] at hg
          rcases List.mem_append.1 hg with hg | hg
          · exact HNO.out g hg
          · simp at hg; subst hg; rw [HTY.out]; exact ht
        clear ht
        go_wp2_with (fail)
        go_roundw
        case rel => exact ⟨i + 1, by omega, by go_num, HNX.out, by first | rfl | trivial⟩
        case measure => simp [intOf]; omega
    · have hin2 : i = n := by omega
      subst hin2
      have hre : r = false := by
        rw [← HR.out]
        unfold rexclL
        have : fs.find? (fun f => decide (f.type = kind)) = none := by
          rw [List.find?_eq_none]
          intro f hf
          have := HNO.out f (by rw [← HN.out, List.take_length]; exact hf)
          simpa using this
        rw [this]
      have HRE := Bas.hid hre
      clear hre
      go_wp2_with (fail)
      go_ret
      exact ⟨by rw [HRE.out]; first | done | rfl, rfl⟩
/-- Does a setting take another one's place? -/
def overB (fs : List FeatD) (a b : Int × Int) : Bool := decide (a.1 = b.1) && (rexclL fs a.1 || decide (a.2.tdiv 2 = b.2.tdiv 2))

theorem half_rng (v : Int) (h : -9223372036854775808 ≤ v ∧ v ≤ 9223372036854775807) : -4611686018427387904 ≤ v.tdiv 2 ∧ v.tdiv 2 ≤ 4611686018427387903 := by
  rcases Int.le_total 0 v with h0 | h0
  · rw [Int.tdiv_eq_ediv_of_nonneg h0]; omega
  · obtain ⟨u, rfl⟩ : ∃ u, v = -u := ⟨-v, by omega⟩
    rw [Int.neg_tdiv, Int.tdiv_eq_ediv_of_nonneg (by omega)]; omega

set_option maxHeartbeats 4000000 in
theorem over_any (a0 a1 b0 b1 : Int) (v : Value) (fs : List FeatD) (rs : List Value) (w : World) (hr : RRow w v fs rs) (hlen : fs.length ≤ 100000) (ha : -9223372036854775808 ≤ a1 ∧ a1 ≤ 9223372036854775807) (hb : -9223372036854775808 ≤ b1 ∧ b1 ≤ 9223372036854775807) :
    Calls Try.prog 13 #[.agg #[.int .i64 a0, .int .i64 a1], .agg #[.int .i64 b0, .int .i64 b1], v] w fun e w' => e = .returned (.bool (overB fs (a0, a1) (b0, b1))) ∧ Below w.heap.size w w' := by
  have HBB := Bas.hid (((Below.refl w.heap.size w).alloc (Nat.le_refl _) (.cells #[.int .i64 a0, .int .i64 a1] 27)).alloc (by simp) (.cells #[.int .i64 b0, .int .i64 b1] 27))
  have hqa := half_rng a1 ha
  have hqb := half_rng b1 hb
  obtain ⟨qa, hqae⟩ : ∃ qa, a1.tdiv 2 = qa := ⟨_, rfl⟩
  obtain ⟨qb, hqbe⟩ : ∃ qb, b1.tdiv 2 = qb := ⟨_, rfl⟩
  have hov : overB fs (a0, a1) (b0, b1) = (decide (a0 = b0) && (rexclL fs a0 || decide (qa = qb))) := by unfold overB; rw [hqae, hqbe]
  rw [hqae] at hqa
  rw [hqbe] at hqb
  rw [hov]
  obtain ⟨qa0, qa1⟩ := hqa
  obtain ⟨qb0, qb1⟩ := hqb
  have HX := Bas.hid (fun w' (hb : Below w.heap.size w w') => rexcl_any v fs rs a0 w' (rRow_below hr hb) hlen)
  obtain ⟨va, vc, rfl⟩ := Row.leads_slice hr.2
  obtain ⟨x, hx⟩ : ∃ x, rexclL fs a0 = x := ⟨_, rfl⟩
  rw [hx] at HX ⊢
  clear hr hov ha hb hx
  by_cases h0 : a0 = b0
  · subst h0
    cases x with
    | true =>
      go_enter Try.func13, Try.ntmps13
      go_wp2_with (fail)
      refine (HX.out _ HBB.out).mono ?_
      rintro e w2 ⟨rfl, rfl⟩
      go_wp2_with (fail)
      go_ret
      exact ⟨by simp, HBB.out⟩
    | false =>
      by_cases hq : qa = qb
      · have f1 : (qa == qb) = true := by simpa using hq
        have f2 : decide (qa = qb) = true := by simpa using hq
        have HQ := Bas.hid f2
        clear hq
        go_enter Try.func13, Try.ntmps13
        go_wp2_with (fail)
        refine (HX.out _ HBB.out).mono ?_
        rintro e w2 ⟨rfl, rfl⟩
        go_wp2_with (fail)
        go_ret
        exact ⟨by rw [HQ.out]; simp, HBB.out⟩
      · have f1 : (qa == qb) = false := by simpa using hq
        have f2 : decide (qa = qb) = false := by simpa using hq
        have HQ := Bas.hid f2
        clear hq
        go_enter Try.func13, Try.ntmps13
        go_wp2_with (fail)
        refine (HX.out _ HBB.out).mono ?_
        rintro e w2 ⟨rfl, rfl⟩
        go_wp2_with (fail)
        go_ret
        exact ⟨by rw [HQ.out]; simp, HBB.out⟩
  · have f1 : (a0 == b0) = false := by simpa using h0
    have f2 : decide (a0 = b0) = false := by simpa using h0
    have HQ := Bas.hid f2
    clear h0
    go_enter Try.func13, Try.ntmps13
    go_wp2_with (fail)
    go_ret
    exact ⟨by rw [HQ.out]; simp, HBB.out⟩
end Pk
end Go.Proofs.Ytdmhenlfhbigbaa
