/- Layer 13 (verb): what 'speaks' answers; the walk of the law VerbKeeps. -/
import Derived.Test.YtakpppgikgimnaaVerbL
namespace Go.Proofs.Ytakpppgikgimnaa
open Go.RowKit
namespace Vb

theorem order_c (v n : Nat) (a b : Int) (ha : a = v) (hb : b = n) (w : World) (h1 : 1 ≤ v) (h2 : v ≤ 15) (h : (endsV v).1 + (endsV v).2.1 ≤ n) (hn : n ≤ 1000) : Calls Try.prog 52 #[.int .i64 a, .int .i64 b] w (NewIntsB w (orderL v n)) := by
  subst ha hb
  exact order_yes v n w h1 h2 h hn

set_option maxHeartbeats 1000000 in
theorem speaks_any (w : World) : Calls Try.prog 51 #[] w fun e w' => e = .returned (.bool true) ∧ Below w.heap.size w w' := by
  go_enter Try.func51, Try.ntmps51
  go_wp2_with (fail)
  refine (order_c 3 4 _ _ rfl rfl _ (by omega) (by omega) (by decide) (by omega)).mono ?_
  rintro e w1 ⟨v, rfl, hown, hb⟩
  rcases Row.owned_parts hown with ⟨_, h0, _⟩ | ⟨g, cp, rfl, hg, hgl, hc, hm, hcell, hfr⟩
  · exact absurd h0 (by decide)
  · have c0 : w1.cell? ⟨g, 0, none⟩ = some (.int .i64 3) := hcell 0 _ rfl
    have c1 : w1.cell? ⟨g, 1, none⟩ = some (.int .i64 1) := hcell 1 _ rfl
    have c3 : w1.cell? ⟨g, 3, none⟩ = some (.int .i64 0) := hcell 3 _ rfl
    have hlen : (orderL 3 4).length = 4 := rfl
    rw [hlen]
    clear hown hcell hc hlen hfr
    go_wp2_with (fail)
    go_ret
    exact ⟨rfl, hb⟩

set_option maxHeartbeats 2000000 in
theorem verbKeeps_walk (v n : Int) (w : World) (_wv : (Lit.int .i64 v).wf = true) (_wn : (Lit.int .i64 n).wf = true) :
    Calls Try.prog 13 #[.int .i64 v, .int .i64 n] w fun e w' => e = .returned (.bool true) ∧ Below w.heap.size w w' := by
  by_cases hbig : 200 < n
  · go_enter Try.func13, Try.ntmps13
    go_wp2_with (fail)
    refine (speaks_any _).mono ?_
    rintro e w1 ⟨rfl, hb1⟩
    go_wp2_with (fail)
    go_ret
    exact ⟨rfl, hb1⟩
  by_cases hv : v ≤ 0 ∨ 16 ≤ v
  · have HV := Bas.hid hv
    clear hv
    go_enter Try.func13, Try.ntmps13
    go_wp2_with (fail)
    refine (speaks_any _).mono ?_
    rintro e w1 ⟨rfl, hb1⟩
    go_wp2_with (fail)
    refine (order_out _ _ _ HV.out).mono ?_
    rintro e w2 ⟨rfl, hb2⟩
    go_wp2_with (fail)
    go_ret
    exact ⟨rfl, hb1.trans (hb2.mono hb1.size)⟩
  obtain ⟨u, rfl⟩ := Int.eq_ofNat_of_zero_le (by omega : 0 ≤ v)
  have hl := ends_le u
  by_cases hs : n < ((endsV u).1 + (endsV u).2.1 : Nat)
  · have HS := Bas.hid hs
    clear hs
    go_enter Try.func13, Try.ntmps13
    go_wp2_with (fail)
    refine (speaks_any _).mono ?_
    rintro e w1 ⟨rfl, hb1⟩
    go_wp2_with (fail)
    refine (order_short u n _ (by omega) (by omega) HS.out).mono ?_
    rintro e w2 ⟨rfl, hb2⟩
    go_wp2_with (fail)
    go_ret
    exact ⟨rfl, hb1.trans (hb2.mono hb1.size)⟩
  obtain ⟨m, rfl⟩ := Int.eq_ofNat_of_zero_le (by omega : 0 ≤ n)
  have hlr : (endsV u).1 + (endsV u).2.1 ≤ m := by omega
  have O := fun w => order_yes u m w (by omega) (by omega) hlr (by omega)
  have hlen := order_len u m hlr
  have hget := fun i => order_get u m i hlr
  generalize (endsV u).1 = l at *
  generalize (endsV u).2.1 = r at *
  generalize (endsV u).2.2.1 = tl at *
  generalize (endsV u).2.2.2 = tr at *
  generalize orderL u m = xs at *
  have HO := Bas.hid O
  clear O
  go_enter Try.func13, Try.ntmps13
  go_wp2_with (fail)
  refine (speaks_any _).mono ?_
  rintro e w1 ⟨rfl, hb1⟩
  go_wp2_with (fail)
  refine (HO.out _).mono ?_
  rintro e w2 ⟨vv, rfl, hown, hb2⟩
  have HB2 : Below w.heap.size w w2 := hb1.trans (hb2.mono hb1.size)
  rw [hlen] at hown
  have HL := Bas.hid hlen
  have hcells : ∀ i, i < m → ∃ g cp, vv = .slice (some ⟨g, 0, none⟩) m cp ∧ m ≤ cp ∧ cp ≤ maxLen ∧ w2.cell? ⟨g, i, none⟩ = some (.int .i64 (ordF l r tl tr m i)) := by
    intro i hi
    rcases Row.owned_parts hown with ⟨_, h0, _⟩ | ⟨g, cp, rfl, hg, hgl, hc, hm, hcell, hfr⟩
    · omega
    · exact ⟨g, cp, rfl, hc, hm, hcell i _ (by rw [List.getElem?_map, hget i hi]; rfl)⟩
  have HC := Bas.hid hcells
  have hshape : ∃ ad cp, vv = .slice ad m cp ∧ m ≤ cp ∧ cp ≤ maxLen := by
    rcases Row.owned_parts hown with ⟨rfl, h0, _⟩ | ⟨g, cp, rfl, hg, hgl, hc, hm, hcell, hfr⟩
    · exact ⟨none, 0, by rw [h0], by omega, by omega⟩
    · exact ⟨_, cp, rfl, hc, hm⟩
  obtain ⟨ad, cp, rfl, hcp, hcm⟩ := hshape
  clear hlen hget hown hcells HO
  go_wp2_with (fail)
  go_loop [32] (fun c => ∃ i : Nat, i ≤ m ∧ c = .int .i64 i) (fun c => m - (intOf c).toNat)
  case atStart => exact ⟨0, by omega, rfl⟩
  case round =>
    obtain ⟨i, hi, rfl⟩ := hrel
    by_cases him : i < m
    · obtain ⟨g, cp', he, _, _, hci⟩ := HC.out i him
      simp only [Value.slice.injEq] at he
      obtain ⟨rfl, _, rfl⟩ := he
      have hbd := ordF_bd l r tl tr m i hlr him
      have hinj := fun j hj => ordF_inj l r tl tr m i j hlr him hj
      have hnext := ordF_next l r tl tr m i hl.1 hl.2 hlr him
      generalize hx : ordF l r tl tr m i = x at hci hbd hinj hnext
      have HX := Bas.hid hx
      have HI := Bas.hid hinj
      have HN := Bas.hid hnext
      obtain ⟨x0, x1⟩ := hbd
      clear hx hinj hnext
      go_wp2_with (fail)
      go_loop [48] (fun c => ∃ j : Nat, j ≤ i ∧ c = .int .i64 j) (fun c => i - (intOf c).toNat)
      case atStart => exact ⟨0, by omega, rfl⟩
      case round =>
        obtain ⟨j, hj, rfl⟩ := hrel
        by_cases hji : j < i
        · obtain ⟨g', cp', he, _, _, hcj⟩ := HC.out j (by omega)
          simp only [Value.slice.injEq, Option.some.injEq, Addr.mk.injEq, and_true, true_and] at he
          obtain ⟨rfl, rfl⟩ := he
          have hne : (ordF l r tl tr m j == x) = false := by simpa using HI.out j hji
          generalize ordF l r tl tr m j = y at hcj hne
          go_wp2_with (fail)
          go_round
          case rel => exact ⟨j + 1, by omega, by go_num⟩
          case measure => simp [intOf]; omega
        · by_cases h2 : 2 ≤ x
          · by_cases h3 : x < (m : Int) - 3
            · obtain ⟨hn1, hn2⟩ := HN.out h2 h3
              obtain ⟨g', cp', he, _, _, hcn⟩ := HC.out (i + 1) hn1
              simp only [Value.slice.injEq, Option.some.injEq, Addr.mk.injEq, and_true, true_and] at he
              obtain ⟨rfl, rfl⟩ := he
              rw [hn2] at hcn
              have d1 : decide ((m : Int) ≤ (i : Int) + 1) = false := by simp; omega
              clear hn2
              go_wp2_with (fail)
              go_round
              case rel => exact ⟨i + 1, by omega, by go_num⟩
              case measure => simp [intOf]; omega
            · go_wp2_with (fail)
              go_round
              case rel => exact ⟨i + 1, by omega, by go_num⟩
              case measure => simp [intOf]; omega
          · go_wp2_with (fail)
            go_round
            case rel => exact ⟨i + 1, by omega, by go_num⟩
            case measure => simp [intOf]; omega
    · go_wp2_with (fail)
      go_ret
      exact ⟨rfl, HB2⟩
end Vb
end Go.Proofs.Ytakpppgikgimnaa
