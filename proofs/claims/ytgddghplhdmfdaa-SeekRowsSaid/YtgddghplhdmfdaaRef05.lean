/- The reference of layer 5: Rows. -/
import Derived.Test.YtgddghplhdmfdaaRef01B
import Derived.Test.YtgddghplhdmfdaaTake
namespace Go.Proofs.Ytgddghplhdmfdaa
open Go.RowKit
namespace Sk
open Vw Ref01

/-- Where the rows stand. -/
def offs (p s m : Nat) : List Int := (List.range m).map fun i => ((p + 10 + s * i : Nat) : Int)
theorem offs_len (p s m : Nat) : (offs p s m).length = m := by simp [offs]
theorem offs_succ (p s m : Nat) : offs p s (m + 1) = offs p s m ++ [((p + 10 + s * m : Nat) : Int)] := by
  unfold offs; rw [List.range_succ, List.map_append]; rfl
theorem offs_get (p s m i : Nat) (h : i < m) : (offs p s m).getD i 0 = ((p + 10 + s * i : Nat) : Int) := by simp [offs, h]

theorem be_row (bs : List Int) (q s i : Nat) (h : i + 2 ≤ s) : be ((bs.drop q).take s) i 2 = be bs (q + i) 2 := by
  unfold be
  rw [List.drop_take, List.take_take, List.drop_drop, Nat.min_eq_left (by omega)]

def RefRowsPost (w : World) (L : List Int) (m s : Nat) (e : Ending) (w' : World) : Prop :=
  ∃ ad cap, e = .returned (.tuple #[.slice ad m cap, .int .i64 s, .bool true]) ∧ IntsAt w' ad m cap L ∧ Below w.heap.size w w'

set_option maxHeartbeats 2000000 in
theorem refRows_no (a : Option Addr) (len cap : Nat) (bs : List Int) (at' need keys : Int) (w : World) (hls : len ≤ 140737488355328) (hv : VB w a bs) (hbl : bs.length = len)
    (h : ¬ takeB len bs at' need) :
    Calls Try.prog 30 #[.slice a len cap, .int .i64 at', .int .i64 need, .int .i64 keys] w fun e w' => e = .returned (.tuple #[.slice none 0 0, .int .i64 0, .bool false]) ∧ w = w' := by
  have U := fun (x : Int) => u_any a len cap bs x 2 2 rfl w hls hv hbl (by omega)
  have HU := Bas.hid U
  have b1 := uval_bd bs hv.byte at' 2 (by omega)
  have b2 := fun x => uval_bd bs hv.byte x 2 (by omega)
  have HB2 := Bas.hid b2
  by_cases f1 : 0 ≤ at' ∧ at' + 10 ≤ len
  · obtain ⟨f1, f2⟩ := f1
    obtain ⟨p, rfl⟩ := Int.eq_ofNat_of_zero_le f1
    have hs0 : uval bs (p : Int) 2 = be bs p 2 := uval_nat bs p 2 (by omega)
    have hn0 : uval bs ((p : Int) + 2) 2 = be bs (p + 2) 2 := uval_nat bs (p + 2) 2 (by omega)
    have bs1 := be2_bd bs hv.byte p (by omega)
    have bn1 := be2_bd bs hv.byte (p + 2) (by omega)
    have h' : ¬ (need ≤ be bs p 2 ∧ rowsB len ((p : Int) + 10) (be bs (p + 2) 2) (be bs p 2)) := fun h' => h ⟨f1, f2, by simpa using h'.1, by simpa using h'.2⟩
    have U1 := HU.out (p : Int)
    have U2 := HU.out ((p : Int) + 2)
    rw [hs0] at U1
    rw [hn0] at U2
    have HU1 := Bas.hid U1
    have HU2 := Bas.hid U2
    generalize be bs p 2 = s at *
    generalize be bs (p + 2) 2 = n at *
    obtain ⟨s1, s2⟩ := bs1
    obtain ⟨n1, n2⟩ := bn1
    clear U U1 U2 HU b1 b2 HB2 hs0 hn0 h hv
    by_cases f3 : need ≤ s
    · have R := rows_no len ((p : Int) + 10) n s w hls (by omega) (by omega) (fun hr => h' ⟨f3, hr⟩)
      have HR := Bas.hid R
      have d3 : decide (s < need) = false := by simp; omega
      clear R h'
      go_enter Try.func30, Try.ntmps30
      go_wp2_with (fail)
      refine HU1.out.mono ?_
      rintro e w' ⟨rfl, rfl⟩
      go_wp2_with (fail)
      refine HU2.out.mono ?_
      rintro e w' ⟨rfl, rfl⟩
      go_wp2_with (fail)
      refine (in_yes _ _ _ _ (by omega) (by omega) (by omega) (by omega)).mono ?_
      rintro e w' ⟨rfl, rfl⟩
      go_wp2_with (fail)
      refine HR.out.mono ?_
      rintro e w' ⟨rfl, rfl⟩
      go_wp2_with (fail)
      exact bodyPost_ret (v := .tuple #[.slice none 0 0, .int .i64 0, .bool false]) (by simp [results, Try.results30, go_sem]) rfl ⟨rfl, rfl⟩
    · have d3 : decide (s < need) = true := by simp; omega
      clear h'
      go_enter Try.func30, Try.ntmps30
      go_wp2_with (fail)
      refine HU1.out.mono ?_
      rintro e w' ⟨rfl, rfl⟩
      go_wp2_with (fail)
      refine HU2.out.mono ?_
      rintro e w' ⟨rfl, rfl⟩
      go_wp2_with (fail)
      refine (in_yes _ _ _ _ (by omega) (by omega) (by omega) (by omega)).mono ?_
      rintro e w' ⟨rfl, rfl⟩
      go_wp2_with (fail)
      exact bodyPost_ret (v := .tuple #[.slice none 0 0, .int .i64 0, .bool false]) (by simp [results, Try.results30, go_sem]) rfl ⟨rfl, rfl⟩
  · clear h b1 hv
    go_enter Try.func30, Try.ntmps30
    go_wp2_with (fail)
    refine (HU.out _).mono ?_
    rintro e w' ⟨rfl, rfl⟩
    go_wp2_with (fail)
    all_goals
      refine (HU.out _).mono ?_
      rintro e w' ⟨rfl, rfl⟩
      go_wp2_with (fail)
      refine (in_no _ _ _ _ (by omega) (by omega) (by omega)).mono ?_
      rintro e w' ⟨rfl, rfl⟩
      go_wp2_with (fail)
      exact bodyPost_ret (v := .tuple #[.slice none 0 0, .int .i64 0, .bool false]) (by simp [results, Try.results30, go_sem]) rfl ⟨rfl, rfl⟩

theorem infoI5 : (Try.prog.info? 3).map (fun i => (i.zero, i.size, i.bytes)) = some (some (.int .i64 0), 1, 8) := by kernel_rfl

theorem intsAt_own {w : World} {base : Nat} {v : Value} {n : Nat} {l : List Int} (h : w.ownsRow base 3 1 v n (l.map (Value.int .i64))) (hl : l.length = n) : ∃ a cap, v = .slice a n cap ∧ IntsAt w a n cap l := by
  rcases Row.owned_parts h with ⟨rfl, rfl, _⟩ | ⟨g, cp, rfl, hg, hgl, hgc, hgm, hcl, hfr⟩
  · exact ⟨none, 0, rfl, hl, Nat.le_refl _, Nat.zero_le _, fun i hi => by omega⟩
  · exact ⟨_, _, rfl, hl, hgc, hgm, fun i hi => ⟨g, 0, rfl, by rw [Nat.zero_add]; exact hcl i _ (by simp [hl, hi])⟩⟩

set_option maxHeartbeats 4000000 in
theorem refRows_yes (a : Option Addr) (len cap : Nat) (bs : List Int) (p s n keys : Nat) (need : Int) (w : World) (hls : len ≤ 140737488355) (hv : VB w a bs) (hbl : bs.length = len)
    (h10 : p + 10 ≤ len) (hs : be bs p 2 = s) (hn : be bs (p + 2) 2 = n) (hneed : need ≤ s) (hs2 : 2 ≤ s) (hk : 2 * keys ≤ s) (hrow : rowsB len ((p : Int) + 10) n s) :
    Calls Try.prog 30 #[.slice a len cap, .int .i64 p, .int .i64 need, .int .i64 keys] w (RefRowsPost w (offs p s (rowCount bs p s n keys)) (rowCount bs p s n keys) s) := by
  have U := fun (x : Nat) (w' : World) (hb : Below w.heap.size w w') (hx : x + 2 ≤ len) => u_any a len cap bs (x : Int) 2 2 rfl w' (by omega) (hv.below hb) hbl (by omega)
  have hns : p + 10 + n * s ≤ len := by
    have := hrow.2.2.2.2
    rw [← Int.natCast_mul] at this
    omega
  have hnl : n ≤ len := by
    have : n * 2 ≤ n * s := Nat.mul_le_mul_left n hs2
    omega
  have U1 := U p w (Below.refl _ _) (by omega)
  have U2 := U (p + 2) w (Below.refl _ _) (by omega)
  rw [uval_nat bs p 2 (by omega), hs] at U1
  rw [uval_nat bs (p + 2) 2 (by omega), hn, show ((p + 2 : Nat) : Int) = (p : Int) + 2 by omega] at U2
  have hs65 : s ≤ 65535 := by have := be2_bd bs hv.byte p (by omega); omega
  have R := rows_yes len ((p : Int) + 10) n s w (by omega) (by omega) (by omega) hrow
  have HU := Bas.hid U
  have HU1 := Bas.hid U1
  have HU2 := Bas.hid U2
  have HR := Bas.hid R
  have HNS := Bas.hid hns
  have HCNT : Hid (rowCount bs p s n keys = if 0 < n ∧ noneB ((bs.drop (p + 10 + s * (n - 1))).take s) keys = true then n - 1 else n) := rfl
  have d3 : decide ((s : Int) < need) = false := by simp; omega
  have hsl : s ≤ len ∨ n = 0 := by
    by_cases h : n = 0
    · exact .inr h
    · have : 1 * s ≤ n * s := Nat.mul_le_mul_right s (by omega)
      exact .inl (by omega)
  clear U U1 U2 R hns hrow hs hn
  go_enter Try.func30, Try.ntmps30
  go_wp2_with (fail)
  refine HU1.out.mono ?_
  rintro e w' ⟨rfl, rfl⟩
  go_wp2_with (fail)
  refine HU2.out.mono ?_
  rintro e w' ⟨rfl, rfl⟩
  go_wp2_with (fail)
  refine (in_yes _ _ _ _ (by omega) (by omega) (by omega) (by omega)).mono ?_
  rintro e w' ⟨rfl, rfl⟩
  go_wp2_with (fail)
  refine HR.out.mono ?_
  rintro e w' ⟨rfl, rfl⟩
  go_wp2_with (fail)
  clear HR HU1 HU2
  generalize hW : w.alloc (.cells #[] 3) = W
  have hWs : W.heap.size = w.heap.size + 1 := by rw [← hW]; simp
  have HB := Bas.hid (show Below w.heap.size w W by rw [← hW]; exact (Below.refl _ _).alloc (Nat.le_refl _) _)
  have hw0 : W.ownsRow w.heap.size 3 1 (.slice (some ⟨w.heap.size, 0, none⟩) 0 0) 0 ((offs p s 0).map (Value.int .i64)) := by
    rw [← hW]
    exact ⟨rfl, .inr ⟨w.heap.size, 0, #[], rfl, by omega, Bas.heap_new _ _, by simp, by simp, by simp, by simp [offs]⟩⟩
  clear hW
  go_loopw [13, 14] (fun v c wr => ∃ i : Nat, i ≤ n ∧ c = .int .i64 i ∧ wr.ownsRow w.heap.size 3 1 v i ((offs p s i).map (Value.int .i64)) ∧ Below w.heap.size w wr) (fun _ c _ => n - (intOf c).toNat)
  case atStart => exact ⟨0, Nat.zero_le _, rfl, hw0, HB.out⟩
  case round =>
    obtain ⟨i, hi, rfl, hown, hb⟩ := hrel
    by_cases hin : i < n
    · have hsi : i * s ≤ n * s := Nat.mul_le_mul_right s (by omega)
      have em : (i : Int) * (s : Int) = ((i * s : Nat) : Int) := by rw [Int.natCast_mul]
      have hm0 : 0 ≤ (i : Int) * (s : Int) := by omega
      have hm1 : (i : Int) * (s : Int) ≤ 140737488355 := by have := HNS.out; omega
      have HE : Hid ((p : Int) + 10 + (i : Int) * (s : Int) = ((p + 10 + s * i : Nat) : Int)) := by
        unfold Hid; rw [em, Nat.mul_comm s i]; omega
      have hos := Bas.hid (offs_succ p s i)
      have HO := Bas.hid hown
      have HBB := Bas.hid hb
      clear em hsi hown hb hw0
      go_wp2_with (at_builtin; refine Row.append_any rfl _ _ 70 3 rfl (.int .i64 0) 1 8 Try.underlying70 infoI5 rfl (by decide) w.heap.size _ i _ rfl (HO.out.alloc _) (.slice (some ⟨wr.heap.size, 0, none⟩) 1 1) 1 [.int .i64 ((p : Int) + 10 + (i : Int) * (s : Int))] rfl (Row.leads_one _ _ _) rfl (by simp; rfl) (by unfold maxLen; omega) (by omega) (by have := HBB.out.size; simp; omega) ?_)
      intro v' w2 hown2 hg2 _
      have hown3 : w2.ownsRow w.heap.size 3 1 v' (i + 1) ((offs p s (i + 1)).map (Value.int .i64)) := by
        rw [hos.out, List.map_append, ← HE.out]
        exact hown2
      have hb2 : Below w.heap.size w w2 := (HBB.out.alloc HBB.out.size _).grown hg2 (by have := HBB.out.size; simp; omega) (fun k hk => by have := (Row.own_block HO.out hk).1; omega)
      have HO3 := Bas.hid hown3
      have HB2 := Bas.hid hb2
      clear hown2 hg2 hown3 hb2
      go_wp2_with (fail)
      go_roundw
      case rel => exact ⟨i + 1, by omega, by go_num, HO3.out, HB2.out⟩
      case measure => simp [intOf]; omega
    · have hin2 : i = n := by omega
      subst hin2
      obtain ⟨ad, cp, rfl, hint⟩ := intsAt_own hown (offs_len p s i)
      have HINT := Bas.hid hint
      have HBr := Bas.hid hb
      have hcm := hint.hcap
      have hcl := hint.hle
      clear hown hb hw0
      by_cases hi0 : 0 < i
      · generalize hrw : (bs.drop (p + 10 + s * (i - 1))).take s = row at HCNT
        obtain ⟨b, o, rfl, hc⟩ := hint.hcell (i - 1) (by omega)
        rw [offs_get p s i (i - 1) (by omega)] at hc
        have e1 : (i : Int) - 1 = ((i - 1 : Nat) : Int) := by omega
        have hq : p + 10 + s * (i - 1) + s ≤ len := by
          have := HNS.out
          have h2 : s * (i - 1) + s = i * s := by
            obtain ⟨m, rfl⟩ : ∃ m, i = m + 1 := ⟨i - 1, by omega⟩
            rw [Nat.add_sub_cancel, Nat.add_mul, Nat.one_mul, Nat.mul_comm]
          omega
        generalize hqq : p + 10 + s * (i - 1) = q at hc hq hrw
        have HRW := Bas.hid hrw
        clear hint hrw hqq
        go_wp2_with (fail)
        go_loopw [15, 16] (fun v c wl => ∃ j : Nat, j ≤ keys ∧ c = .int .i64 j ∧ v = .bool (noneB row j) ∧ wr = wl) (fun _ c _ => keys - (intOf c).toNat)
        case atStart => exact ⟨0, Nat.zero_le _, rfl, rfl, rfl⟩
        case round =>
          obtain ⟨j, hj, rfl, rfl, rfl⟩ := hrel
          have hsucc : Hid (noneB row (j + 1) = (noneB row j && be row (2 * j) 2 == 65535)) := rfl
          by_cases hjk : j < keys
          · cases hnb : noneB row j with
            | false =>
              rw [hnb] at hsucc
              have HNB := Bas.hid hnb
              clear hnb
              go_wp2_with (fail)
              go_roundw
              case rel => exact ⟨j + 1, by omega, by go_num, by rw [hsucc.out]; rfl, trivial⟩
              case measure => simp [intOf]; omega
            | true =>
              rw [hnb] at hsucc
              have U3 := HU.out (q + 2 * j) wr HBr.out (by omega)
              rw [uval_nat bs (q + 2 * j) 2 (by omega), ← be_row bs q s (2 * j) (by omega), HRW.out, show ((q + 2 * j : Nat) : Int) = (q : Int) + 2 * (j : Int) by omega] at U3
              have HU3 := Bas.hid U3
              have HNB := Bas.hid hnb
              clear hnb U3
              generalize be row (2 * j) 2 = y at *
              go_wp2_with (fail)
              refine HU3.out.mono ?_
              rintro e w' ⟨rfl, rfl⟩
              go_wp2_with (fail)
              go_roundw
              case rel => exact ⟨j + 1, by omega, by go_num, by rw [hsucc.out]; simp, trivial⟩
              case measure => simp [intOf]; omega
          · have hjk2 : j = keys := by omega
            subst hjk2
            cases hnb : noneB row j with
            | false =>
              rw [if_neg (by rw [hnb]; simp)] at HCNT
              clear hnb
              go_wp2_with (fail)
              exact bodyPost_ret (v := .tuple #[.slice (some ⟨b, o, none⟩) i cp, .int .i64 s, .bool true]) (by simp [results, Try.results30, go_sem]) rfl ⟨_, _, by rw [HCNT.out], by rw [HCNT.out]; exact HINT.out, HBr.out⟩
            | true =>
              rw [if_pos ⟨hi0, hnb⟩] at HCNT
              have hint2 : IntsAt wr (some ⟨b, o, none⟩) (i - 1) cp (offs p s (i - 1)) := by
                refine ⟨offs_len _ _ _, by omega, hcm, fun k hk => ?_⟩
                obtain ⟨b', o', h1, h2⟩ := HINT.out.hcell k (by omega)
                refine ⟨b', o', h1, ?_⟩
                rw [offs_get p s _ k (by omega)] at h2 ⊢
                exact h2
              have HI2 := Bas.hid hint2
              have HE1 := Bas.hid e1
              clear hnb hint2 e1
              go_wp2_with (fail)
              exact bodyPost_ret (v := .tuple #[.slice (some ⟨b, o, none⟩) (i - 1) cp, .int .i64 s, .bool true]) (by simp [results, Try.results30, go_sem, HE1.out]) rfl ⟨_, _, by rw [HCNT.out], by rw [HCNT.out]; exact HI2.out, HBr.out⟩
      · have hi00 : i = 0 := by omega
        subst hi00
        rw [if_neg (by omega)] at HCNT
        clear hint
        go_wp2_with (fail)
        exact bodyPost_ret (v := .tuple #[.slice ad 0 cp, .int .i64 s, .bool true]) (by simp [results, Try.results30, go_sem]) rfl ⟨_, _, by rw [HCNT.out], by rw [HCNT.out]; exact HINT.out, HBr.out⟩
end Sk
end Go.Proofs.Ytgddghplhdmfdaa
