/- The walk of the law SeekPlace. -/
import Derived.Test.YtgddghplhdmfdaaSpeak5
namespace Go.Proofs.Ytgddghplhdmfdaa
open Go.RowKit
namespace Sk
open Vw

/-- The rising numbers: the one before the i-th. -/
def lastv (zs : List Int) : Nat → Int
  | 0 => -1099511627776
  | n + 1 => lastv zs n + (1 + zs.getD n 0)

def risen (zs : List Int) (n : Nat) : List Int := (List.range n).map fun i => lastv zs (i + 1)

theorem risen_len (zs : List Int) (n : Nat) : (risen zs n).length = n := by simp [risen]
theorem risen_succ (zs : List Int) (n : Nat) : risen zs (n + 1) = risen zs n ++ [lastv zs (n + 1)] := by
  unfold risen; rw [List.range_succ, List.map_append]; rfl
theorem risen_get (zs : List Int) (n i : Nat) (h : i < n) : (risen zs n).getD i 0 = lastv zs (i + 1) := by
  simp [risen, h]

theorem lastv_bd (zs : List Int) (hz : ∀ i, 0 ≤ zs.getD i 0 ∧ zs.getD i 0 ≤ 65535) : ∀ n : Nat, -1099511627776 ≤ lastv zs n ∧ lastv zs n ≤ -1099511627776 + 65536 * n
  | 0 => by unfold lastv; omega
  | n + 1 => by have := lastv_bd zs hz n; have := hz n; unfold lastv; omega

theorem lastv_lt (zs : List Int) (hz : ∀ i, 0 ≤ zs.getD i 0 ∧ zs.getD i 0 ≤ 65535) (i j : Nat) (h : i < j) : lastv zs i < lastv zs j := by
  induction j with
  | zero => omega
  | succ j ih =>
    have h1 : lastv zs (j + 1) = lastv zs j + (1 + zs.getD j 0) := rfl
    have := hz j
    by_cases hj : i < j
    · have := ih hj; omega
    · have : i = j := by omega
      subst this; omega

/-- Where x was found last among the first n. -/
def thereOf (zs : List Int) (x : Int) : Nat → Int
  | 0 => -1
  | n + 1 => if lastv zs (n + 1) = x then n else thereOf zs x n

theorem there_none (zs : List Int) (x : Int) : ∀ n, (∀ i, i < n → lastv zs (i + 1) ≠ x) → thereOf zs x n = -1
  | 0, _ => rfl
  | n + 1, h => by unfold thereOf; rw [if_neg (h n (by omega)), there_none zs x n (fun i hi => h i (by omega))]

theorem there_some (zs : List Int) (x : Int) (hz : ∀ i, 0 ≤ zs.getD i 0 ∧ zs.getD i 0 ≤ 65535) (k : Nat) (hk : lastv zs (k + 1) = x) : ∀ n, k < n → thereOf zs x n = k
  | n + 1, h => by
    unfold thereOf
    by_cases hkn : k = n
    · subst hkn; rw [if_pos hk]
    · have h1 := lastv_lt zs hz (k + 1) (n + 1) (by omega)
      rw [if_neg (by omega), there_some zs x hz k hk n (by omega)]

theorem placeP_at (zs : List Int) (hz : ∀ i, 0 ≤ zs.getD i 0 ∧ zs.getD i 0 ≤ 65535) (n i k : Nat) (hi : i < n) (h : placeP (risen zs n) (lastv zs (i + 1)) k) : k = i := by
  obtain ⟨h1, h2, h3⟩ := h
  rw [risen_len] at h1 h3
  rcases Nat.lt_trichotomy k i with hlt | heq | hgt
  · have h4 := h3 k (Nat.le_refl _) (by omega)
    rw [risen_get zs n k (by omega)] at h4
    have := lastv_lt zs hz (k + 1) (i + 1) (by omega)
    omega
  · exact heq
  · have h4 := h2 i hgt
    rw [risen_get zs n i hi] at h4
    omega

theorem risen_mono (zs : List Int) (hz : ∀ i, 0 ≤ zs.getD i 0 ∧ zs.getD i 0 ≤ 65535) (n : Nat) : ∀ i j, i ≤ j → j < (risen zs n).length → (risen zs n).getD i 0 ≤ (risen zs n).getD j 0 := by
  intro i j hij hj
  rw [risen_len] at hj
  rw [risen_get zs n i (by omega), risen_get zs n j hj]
  by_cases h : i = j
  · subst h; omega
  · have := lastv_lt zs hz (i + 1) (j + 1) (by omega); omega

theorem intsAt_owned {w : World} {base : Nat} {v : Value} {n : Nat} {l : List Int} (h : w.ownsRow base 3 1 v n (l.map (Value.int .i64))) (hl : l.length = n) : ∃ a cap, v = .slice a n cap ∧ IntsAt w a n cap l := by
  rcases Row.owned_parts h with ⟨rfl, rfl, _⟩ | ⟨g, cp, rfl, hg, hgl, hgc, hgm, hcl, hfr⟩
  · exact ⟨none, 0, rfl, hl, Nat.le_refl _, Nat.zero_le _, fun i hi => by omega⟩
  · exact ⟨_, _, rfl, hl, hgc, hgm, fun i hi => ⟨g, 0, rfl, by rw [Nat.zero_add]; exact hcl i _ (by simp [hl, hi])⟩⟩

theorem infoI : (Try.prog.info? 3).map (fun i => (i.zero, i.size, i.bytes)) = some (some (.int .i64 0), 1, 8) := by kernel_rfl

set_option maxHeartbeats 4000000 in
theorem seekPlace_walk (a : Option Addr) (len cap : Nat) (z : List Int) (x : Int) (w : World) (hz : Bas.IsRow .u16 w a len cap z) (hx : (Lit.int .i64 x).wf = true) :
    Calls Try.prog 11 #[.slice a len cap, .int .i64 x] w fun e w' => e = .returned (.bool true) ∧ Below w.heap.size w w' := by
  have hlm : len ≤ 9223372036854775807 := by
    rcases hz with ⟨rfl, rfl, rfl, rfl⟩ | ⟨x, rfl, hl, hm, _⟩
    · omega
    · unfold maxLen at hm; omega
  by_cases hbig : 200 < len
  · clear hz
    go_enter Try.func11, Try.ntmps11
    go_wp2_with (fail)
    refine (speaks_any _).mono ?_
    rintro e w1 ⟨rfl, hb1⟩
    go_wp2_with (fail)
    go_ret
    exact ⟨rfl, hb1⟩
  · have hcells : ∀ i, i < len → ∃ b o, a = some ⟨b, o, none⟩ ∧ w.cell? ⟨b, o + i, none⟩ = some (.int .u16 (z.getD i 0)) := by
      rcases hz with ⟨rfl, rfl, rfl, rfl⟩ | ⟨x, rfl, hl, hm, hzl, hcell, hwz⟩
      · omega
      · intro i hi
        obtain ⟨h1, h2⟩ := Bas.spot_add ⟨_, hcell 0 (by omega)⟩ (hcell i (by omega))
        exact ⟨_, _, congrArg some h1, h2⟩
    have hzb : ∀ i, 0 ≤ z.getD i 0 ∧ z.getD i 0 ≤ 65535 := by
      intro i
      rw [List.getD_eq_getElem?_getD]
      cases hi : z[i]? with
      | none => simp
      | some y =>
        rcases hz with ⟨_, _, _, rfl⟩ | ⟨_, _, _, _, _, _, hwz⟩
        · simp at hi
        · simpa using Bas.wf_u16 (hwz y (List.mem_of_getElem? hi))
    have hlb := lastv_bd z hzb
    have hll := lastv_lt z hzb
    have HC := Bas.hid hcells
    have HZB := Bas.hid hzb
    have HLB := Bas.hid hlb
    clear hcells hzb hlb hz hll
    go_enter Try.func11, Try.ntmps11
    go_wp2_with (fail)
    refine (speaks_any _).mono ?_
    rintro e w1 ⟨rfl, hb1⟩
    have HB1 := Bas.hid hb1
    have hs1 := hb1.size
    clear hb1
    go_wp2_with (fail)
    go_loopw [5, 6, 23] (fun v lv c wr => ∃ i : Nat, i ≤ len ∧ c = .int .i64 i ∧ lv = .int .i64 (lastv z i) ∧ wr.ownsRow w1.heap.size 3 1 v i ((risen z i).map (Value.int .i64)) ∧ Below w.heap.size w wr ∧ w1.heap.size ≤ wr.heap.size) (fun _ _ c _ => len - (intOf c).toNat)
    case atStart => exact ⟨0, Nat.zero_le _, rfl, rfl, Row.owned_nil _ _ _ _, HB1.out, Nat.le_refl _⟩
    case round =>
      obtain ⟨i, hi, rfl, rfl, hown, hb, hsz⟩ := hrel
      by_cases hil : i < len
      · obtain ⟨b, o, rfl, hcell⟩ := HC.out i hil
        have hc := (hb.cell (p := ⟨b, o + i, none⟩) (World.block_lt_of_cell? _ _ hcell)).trans hcell
        have zb := HZB.out i
        have lb := HLB.out i
        have hls : Hid (lastv z (i + 1) = lastv z i + (1 + z.getD i 0)) := rfl
        have hrs := Bas.hid (risen_succ z i)
        generalize z.getD i 0 = y at hc zb hls
        generalize lastv z i = q at lb hls ⊢
        obtain ⟨zb1, zb2⟩ := zb
        obtain ⟨lb1, lb2⟩ := lb
        have HO := Bas.hid hown
        have HBB := Bas.hid hb
        clear hcell hown hb
        go_wp2_with (at_builtin; refine Row.append_any rfl _ _ 70 3 rfl (.int .i64 0) 1 8 Try.underlying70 infoI rfl (by decide) w1.heap.size _ i _ rfl (HO.out.alloc _) (.slice (some ⟨wr.heap.size, 0, none⟩) 1 1) 1 [.int .i64 (q + (1 + y))] rfl (Row.leads_one _ _ _) rfl (by simp; rfl) (by unfold maxLen; omega) (by omega) (by simp; omega) ?_)
        intro v' w2 hown2 hg2 _
        have hown3 : w2.ownsRow w1.heap.size 3 1 v' (i + 1) ((risen z (i + 1)).map (Value.int .i64)) := by
          rw [hrs.out, List.map_append, hls.out]
          exact hown2
        have hb2 : Below w.heap.size w w2 := (HBB.out.alloc HBB.out.size _).grown hg2 (by have := HBB.out.size; simp; omega) (fun k hk => by have := (Row.own_block HO.out hk).1; omega)
        have hs2 : w1.heap.size ≤ w2.heap.size := by have := hg2.size; simp at this; omega
        have HO3 := Bas.hid hown3
        have HB2 := Bas.hid hb2
        clear hown2 hg2 hown3 hb2
        go_wp2_with (fail)
        go_roundw
        case rel => exact ⟨i + 1, by omega, by go_num, by rw [hls.out], HO3.out, HB2.out, hs2⟩
        case measure => simp [intOf]; omega
      · have hil2 : i = len := by omega
        subst hil2
        obtain ⟨a', cap', rfl, hint⟩ := intsAt_owned hown (risen_len z i)
        have hmono := risen_mono z HZB.out i
        have HINT := Bas.hid hint
        have HMONO := Bas.hid hmono
        have HBr := Bas.hid hb
        clear hown hint hmono hb
        go_wp2_with (fail)
        obtain ⟨wo, hwo⟩ : ∃ wo : World, wo = wr := ⟨_, rfl⟩
        rw [← hwo] at HINT HBr hsz
        rw [← hwo]
        clear hwo
        go_loopw [9, 39] (fun th c wr => ∃ j : Nat, j ≤ i ∧ c = .int .i64 j ∧ th = .int .i64 (thereOf z x j) ∧ Below wo.heap.size wo wr) (fun _ c _ => i - (intOf c).toNat)
        case atStart => exact ⟨0, Nat.zero_le _, rfl, rfl, Below.refl _ _⟩
        case round =>
          obtain ⟨j, hj, rfl, rfl, hbr⟩ := hrel
          have hint2 := HINT.out.below hbr
          by_cases hji : j < i
          · obtain ⟨b, o, rfl, hc⟩ := hint2.hcell j hji
            rw [risen_get z i j hji] at hc
            have PL := place_any (some ⟨b, o, none⟩) i cap' (risen z i) (lastv z (j + 1)) wr hint2 (by omega) HMONO.out
            have hu := fun k hk => placeP_at z HZB.out i j k hji hk
            have hget := risen_get z i j hji
            have hlen := risen_len z i
            have hth : Hid (thereOf z x (j + 1) = if lastv z (j + 1) = x then (j : Int) else thereOf z x j) := rfl
            have PL2 : Calls Try.prog 31 #[.slice (some ⟨b, o, none⟩) i cap', .int .i64 (lastv z (j + 1))] wr (fun e w' => e = .returned (.tuple #[.int .i64 j, .bool true]) ∧ Below wr.heap.size wr w') := by
              refine PL.mono ?_
              rintro e w' ⟨hb, k, hp, hk⟩
              have hkj := hu k hp
              subst hkj
              rcases hk with ⟨_, _, rfl⟩ | ⟨h, _⟩
              · exact ⟨rfl, hb⟩
              · exact absurd hget (h (by omega))
            have HPL := Bas.hid PL2
            have HBR := Bas.hid hbr
            clear PL PL2 hu hget hlen hint2 hbr
            have q1 : ((j : Int) == (j : Int)) = true := by simp
            by_cases hxx : lastv z (j + 1) = x
            · have q2 : (lastv z (j + 1) == x) = true := by simpa using hxx
              rw [if_pos hxx] at hth
              have HXX := Bas.hid hxx
              clear hxx
              generalize lastv z (j + 1) = y at *
              go_wp2_with (fail)
              refine HPL.out.mono ?_
              rintro e w3 ⟨rfl, hb3⟩
              have HB3 := Bas.hid (Bas.on HBR.out hb3)
              clear hb3
              go_wp2_with (fail)
              go_roundw
              case rel => exact ⟨j + 1, by omega, by go_num, by rw [hth.out], HB3.out⟩
              case measure => simp [intOf]; omega
            · have q2 : (lastv z (j + 1) == x) = false := by simpa using hxx
              rw [if_neg hxx] at hth
              have HXX := Bas.hid hxx
              clear hxx
              generalize lastv z (j + 1) = y at *
              go_wp2_with (fail)
              refine HPL.out.mono ?_
              rintro e w3 ⟨rfl, hb3⟩
              have HB3 := Bas.hid (Bas.on HBR.out hb3)
              clear hb3
              go_wp2_with (fail)
              go_roundw
              case rel => exact ⟨j + 1, by omega, by go_num, by rw [hth.out], HB3.out⟩
              case measure => simp [intOf]; omega
          · have hji2 : j = i := by omega
            subst hji2
            go_wp2_with (fail)
            refine (place_any a' j cap' (risen z j) x wr hint2 (by omega) HMONO.out).mono ?_
            rintro e w3 ⟨hb3, k, ⟨hp1, hp2, hp3⟩, hk⟩
            have HB3 : Below w.heap.size w w3 := HBr.out.trans ((Bas.on hbr hb3).mono HBr.out.size)
            rw [risen_len] at hp1 hp3 hk
            rcases hk with ⟨hk1, hk2, rfl⟩ | ⟨hk1, rfl⟩
            · rw [risen_get z j k hk1] at hk2
              have hth := there_some z x HZB.out k hk2 j hk1
              rw [hth]
              clear hp2 hp3 hk2 hth hint2
              go_wp2_with (fail)
              go_ret
              exact ⟨by simp, HB3⟩
            · have hth := there_none z x j (fun i hi => by
                intro he
                by_cases hik : i < k
                · have := hp2 i hik; rw [risen_get z j i hi] at this; omega
                · have h3 := hp3 k (Nat.le_refl _) (by omega)
                  have h4 := hk1 (by omega)
                  rw [risen_get z j k (by omega)] at h3 h4
                  by_cases hik2 : i = k
                  · subst hik2; exact h4 he
                  · have := lastv_lt z HZB.out (k + 1) (i + 1) (by omega); omega)
              rw [hth]
              clear hp2 hp3 hk1 hth hint2
              go_wp2_with (fail)
              go_ret
              exact ⟨by simp, HB3⟩
end Sk
end Go.Proofs.Ytgddghplhdmfdaa
