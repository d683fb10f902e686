/- The walk of the law FeatDefault. -/
import Derived.Test.YtgddghplhdmfdaaFeatSpeak
namespace Go.Proofs.Ytgddghplhdmfdaa
open Go.RowKit
namespace Ft
open Vw Ch

theorem dflt_ok (bs rb : List Int) (f : FeatD) (h : parseF bs rb = some f) : (f.excl = false → f.dflt = -1) ∧ (f.dflt = -1 ∨ f.dflt ∈ f.sets) := by
  unfold parseF at h
  split at h
  · cases h
    simp only
    unfold dfltOf
    refine ⟨fun he => ?_, ?_⟩
    · rw [if_neg (by simpa using he)]
    · split
      · split
        · rename_i hlt
          right
          rw [List.getD_eq_getElem?_getD, List.getElem?_eq_getElem hlt]
          exact List.getElem_mem hlt
        · exact .inl rfl
      · exact .inl rfl
  · cases h

theorem feats_mem (bs : List Int) : ∀ (k i : Nat) (prev : Option Int) (l : List FeatD), featsAt bs k i prev = some l → ∀ f ∈ l, (f.excl = false → f.dflt = -1) ∧ (f.dflt = -1 ∨ f.dflt ∈ f.sets)
  | 0, i, prev, l, h, f, hf => by
    have : l = [] := by simpa [featsAt] using h.symm
    subst this; cases hf
  | k + 1, i, prev, l, h, f, hf => by
    rw [featsAt] at h
    obtain ⟨x, hx, h2⟩ := Option.bind_eq_some_iff.1 h
    split at h2
    · obtain ⟨l', hl', rfl⟩ := Option.map_eq_some_iff.1 h2
      rcases List.mem_cons.1 hf with rfl | hf
      · exact dflt_ok _ _ _ hx
      · exact feats_mem bs k _ _ l' hl' f hf
    · cases h2

theorem all_memF {bs : List Int} {fs : List FeatD} (h : parseFs bs = some fs) : ∀ f ∈ fs, (f.excl = false → f.dflt = -1) ∧ (f.dflt = -1 ∨ f.dflt ∈ f.sets) := by
  unfold parseFs at h
  split at h
  · exact feats_mem bs _ _ _ fs h
  · cases h

set_option maxRecDepth 100000 in
set_option maxHeartbeats 8000000 in
theorem featDefault_walk (a : Option Addr) (len cap : Nat) (z : List Int) (w : World) (hz : Bas.IsRow .u8 w a len cap z) :
    Calls Try.prog 8 #[.slice a len cap] w fun e w' => e = .returned (.bool true) ∧ Below w.heap.size w w' := by
  by_cases hbig : 2000 < len
  · have hlm : len ≤ 9223372036854775807 := by
      rcases hz with ⟨rfl, rfl, rfl, rfl⟩ | ⟨x, rfl, hl, hm, _⟩
      · omega
      · unfold maxLen at hm; omega
    clear hz
    go_enter Try.func8, Try.ntmps8
    go_wp2_with (fail)
    refine (speaks_any _).mono ?_
    rintro e w1 ⟨rfl, hb1⟩
    go_wp2_with (fail)
    go_ret
    exact ⟨rfl, hb1⟩
  · obtain ⟨hv, hbl, hlc, hcm, hnil⟩ := VB_of_row hz (by omega)
    clear hz
    generalize z.take len = bs at hv hbl
    have HV := Bas.hid hv
    clear hv hnil
    go_enter Try.func8, Try.ntmps8
    go_wp2_with (fail)
    refine (speaks_any _).mono ?_
    rintro e w1 ⟨rfl, hb1⟩
    have HB1 := Bas.hid hb1
    clear hb1
    go_wp2_with (fail)
    refine (fRead_any a len cap bs w1 hlc hcm (HV.out.below HB1.out) hbl (by omega)).mono ?_
    rintro e w2 ⟨hb2, h⟩
    have HB2 := Bas.hid (Bas.on HB1.out hb2)
    clear hb2 HB1
    cases hp : parseFs bs with
    | none =>
      rw [hp] at h
      subst h
      clear hp
      go_wp2_with (fail)
      go_loopw [6, 7, 9, 22] (fun _ _ _ vi wr => vi = .int .i64 0 ∧ Below w2.heap.size w2 wr) (fun _ _ _ _ _ => 0)
      case atStart => exact ⟨rfl, Below.refl _ _⟩
      case round =>
        obtain ⟨rfl, hb⟩ := hrel
        have HE := Bas.hid (HB2.out.trans (hb.mono HB2.out.size))
        clear hb
        go_wp2_with (fail)
        go_ret
        exact ⟨rfl, HE.out⟩
    | some fs =>
      rw [hp] at h
      obtain ⟨v, ss, rfl, hrow⟩ := h
      obtain ⟨ad, cp, rfl⟩ := own_slice hrow.own
      have HR := Bas.hid hrow
      have HM := Bas.hid (all_memF hp)
      obtain ⟨n, hn⟩ : ∃ n, n = fs.length := ⟨_, rfl⟩
      have HN := Bas.hid hn
      rw [← hn]
      clear hrow hp hn
      go_wp2_with (fail)
      go_loopw [6, 7, 9, 22] (fun _ _ _ vi wr => ∃ i : Nat, i ≤ n ∧ vi = .int .i64 i ∧ Below w2.heap.size w2 wr) (fun _ _ _ vi _ => n - (intOf vi).toNat)
      case atStart => exact ⟨0, Nat.zero_le _, rfl, Below.refl _ _⟩
      case round =>
        obtain ⟨i, hi, rfl, hb⟩ := hrel
        have HB := Bas.hid hb
        by_cases hin : i < n
        · have hlen := HN.out
          obtain ⟨f, hf⟩ : ∃ f, fs[i]? = some f := ⟨_, List.getElem?_eq_getElem (by omega)⟩
          obtain ⟨s, hs⟩ : ∃ s, ss[i]? = some s := ⟨_, List.getElem?_eq_getElem (by rw [HR.out.len]; omega)⟩
          have hz : (fs.zip ss)[i]? = some (f, s) := List.getElem?_zip_eq_some.2 ⟨hf, hs⟩
          obtain ⟨G, C, hvG, -, hG, hn63, hcl⟩ := Row.elem_cells fC_len HR.out.own hz (by omega) (by rw [List.length_zip, HR.out.len, Nat.min_self])
          have hso := HR.out.sets i f s hf hs
          obtain ⟨sa, sc, rfl⟩ := own_slice hso
          have HSO := Bas.hid hso
          obtain ⟨hm1, hm2⟩ := HM.out f (List.mem_of_getElem? hf)
          rw [← hlen] at hvG hn63
          cases hvG
          have q0 := (hb.cell (p := ⟨G, i * 4, none⟩) hG).trans (hcl 0 _ rfl)
          have q1 := (hb.cell (p := ⟨G, i * 4 + 1, none⟩) hG).trans (hcl 1 _ rfl)
          have q2 := (hb.cell (p := ⟨G, i * 4 + 2, none⟩) hG).trans (hcl 2 _ rfl)
          have q3 := (hb.cell (p := ⟨G, i * 4 + 3, none⟩) hG).trans (hcl 3 _ rfl)
          obtain ⟨ty, ex, df, sets⟩ := f
          simp only at q0 q1 q2 q3 HSO hm1 hm2
          have HM1 := Bas.hid hm1
          have HM2 := Bas.hid hm2
          obtain ⟨ns, hns⟩ : ∃ ns, ns = sets.length := ⟨_, rfl⟩
          have HNS := Bas.hid hns
          rw [← hns] at q3 HSO
          have hns63 : ns ≤ 9223372036854775807 := by
            rcases Row.owned_parts HSO.out with ⟨_, h0, _⟩ | ⟨_, C', _, _, _, h1, h2, _⟩
            · omega
            · unfold maxLen at h2; omega
          clear hcl hz hf hs hlen hb hso hm1 hm2 hns
          go_wp2_with (fail)
          have k6 := Bas.heap_new wr (.cells #[.int .i64 ty, .bool ex, .int .i64 df, .slice sa ns sc] 72)
          have HB6 := Bas.hid (HB.out.trans (((Below.refl wr.heap.size wr).alloc (Nat.le_refl _) (.cells #[.int .i64 ty, .bool ex, .int .i64 df, .slice sa ns sc] 72)).mono HB.out.size))
          generalize wr.alloc (.cells #[.int .i64 ty, .bool ex, .int .i64 df, .slice sa ns sc] 72) = W6 at *
          generalize wr.heap.size = T6 at k6 ⊢
          have c61 := cell_of_heap (i := 1) (v := .bool ex) k6 rfl
          have c62 := cell_of_heap (i := 2) (v := .int .i64 df) k6 rfl
          clear q0 q1 q2 q3 HB
          go_loop [7, 9, 29] (fun vb _ vj => ∃ (j : Nat) (b : Bool), j ≤ ns ∧ vj = .int .i64 j ∧ vb = .bool b ∧ b = (sets.take j).any (fun s => s == df)) (fun _ _ vj => ns - (intOf vj).toNat)
          case atStart => exact ⟨0, false, Nat.zero_le _, rfl, rfl, by simp⟩
          case round =>
            obtain ⟨j, b, hj, rfl, rfl, hbv⟩ := hrel
            have HBV := Bas.hid hbv
            clear hbv
            by_cases hjn : j < ns
            · have hlen := HNS.out
              obtain ⟨x, hx⟩ : ∃ x, sets[j]? = some x := ⟨_, List.getElem?_eq_getElem (by omega)⟩
              rcases Row.owned_parts HSO.out with ⟨_, h0, _⟩ | ⟨G2, C2, hv2, _, hG2, _, _, hc2, _⟩
              · omega
              cases hv2
              have cx := (HB6.out.cell (p := ⟨G2, j, none⟩) hG2).trans (hc2 j (.int .i64 x) (by rw [List.getElem?_map, hx]; rfl))
              have HST : Hid ((sets.take (j + 1)).any (fun s => s == df) = (b || (x == df))) := by
                unfold Hid
                rw [List.take_add_one, hx, List.any_append, ← HBV.out]
                simp
              clear hc2 hx hlen
              cases b with
              | true =>
                go_wp2_with (fail)
                go_round
                case rel => exact ⟨j + 1, true, by omega, by go_num, rfl, by rw [HST.out]; simp⟩
                case measure => simp [intOf]; omega
              | false =>
                go_wp2_with (fail)
                go_round
                case rel => exact ⟨j + 1, x == df, by omega, by go_num, rfl, by rw [HST.out]; simp⟩
                case measure => simp [intOf]; omega
            · have hjn2 : j = ns := by omega
              have hb2 : b = true ↔ df ∈ sets := by
                rw [HBV.out, hjn2, HNS.out, List.take_length, List.any_eq_true]
                exact ⟨fun ⟨x, h1, h2⟩ => by have : x = df := by simpa using h2
                                             exact this ▸ h1, fun h => ⟨df, h, by simp⟩⟩
              have HB2' := Bas.hid hb2
              clear hb2
              cases ex with
              | false =>
                have hdf : df = -1 := HM1.out rfl
                subst hdf
                go_wp2_with (fail)
                go_roundw
                case rel => exact ⟨i + 1, by omega, by go_num, HB6.out⟩
                case measure => simp [intOf]; omega
              | true =>
                by_cases hdf : df = -1
                · subst hdf
                  go_wp2_with (fail)
                  go_roundw
                  case rel => exact ⟨i + 1, by omega, by go_num, HB6.out⟩
                  case measure => simp [intOf]; omega
                · have hbt : b = true := HB2'.out.2 (HM2.out.resolve_left hdf)
                  subst hbt
                  have e1 : (df == -1) = false := by simpa using hdf
                  go_wp2_with (fail)
                  go_roundw
                  case rel => exact ⟨i + 1, by omega, by go_num, HB6.out⟩
                  case measure => simp [intOf]; omega
        · have hin2 : i = n := by omega
          subst hin2
          have HE := Bas.hid (HB2.out.trans (HB.out.mono HB2.out.size))
          clear hb
          go_wp2_with (fail)
          go_ret
          exact ⟨rfl, HE.out⟩
end Ft
end Go.Proofs.Ytgddghplhdmfdaa
