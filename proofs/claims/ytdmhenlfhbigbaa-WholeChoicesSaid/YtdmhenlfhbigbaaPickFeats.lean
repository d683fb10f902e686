/- Layer 9: the features of a case. -/
import Derived.Test.YtdmhenlfhbigbaaFeatExcl
import Derived.Test.YtdmhenlfhbigbaaRowC
namespace Go.Proofs.Ytdmhenlfhbigbaa
open Go.RowKit
namespace Pk
open Ch Ft

/-- The cells of a feature without settings. -/
def pC (f : FeatD) : List Value := [.int .i64 f.type, .bool f.excl, .int .i64 f.dflt, .slice none 0 0]
theorem pC_len (f : FeatD) : (pC f).length = 4 := rfl
theorem pC_snoc (fs : List FeatD) (k : Int) (x : Bool) : (fs ++ [(⟨k, x, -1, []⟩ : FeatD)]).flatMap pC = fs.flatMap pC ++ [.int .i64 k, .bool x, .int .i64 (-1), .slice none 0 0] := by
  rw [List.flatMap_append]; rfl
def fstep (k : Int) (x : Bool) (l : List FeatD) : List FeatD := if l.any (fun f => decide (f.type = k)) then l else l ++ [⟨k, x, -1, []⟩]
def featsN (K : Nat → Int) (X : Nat → Bool) : Nat → List FeatD
  | 0 => []
  | i + 1 => fstep (K i) (X i) (featsN K X i)
theorem featsN_len (K : Nat → Int) (X : Nat → Bool) : ∀ i, (featsN K X i).length ≤ i
  | 0 => Nat.le_refl _
  | i + 1 => by
    have := featsN_len K X i
    rw [featsN, fstep]
    split
    · omega
    · rw [List.length_append]; simp; omega
theorem featsN_nodup (K : Nat → Int) (X : Nat → Bool) : ∀ i, ((featsN K X i).map FeatD.type).Nodup
  | 0 => List.nodup_nil
  | i + 1 => by
    have ih := featsN_nodup K X i
    rw [featsN, fstep]
    split
    · exact ih
    · rename_i h
      rw [List.map_append, List.nodup_append]
      refine ⟨ih, by simp, fun a ha b hb e => h ?_⟩
      simp at hb
      obtain ⟨f, hf, rfl⟩ := List.mem_map.1 ha
      rw [List.any_eq_true]
      exact ⟨f, hf, by simp [e, hb]⟩
theorem infoR8 : (Try.prog.info? 76).map (fun i => (i.zero, i.size, i.bytes)) = some (some (.agg #[.int .i64 0, .bool false, .int .i64 0, .slice none 0 0]), 4, 48) := by kernel_rfl

set_option maxRecDepth 100000 in
set_option maxHeartbeats 16000000 in
theorem features_any (ka : Option Addr) (kn kc : Nat) (K : Nat → Int) (ba : Option Addr) (bn bc : Nat) (B : Nat → Bool) (w : World) (hkn : kn ≤ 1000000) (hbn : bn ≤ 9223372036854775807)
    (hk : ∀ i, i < kn → (∃ b o, ka = some ⟨b, o, none⟩ ∧ w.cell? ⟨b, o + i, none⟩ = some (.int .u8 (K i))) ∧ 0 ≤ K i ∧ K i ≤ 255)
    (hb : ∀ i, i < bn → ∃ b o, ba = some ⟨b, o, none⟩ ∧ w.cell? ⟨b, o + i, none⟩ = some (.bool (B i))) :
    Calls Try.prog 17 #[.slice ka kn kc, .slice ba bn bc] w fun e w' => ∃ v6 v7 fs, e = .returned (.tuple #[v6, v7]) ∧ featsN K (fun i => decide (i < bn) && B i) kn = fs ∧ w'.ownsRow w.heap.size 78 4 v6 fs.length (fs.flatMap pC) ∧ w'.ownsRow w.heap.size 76 4 v7 fs.length (fs.flatMap pC) ∧ Below w.heap.size w w' := by
  have HKS := Bas.hid hk
  have HBS := Bas.hid hb
  clear hk hb
  go_enter Try.func17, Try.ntmps17
  go_wp2_with (fail)
  go_loopw [6, 7, 16] (fun v6 v7 vi wr => ∃ (i : Nat) (fs : List FeatD) (L : Nat) , i ≤ kn ∧ vi = .int .i64 i ∧ featsN K (fun i => decide (i < bn) && B i) i = fs ∧ fs.length = L ∧ wr.ownsRow w.heap.size 78 4 v6 L (fs.flatMap pC) ∧ wr.ownsRow w.heap.size 76 4 v7 L (fs.flatMap pC) ∧ Below w.heap.size w wr) (fun _ _ vi _ => kn - (intOf vi).toNat)
  case atStart => exact ⟨0, [], 0, Nat.zero_le _, rfl, rfl, rfl, Row.owned_nil _ _ _ _, Row.owned_nil _ _ _ _, Below.refl _ _⟩
  case round =>
    obtain ⟨i, fs, L, hi, rfl, hf, hfl, ho6, ho7, hb⟩ := hrel
    obtain ⟨a6, c6, rfl⟩ := own_slice ho6
    obtain ⟨a7, c7, rfl⟩ := own_slice ho7
    have hLi : L ≤ i := by rw [← hfl, ← hf]; exact featsN_len _ _ _
    have HF := Bas.hid hf
    have HFL := Bas.hid hfl
    have HO6 := Bas.hid ho6
    have HO7 := Bas.hid ho7
    have HB := Bas.hid hb
    clear hf hfl ho6 ho7 hb
    by_cases hin : i < kn
    · have e1 : decide ((i : Int) < (kn : Int)) = true := by simp; omega
      have e2 : decide (i < kn) = true := by simp; omega
      obtain ⟨⟨b0, o0, hka, hck⟩, hk0, hk1⟩ := HKS.out i hin
      cases hka
      have lb : b0 < w.heap.size := World.block_lt_of_cell? _ _ hck
      have ck0 := (HB.out.cell (p := ⟨b0, o0 + i, none⟩) lb).trans hck
      have hst : featsN K (fun i => decide (i < bn) && B i) (i + 1) = fstep (K i) (decide (i < bn) && B i) (featsN K (fun i => decide (i < bn) && B i) i) := rfl
      obtain ⟨k, hkk⟩ : ∃ k, K i = k := ⟨_, rfl⟩
      rw [hkk] at ck0 hk0 hk1 hst
      clear hck hkk
      have hk64 : wrap64 k = k := by unfold wrap64; omega
      by_cases hbi : i < bn
      · have e5 : decide ((i : Int) < (bn : Int)) = true := by simp; omega
        have e6 : decide (i < bn) = true := by simp; omega
        have E6 := Bas.hid e6
        obtain ⟨b1, o1, hba, hcb⟩ := HBS.out i hbi
        cases hba
        have lb1 : b1 < w.heap.size := World.block_lt_of_cell? _ _ hcb
        have cb0 := (HB.out.cell (p := ⟨b1, o1 + i, none⟩) lb1).trans hcb
        obtain ⟨bx, hbx⟩ : ∃ bx, B i = bx := ⟨_, rfl⟩
        rw [hbx] at cb0
        clear hcb
        have hxv : (decide (i < bn) && B i) = bx := by rw [E6.out]; rw [Bool.true_and]; exact hbx
        rw [hxv] at hst
        have HST := Bas.hid hst
        clear hxv hst
        clear hbx
        go_wp2_with (fail)
        go_loopw [11, 33] (fun va vb wi => ∃ (j : Nat) (kn' : Bool), j ≤ L ∧ va = .bool kn' ∧ vb = .int .i64 j ∧ (fs.take j).any (fun f => decide (f.type = k)) = kn' ∧ Below wr.heap.size wr wi) (fun _ vb _ => L - (intOf vb).toNat)
        case atStart => exact ⟨0, false, Nat.zero_le _, rfl, rfl, rfl, Below.refl _ _⟩
        case round =>
          obtain ⟨j, kn', hj, rfl, rfl, hkn, hbi⟩ := hrel
          have HKN := Bas.hid hkn
          have HBI := Bas.hid hbi
          clear hkn hbi
          by_cases hjl : j < L
          · have e3 : decide ((j : Int) < (L : Int)) = true := by simp; omega
            have e4 : decide (j < L) = true := by simp; omega
            obtain ⟨f, hf⟩ : ∃ f, fs[j]? = some f := ⟨_, List.getElem?_eq_getElem (by rw [HFL.out]; exact hjl)⟩
            have hTK : fs.take (j + 1) = fs.take j ++ [f] := by rw [List.take_add_one, hf]; rfl
            have hany : (fs.take (j + 1)).any (fun f => decide (f.type = k)) = (kn' || decide (f.type = k)) := by rw [hTK, List.any_append, HKN.out]; simp
            obtain ⟨G, Og, cpg, hv, hcl⟩ := Row.leads_elem pC_len (Row.leads_owned (Row.owned_below HO6.out HBI.out)) hf (by omega)
            cases hv
            obtain ⟨ty, ex, df, ss⟩ := f
            have c0 := hcl 0 _ rfl
            have c1 := hcl 1 _ rfl
            have c2 := hcl 2 _ rfl
            have c3 := hcl 3 _ rfl
            simp only [Nat.add_zero] at c0
            simp only at hany
            clear hcl hf hTK
            cases kn' with
            | true =>
              simp only [Bool.true_or] at hany
              have HANY := Bas.hid hany
              clear hany
              go_wp2_with (fail)
              have HB2 := Bas.hid (HBI.out.alloc HBI.out.size (.cells #[.int .i64 ty, .bool ex, .int .i64 df, .slice none 0 0] 78))
              generalize wr.alloc (.cells #[.int .i64 ty, .bool ex, .int .i64 df, .slice none 0 0] 78) = W2 at *
              clear HBI
              go_roundw
              case rel => exact ⟨j + 1, true, by omega, rfl, by go_num, HANY.out, HB2.out⟩
              case measure => simp [intOf]; omega
            | false =>
              simp only [Bool.false_or] at hany
              have HANY := Bas.hid hany
              clear hany
              go_wp2_with (fail)
              have HB2 := Bas.hid (HBI.out.alloc HBI.out.size (.cells #[.int .i64 ty, .bool ex, .int .i64 df, .slice none 0 0] 78))
              generalize wr.alloc (.cells #[.int .i64 ty, .bool ex, .int .i64 df, .slice none 0 0] 78) = W2 at *
              clear HBI
              go_roundw
              case rel => exact ⟨j + 1, decide (ty = k), by omega, rfl, by go_num, HANY.out, HB2.out⟩
              case measure => simp [intOf]; omega
          · have hjl2 : j = L := by omega
            subst hjl2
            have hlt : fs.take j = fs := List.take_of_length_le (by rw [HFL.out]; exact Nat.le_refl _)
            rw [hlt] at HKN
            have hst := HST.out
            unfold Hid at HST
            rw [HF.out] at hst
            unfold fstep at hst
            rw [HKN.out] at hst
            have HB7 := Bas.hid (HB.out.trans (HBI.out.mono HB.out.size))
            have HO61 := Bas.hid (Row.owned_below HO6.out HBI.out)
            have HO71 := Bas.hid (Row.owned_below HO7.out HBI.out)
            clear hlt hjl HST HBI HO6 HO7 HB
            cases kn' with
            | true =>
              simp only [if_true] at hst
              have HST := Bas.hid hst
              clear hst
              go_wp2_with (fail)
              go_roundw
              case rel => exact ⟨i + 1, fs, j, by omega, by go_num, HST.out, HFL.out, HO61.out, HO71.out, HB7.out⟩
              case measure => simp [intOf]; omega
            | false =>
              simp only [if_false, Bool.false_eq_true] at hst
              have HST := Bas.hid hst
              clear hst
              go_wp2_with (at_builtin; refine Row.fence ?_)
              refine Row.unfence ?_
              have k9 := Bas.heap_new wr (.cells #[.int .i64 k, .bool bx, .int .i64 (-1), .slice none 0 0] 78)
              have hb9 := (Below.refl wr.heap.size wr).alloc (Nat.le_refl _) (.cells #[.int .i64 k, .bool bx, .int .i64 (-1), .slice none 0 0] 78)
              have HB9 := Bas.hid (HB7.out.trans (hb9.mono HB7.out.size))
              have HO6 := Bas.hid (Row.owned_below HO61.out hb9)
              have HO7 := Bas.hid (Row.owned_below HO71.out hb9)
              generalize wr.alloc (.cells #[.int .i64 k, .bool bx, .int .i64 (-1), .slice none 0 0] 78) = W9 at *
              clear hb9 HB7 HO61 HO71
              refine (Row.append_any rfl _ _ 33 78 rfl (.agg #[.int .i64 0, .bool false, .int .i64 0, .slice none 0 0]) 4 48 Try.underlying33 infoFt rfl (by decide) w.heap.size (.slice a6 j c6) j _ rfl HO6.out (.slice (some ⟨wr.heap.size, 0, none⟩) 1 1) 1 [.int .i64 k, .bool bx, .int .i64 (-1), .slice none 0 0] rfl (leads_heap k9) rfl (by simp; exact ⟨rfl, rfl, rfl, rfl⟩) (by unfold maxLen; omega) (by omega) HB9.out.size ?_)
              intro v6 w10 hown10 hg10 _
              have HB10 := Bas.hid (HB9.out.grown hg10 HB9.out.size (fun g' hg' => (Row.own_block HO6.out hg').1))
              have HO70 := Bas.hid (Row.owned_keep HO7.out fun g' hg' => hg10.block g' (Row.own_block HO7.out hg').2 (fun e' => own_rows_ne HO6.out HO7.out (by decide) e'.symm hg'))
              have HO60 := Bas.hid hown10
              clear hown10 hg10 k9 HB9 HO6 HO7
              go_wp2_with (at_builtin; refine Row.fence ?_)
              refine Row.unfence ?_
              have k11 := Bas.heap_new w10 (.cells #[.int .i64 k, .bool bx, .int .i64 (-1), .slice none 0 0] 76)
              have hb11 := (Below.refl w10.heap.size w10).alloc (Nat.le_refl _) (.cells #[.int .i64 k, .bool bx, .int .i64 (-1), .slice none 0 0] 76)
              have HB11 := Bas.hid (HB10.out.trans (hb11.mono HB10.out.size))
              have HO6 := Bas.hid (Row.owned_below HO60.out hb11)
              have HO7 := Bas.hid (Row.owned_below HO70.out hb11)
              generalize w10.alloc (.cells #[.int .i64 k, .bool bx, .int .i64 (-1), .slice none 0 0] 76) = W11 at *
              clear hb11 HB10 HO60 HO70
              refine (Row.append_any rfl _ _ 37 76 rfl (.agg #[.int .i64 0, .bool false, .int .i64 0, .slice none 0 0]) 4 48 Try.underlying37 infoR8 rfl (by decide) w.heap.size (.slice a7 j c7) j _ rfl HO7.out (.slice (some ⟨w10.heap.size, 0, none⟩) 1 1) 1 [.int .i64 k, .bool bx, .int .i64 (-1), .slice none 0 0] rfl (leads_heap k11) rfl (by simp; exact ⟨rfl, rfl, rfl, rfl⟩) (by unfold maxLen; omega) (by omega) HB11.out.size ?_)
              intro v7 w12 hown12 hg12 _
              have HB12 := Bas.hid (HB11.out.grown hg12 HB11.out.size (fun g' hg' => (Row.own_block HO7.out hg').1))
              have HO62 := Bas.hid (Row.owned_keep HO6.out fun g' hg' => hg12.block g' (Row.own_block HO6.out hg').2 (fun e' => own_rows_ne HO7.out HO6.out (by decide) e'.symm hg'))
              have HO72 := Bas.hid hown12
              clear hown12 hg12 k11 HB11 HO6 HO7
              go_wp2_with (fail)
              go_roundw
              case rel => exact ⟨i + 1, fs ++ [⟨k, bx, -1, []⟩], j + 1, by omega, by go_num, HST.out, by rw [List.length_append, HFL.out]; rfl, by rw [pC_snoc]; exact HO62.out, by rw [pC_snoc]; exact HO72.out, HB12.out⟩
              case measure => simp [intOf]; omega
      · have e5 : decide ((i : Int) < (bn : Int)) = false := by simp; omega
        have e6 : decide (i < bn) = false := by simp; omega
        have E6 := Bas.hid e6
        have hxv : (decide (i < bn) && B i) = false := by rw [E6.out]; rfl
        rw [hxv] at hst
        have HST := Bas.hid hst
        clear hxv hst
        go_wp2_with (fail)
        go_loopw [11, 33] (fun va vb wi => ∃ (j : Nat) (kn' : Bool), j ≤ L ∧ va = .bool kn' ∧ vb = .int .i64 j ∧ (fs.take j).any (fun f => decide (f.type = k)) = kn' ∧ Below wr.heap.size wr wi) (fun _ vb _ => L - (intOf vb).toNat)
        case atStart => exact ⟨0, false, Nat.zero_le _, rfl, rfl, rfl, Below.refl _ _⟩
        case round =>
          obtain ⟨j, kn', hj, rfl, rfl, hkn, hbi⟩ := hrel
          have HKN := Bas.hid hkn
          have HBI := Bas.hid hbi
          clear hkn hbi
          by_cases hjl : j < L
          · have e3 : decide ((j : Int) < (L : Int)) = true := by simp; omega
            have e4 : decide (j < L) = true := by simp; omega
            obtain ⟨f, hf⟩ : ∃ f, fs[j]? = some f := ⟨_, List.getElem?_eq_getElem (by rw [HFL.out]; exact hjl)⟩
            have hTK : fs.take (j + 1) = fs.take j ++ [f] := by rw [List.take_add_one, hf]; rfl
            have hany : (fs.take (j + 1)).any (fun f => decide (f.type = k)) = (kn' || decide (f.type = k)) := by rw [hTK, List.any_append, HKN.out]; simp
            obtain ⟨G, Og, cpg, hv, hcl⟩ := Row.leads_elem pC_len (Row.leads_owned (Row.owned_below HO6.out HBI.out)) hf (by omega)
            cases hv
            obtain ⟨ty, ex, df, ss⟩ := f
            have c0 := hcl 0 _ rfl
            have c1 := hcl 1 _ rfl
            have c2 := hcl 2 _ rfl
            have c3 := hcl 3 _ rfl
            simp only [Nat.add_zero] at c0
            simp only at hany
            clear hcl hf hTK
            cases kn' with
            | true =>
              simp only [Bool.true_or] at hany
              have HANY := Bas.hid hany
              clear hany
              go_wp2_with (fail)
              have HB2 := Bas.hid (HBI.out.alloc HBI.out.size (.cells #[.int .i64 ty, .bool ex, .int .i64 df, .slice none 0 0] 78))
              generalize wr.alloc (.cells #[.int .i64 ty, .bool ex, .int .i64 df, .slice none 0 0] 78) = W2 at *
              clear HBI
              go_roundw
              case rel => exact ⟨j + 1, true, by omega, rfl, by go_num, HANY.out, HB2.out⟩
              case measure => simp [intOf]; omega
            | false =>
              simp only [Bool.false_or] at hany
              have HANY := Bas.hid hany
              clear hany
              go_wp2_with (fail)
              have HB2 := Bas.hid (HBI.out.alloc HBI.out.size (.cells #[.int .i64 ty, .bool ex, .int .i64 df, .slice none 0 0] 78))
              generalize wr.alloc (.cells #[.int .i64 ty, .bool ex, .int .i64 df, .slice none 0 0] 78) = W2 at *
              clear HBI
              go_roundw
              case rel => exact ⟨j + 1, decide (ty = k), by omega, rfl, by go_num, HANY.out, HB2.out⟩
              case measure => simp [intOf]; omega
          · have hjl2 : j = L := by omega
            subst hjl2
            have hlt : fs.take j = fs := List.take_of_length_le (by rw [HFL.out]; exact Nat.le_refl _)
            rw [hlt] at HKN
            have hst := HST.out
            unfold Hid at HST
            rw [HF.out] at hst
            unfold fstep at hst
            rw [HKN.out] at hst
            have HB7 := Bas.hid (HB.out.trans (HBI.out.mono HB.out.size))
            have HO61 := Bas.hid (Row.owned_below HO6.out HBI.out)
            have HO71 := Bas.hid (Row.owned_below HO7.out HBI.out)
            clear hlt hjl HST HBI HO6 HO7 HB
            cases kn' with
            | true =>
              simp only [if_true] at hst
              have HST := Bas.hid hst
              clear hst
              go_wp2_with (fail)
              go_roundw
              case rel => exact ⟨i + 1, fs, j, by omega, by go_num, HST.out, HFL.out, HO61.out, HO71.out, HB7.out⟩
              case measure => simp [intOf]; omega
            | false =>
              simp only [if_false, Bool.false_eq_true] at hst
              have HST := Bas.hid hst
              clear hst
              go_wp2_with (at_builtin; refine Row.fence ?_)
              refine Row.unfence ?_
              have k9 := Bas.heap_new wr (.cells #[.int .i64 k, .bool false, .int .i64 (-1), .slice none 0 0] 78)
              have hb9 := (Below.refl wr.heap.size wr).alloc (Nat.le_refl _) (.cells #[.int .i64 k, .bool false, .int .i64 (-1), .slice none 0 0] 78)
              have HB9 := Bas.hid (HB7.out.trans (hb9.mono HB7.out.size))
              have HO6 := Bas.hid (Row.owned_below HO61.out hb9)
              have HO7 := Bas.hid (Row.owned_below HO71.out hb9)
              generalize wr.alloc (.cells #[.int .i64 k, .bool false, .int .i64 (-1), .slice none 0 0] 78) = W9 at *
              clear hb9 HB7 HO61 HO71
              refine (Row.append_any rfl _ _ 33 78 rfl (.agg #[.int .i64 0, .bool false, .int .i64 0, .slice none 0 0]) 4 48 Try.underlying33 infoFt rfl (by decide) w.heap.size (.slice a6 j c6) j _ rfl HO6.out (.slice (some ⟨wr.heap.size, 0, none⟩) 1 1) 1 [.int .i64 k, .bool false, .int .i64 (-1), .slice none 0 0] rfl (leads_heap k9) rfl (by simp; exact ⟨rfl, rfl, rfl, rfl⟩) (by unfold maxLen; omega) (by omega) HB9.out.size ?_)
              intro v6 w10 hown10 hg10 _
              have HB10 := Bas.hid (HB9.out.grown hg10 HB9.out.size (fun g' hg' => (Row.own_block HO6.out hg').1))
              have HO70 := Bas.hid (Row.owned_keep HO7.out fun g' hg' => hg10.block g' (Row.own_block HO7.out hg').2 (fun e' => own_rows_ne HO6.out HO7.out (by decide) e'.symm hg'))
              have HO60 := Bas.hid hown10
              clear hown10 hg10 k9 HB9 HO6 HO7
              go_wp2_with (at_builtin; refine Row.fence ?_)
              refine Row.unfence ?_
              have k11 := Bas.heap_new w10 (.cells #[.int .i64 k, .bool false, .int .i64 (-1), .slice none 0 0] 76)
              have hb11 := (Below.refl w10.heap.size w10).alloc (Nat.le_refl _) (.cells #[.int .i64 k, .bool false, .int .i64 (-1), .slice none 0 0] 76)
              have HB11 := Bas.hid (HB10.out.trans (hb11.mono HB10.out.size))
              have HO6 := Bas.hid (Row.owned_below HO60.out hb11)
              have HO7 := Bas.hid (Row.owned_below HO70.out hb11)
              generalize w10.alloc (.cells #[.int .i64 k, .bool false, .int .i64 (-1), .slice none 0 0] 76) = W11 at *
              clear hb11 HB10 HO60 HO70
              refine (Row.append_any rfl _ _ 37 76 rfl (.agg #[.int .i64 0, .bool false, .int .i64 0, .slice none 0 0]) 4 48 Try.underlying37 infoR8 rfl (by decide) w.heap.size (.slice a7 j c7) j _ rfl HO7.out (.slice (some ⟨w10.heap.size, 0, none⟩) 1 1) 1 [.int .i64 k, .bool false, .int .i64 (-1), .slice none 0 0] rfl (leads_heap k11) rfl (by simp; exact ⟨rfl, rfl, rfl, rfl⟩) (by unfold maxLen; omega) (by omega) HB11.out.size ?_)
              intro v7 w12 hown12 hg12 _
              have HB12 := Bas.hid (HB11.out.grown hg12 HB11.out.size (fun g' hg' => (Row.own_block HO7.out hg').1))
              have HO62 := Bas.hid (Row.owned_keep HO6.out fun g' hg' => hg12.block g' (Row.own_block HO6.out hg').2 (fun e' => own_rows_ne HO7.out HO6.out (by decide) e'.symm hg'))
              have HO72 := Bas.hid hown12
              clear hown12 hg12 k11 HB11 HO6 HO7
              go_wp2_with (fail)
              go_roundw
              case rel => exact ⟨i + 1, fs ++ [⟨k, false, -1, []⟩], j + 1, by omega, by go_num, HST.out, by rw [List.length_append, HFL.out]; rfl, by rw [pC_snoc]; exact HO62.out, by rw [pC_snoc]; exact HO72.out, HB12.out⟩
              case measure => simp [intOf]; omega
    · have hin2 : i = kn := by omega
      subst hin2
      go_wp2_with (fail)
      refine bodyPost_ret (v := .tuple #[.slice a6 L c6, .slice a7 L c7]) (by simp [results, Try.results17, go_sem]) rfl ?_
      exact ⟨_, _, fs, rfl, HF.out, by rw [HFL.out]; exact HO6.out, by rw [HFL.out]; exact HO7.out, HB.out⟩
end Pk
end Go.Proofs.Ytdmhenlfhbigbaa
