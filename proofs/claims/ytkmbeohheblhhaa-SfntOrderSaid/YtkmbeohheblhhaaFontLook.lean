/- Layer 2 (sfnt): Find, of a font. -/
import Derived.Test.YtkmbeohheblhhaaFontBin
namespace Go.Proofs.Ytkmbeohheblhhaa
open Go.RowKit
namespace Fo
open Vw Wr

theorem toList_eq_data (s : ByteArray) : s.toList = s.data.toList := ByteArray.toList_eq s
theorem str_eq (s t : ByteArray) (h : (s.toList == t.toList) = true) : s = t := by
  have h1 : s.toList = t.toList := by simpa using h
  rw [toList_eq_data, toList_eq_data] at h1
  cases s; cases t
  simp only [ByteArray.mk.injEq]
  exact Array.toList_inj.1 h1
theorem cmpS_zero (s t : ByteArray) (h : cmpS s t = 0) : s = t := by
  unfold cmpS at h
  split at h
  · cases h
  · split at h
    · cases h
    · rename_i h1 h2
      unfold ltS at h1
      unfold gtS at h2
      refine str_eq s t ?_
      cases h3 : s.toList == t.toList with
      | true => rfl
      | false =>
        rw [h3] at h2
        simp at h1 h2
        rw [h1] at h2; cases h2

set_option maxRecDepth 100000 in
set_option maxHeartbeats 8000000 in
theorem find_yes (a : Option Addr) (len cap : Nat) (bs : List Int) (P : List PartD) (s : ByteArray) (i : Nat) (p : PartD) (hp : P[i]? = some p) (hs : p.tag = s) (w : World) (hl : len ≤ cap) (hc : cap ≤ maxLen) (hv : VB w a bs) (hbl : bs.length = len) (hF : IsFont bs P) :
    Calls Try.prog 19 #[.slice a len cap, .string s] w fun e w' => e = .returned (.tuple #[.agg #[.slice (sub a (atM P i) p.data.length) p.data.length p.data.length], .bool true]) ∧ Below w.heap.size w w' := by
  have hil : i < P.length := (List.getElem?_eq_some_iff.1 hp).1
  obtain ⟨n, hn⟩ : ∃ n, P.length = n := ⟨_, rfl⟩
  have HN := Bas.hid hn
  have HF := Bas.hid hF
  have HTAB := Bas.hid (fun w' (hv' : VB w' a bs) => tables_ok a len cap bs P w' hl hc hv' hbl hF)
  have HV := Bas.hid hv
  have hn1 : 1 ≤ n := by omega
  have hn2 : n ≤ 100000 := by have := hF.len; have := hF.few; omega
  have HAL := Bas.hid ((Below.refl w.heap.size w).alloc (Nat.le_refl _) (.cells #[.slice none 0 0] 48))
  have k4 := Bas.heap_new w (.cells #[.slice none 0 0] 48)
  have hgi : P.getD i default = p := by rw [List.getD_eq_getElem?_getD, hp]; rfl
  obtain ⟨-, hend⟩ := hF.data i p hp
  rw [hbl] at hend
  have HGI := Bas.hid hgi
  have HCUT : Hid (∀ w', Calls Try.prog 32 #[.agg #[.slice a len cap], .int .i64 (atM P i : Nat), .int .i64 (p.data.length : Nat)] w' fun e w'' => e = .returned (.agg #[.slice (sub a (atM P i) p.data.length) p.data.length p.data.length]) ∧ Below w'.heap.size w' w'') := fun w' => by
    have h := cut_ok a len cap (atM P i : Nat) (p.data.length : Nat) w' hl hc (by omega) (by omega) (by omega)
    simpa using h
  have HOF := Bas.hid (fun w' => of_any a len cap w')
  have hin : i < n := by omega
  clear hv hF hgi hend
  go_enter Try.func19, Try.ntmps19
  go_wp2_with (fail)
  generalize w.alloc (.cells #[.slice none 0 0] 48) = W at *
  refine (HTAB.out _ (HV.out.below HAL.out)).mono ?_
  rintro e w1 ⟨hb1, v, rfl, hown⟩
  have j4 := (hb1.block _ (heap_lt k4)).trans k4
  have HB1 := Bas.hid (HAL.out.trans (hb1.mono HAL.out.size))
  have hcells : ∀ j, j < n → ∃ GG C, v = .slice (some ⟨GG, 0, none⟩) n C ∧ w1.cell? ⟨GG, j * 3, none⟩ = some (.string (P.getD j default).tag) ∧ w1.cell? ⟨GG, j * 3 + 1, none⟩ = some (.int .i64 (atM P j : Nat)) ∧ w1.cell? ⟨GG, j * 3 + 2, none⟩ = some (.int .i64 ((P.getD j default).data.length : Nat)) := by
    intro j hj
    obtain ⟨p', hp'⟩ : ∃ p, P[j]? = some p := ⟨_, List.getElem?_eq_getElem (by omega)⟩
    obtain ⟨GG, C, hv, -, -, -, hcl⟩ := Row.elem_cells tabC_len hown (tabsM_get P j p' hp') (by omega) (by rw [tabsM_len])
    have hg : P.getD j default = p' := by rw [List.getD_eq_getElem?_getD, hp']; rfl
    rw [hg]
    exact ⟨GG, C, by rw [← hn]; exact hv, hcl 0 _ rfl, hcl 1 _ rfl, hcl 2 _ rfl⟩
  obtain ⟨G, C, rfl, -⟩ := hcells 0 (by omega)
  have HC1 : Hid (∀ j, j < n → w1.cell? ⟨G, j * 3, none⟩ = some (.string (P.getD j default).tag) ∧ w1.cell? ⟨G, j * 3 + 1, none⟩ = some (.int .i64 (atM P j : Nat)) ∧ w1.cell? ⟨G, j * 3 + 2, none⟩ = some (.int .i64 ((P.getD j default).data.length : Nat))) := by
    intro j hj
    obtain ⟨GG, CC, hv, h⟩ := hcells j hj
    cases hv
    exact h
  have HBS := Bas.hid (bs_any G n C (fun j => (P.getD j default).tag) (fun j => (atM P j : Nat)) (fun j => ((P.getD j default).data.length : Nat)) s w1 hn2 HC1.out (fun i j hij hj => by
    obtain ⟨pi, hpi⟩ : ∃ p, P[i]? = some p := ⟨_, List.getElem?_eq_getElem (by omega)⟩
    obtain ⟨pj, hpj⟩ : ∃ p, P[j]? = some p := ⟨_, List.getElem?_eq_getElem (by omega)⟩
    simp only [List.getD_eq_getElem?_getD, hpi, hpj, Option.getD_some]
    exact HF.out.rise i j pi pj hij hpi hpj))
  clear hown hb1 k4 hcells HTAB HAL hn
  go_wp2_with (fail)
  refine HBS.out.mono ?_
  rintro e w2 ⟨k, hkn, hkA, hkB, rfl, hb2⟩
  have hki : k = i := by
    rcases Nat.lt_trichotomy k i with h | h | h
    · have h1 := hkB k (Nat.le_refl _) (by omega)
      obtain ⟨pk, hpk⟩ : ∃ p, P[k]? = some p := ⟨_, List.getElem?_eq_getElem (by omega)⟩
      simp only [List.getD_eq_getElem?_getD, hpk, Option.getD_some] at h1
      rw [← hs, HF.out.rise k i pk p h hpk hp] at h1
      cases h1
    · exact h
    · have h1 := hkA i h
      simp only [HGI.out, hs] at h1
      unfold ltS at h1
      rw [bl_irrefl] at h1; cases h1
  subst hki
  have hfnd : (decide (k < n) && (cmpS (P.getD k default).tag s == 0)) = true := by rw [HGI.out, hs, cmpS_self]; simp [hin]
  rw [hfnd]
  have m4 := (hb2.block _ (heap_lt j4)).trans j4
  have HB2 := Bas.hid (HB1.out.trans (hb2.mono HB1.out.size))
  obtain ⟨-, h1, h2⟩ := HC1.out k hin
  rw [HGI.out] at h2
  have lG := World.block_lt_of_cell? _ _ h1
  have c1 := (hb2.cell (p := ⟨G, k * 3 + 1, none⟩) (World.block_lt_of_cell? _ _ h1)).trans h1
  have c2 := (hb2.cell (p := ⟨G, k * 3 + 2, none⟩) (World.block_lt_of_cell? _ _ h2)).trans h2
  have lG2 := World.block_lt_of_cell? _ _ c1
  clear hb2 j4 HB1 HC1 h1 h2 hkA hkB hfnd HBS hp hs
  go_wp2_with (fail)
  refine' Pl.region_v0 37 [] [0, 1, 2, 3, 4, 5, 6, 7, 8, 9, 10, 11, 12] [13, 14] _ (by kernel_rfl) (by kernel_rfl) (by simp) (fun _ _ _ _ e h => ⟨e ▸ h.1, h.2⟩) ?_ ?_
  rotate_left
  · intro I F hI hF
    simp only [Pl.selN, List.cons_append, List.nil_append, List.drop_succ_cons, List.drop_zero]
    have x1 := fun q => hF.cell lG2 c1 q
    have x2 := fun q => hF.cell lG2 c2 q
    repeat (go_big_quiet_step ((first | (go_at_call 36; with_reducible exact hF.call (HOF.out _)) | (go_at_call 32; with_reducible exact hF.call (HCUT.out _)))))
    refine wpQuiet_nil ?_
    rfl
  intro u hu
  simp only [Pl.selN, List.drop_succ_cons, List.drop_zero]
  have n4 := (hu.block _ (heap_lt m4)).trans m4
  have HBU := Bas.hid (HB2.out.trans (hu.mono HB2.out.size))
  have r0 := cell_of_heap (i := 0) (v := .slice none 0 0) n4 rfl
  have f0 := free_of_heap (i := 0) n4
  clear hu m4 HB2 c1 c2
  go_wp2_with (fail)
  refine bodyPost_ret (v := .tuple #[.agg #[.slice (sub a (atM P k) p.data.length) p.data.length p.data.length], .bool true]) (by simp [results, Try.results19, go_sem, r0]) rfl ⟨rfl, HBU.out.setCell (p := ⟨w.heap.size, 0, none⟩) (Nat.le_refl _) _⟩

set_option maxRecDepth 100000 in
set_option maxHeartbeats 8000000 in
theorem find_no (a : Option Addr) (len cap : Nat) (bs : List Int) (P : List PartD) (s : ByteArray) (hP : 1 ≤ P.length) (hs : ∀ p ∈ P, p.tag ≠ s) (w : World) (hl : len ≤ cap) (hc : cap ≤ maxLen) (hv : VB w a bs) (hbl : bs.length = len) (hF : IsFont bs P) :
    Calls Try.prog 19 #[.slice a len cap, .string s] w fun e w' => e = .returned (.tuple #[.agg #[.slice none 0 0], .bool false]) ∧ Below w.heap.size w w' := by
  obtain ⟨n, hn⟩ : ∃ n, P.length = n := ⟨_, rfl⟩
  have HN := Bas.hid hn
  have HF := Bas.hid hF
  have HTAB := Bas.hid (fun w' (hv' : VB w' a bs) => tables_ok a len cap bs P w' hl hc hv' hbl hF)
  have HV := Bas.hid hv
  have hn1 : 1 ≤ n := by omega
  have hn2 : n ≤ 100000 := by have := hF.len; have := hF.few; omega
  have HAL := Bas.hid ((Below.refl w.heap.size w).alloc (Nat.le_refl _) (.cells #[.slice none 0 0] 48))
  have k4 := Bas.heap_new w (.cells #[.slice none 0 0] 48)
  clear hv hF
  go_enter Try.func19, Try.ntmps19
  go_wp2_with (fail)
  generalize w.alloc (.cells #[.slice none 0 0] 48) = W at *
  refine (HTAB.out _ (HV.out.below HAL.out)).mono ?_
  rintro e w1 ⟨hb1, v, rfl, hown⟩
  have j4 := (hb1.block _ (heap_lt k4)).trans k4
  have HB1 := Bas.hid (HAL.out.trans (hb1.mono HAL.out.size))
  have hcells : ∀ j, j < n → ∃ GG C, v = .slice (some ⟨GG, 0, none⟩) n C ∧ w1.cell? ⟨GG, j * 3, none⟩ = some (.string (P.getD j default).tag) ∧ w1.cell? ⟨GG, j * 3 + 1, none⟩ = some (.int .i64 (atM P j : Nat)) ∧ w1.cell? ⟨GG, j * 3 + 2, none⟩ = some (.int .i64 ((P.getD j default).data.length : Nat)) := by
    intro j hj
    obtain ⟨p', hp'⟩ : ∃ p, P[j]? = some p := ⟨_, List.getElem?_eq_getElem (by omega)⟩
    obtain ⟨GG, C, hv, -, -, -, hcl⟩ := Row.elem_cells tabC_len hown (tabsM_get P j p' hp') (by omega) (by rw [tabsM_len])
    have hg : P.getD j default = p' := by rw [List.getD_eq_getElem?_getD, hp']; rfl
    rw [hg]
    exact ⟨GG, C, by rw [← hn]; exact hv, hcl 0 _ rfl, hcl 1 _ rfl, hcl 2 _ rfl⟩
  obtain ⟨G, C, rfl, -⟩ := hcells 0 (by omega)
  have HC1 : Hid (∀ j, j < n → w1.cell? ⟨G, j * 3, none⟩ = some (.string (P.getD j default).tag) ∧ w1.cell? ⟨G, j * 3 + 1, none⟩ = some (.int .i64 (atM P j : Nat)) ∧ w1.cell? ⟨G, j * 3 + 2, none⟩ = some (.int .i64 ((P.getD j default).data.length : Nat))) := by
    intro j hj
    obtain ⟨GG, CC, hv, h⟩ := hcells j hj
    cases hv
    exact h
  have HBS := Bas.hid (bs_any G n C (fun j => (P.getD j default).tag) (fun j => (atM P j : Nat)) (fun j => ((P.getD j default).data.length : Nat)) s w1 hn2 HC1.out (fun i j hij hj => by
    obtain ⟨pi, hpi⟩ : ∃ p, P[i]? = some p := ⟨_, List.getElem?_eq_getElem (by omega)⟩
    obtain ⟨pj, hpj⟩ : ∃ p, P[j]? = some p := ⟨_, List.getElem?_eq_getElem (by omega)⟩
    simp only [List.getD_eq_getElem?_getD, hpi, hpj, Option.getD_some]
    exact HF.out.rise i j pi pj hij hpi hpj))
  clear hown hb1 k4 hcells HTAB HAL hn
  go_wp2_with (fail)
  refine HBS.out.mono ?_
  rintro e w2 ⟨k, hkn, hkA, hkB, rfl, hb2⟩
  have hfnd : (decide (k < n) && (cmpS (P.getD k default).tag s == 0)) = false := by
    by_cases hk : k < n
    · obtain ⟨pk, hpk⟩ : ∃ p, P[k]? = some p := ⟨_, List.getElem?_eq_getElem (by have := HN.out; omega)⟩
      have h1 : ¬ cmpS (P.getD k default).tag s = 0 := fun h => by
        simp only [List.getD_eq_getElem?_getD, hpk, Option.getD_some] at h
        exact hs pk (List.mem_of_getElem? hpk) (cmpS_zero _ _ h)
      simp [h1, -List.getD_eq_getElem?_getD]
    · simp [hk]
  rw [hfnd]
  have m4 := (hb2.block _ (heap_lt j4)).trans j4
  have HB2 := Bas.hid (HB1.out.trans (hb2.mono HB1.out.size))
  have r0 := cell_of_heap (i := 0) (v := .slice none 0 0) m4 rfl
  have f0 := free_of_heap (i := 0) m4
  clear hb2 j4 HB1 HC1 hkA hkB hfnd HBS
  go_wp2_with (fail)
  refine bodyPost_ret (v := .tuple #[.agg #[.slice none 0 0], .bool false]) (by simp [results, Try.results19, go_sem, r0]) rfl ⟨rfl, by first | exact HB2.out | exact HB2.out.setCell (p := ⟨w.heap.size, 0, none⟩) (Nat.le_refl _) _⟩
end Fo
end Go.Proofs.Ytkmbeohheblhhaa
