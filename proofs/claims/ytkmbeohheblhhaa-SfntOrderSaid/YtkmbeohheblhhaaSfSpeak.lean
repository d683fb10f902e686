/- Layer 2: what the law asks first; parts that are too large. -/
import Derived.Test.YtkmbeohheblhhaaSfOrdL
import Derived.Test.YtkmbeohheblhhaaFontLook
import Derived.Test.YtkmbeohheblhhaaViewLen
import Derived.Test.YtkmbeohheblhhaaRegDX
namespace Go.Proofs.Ytkmbeohheblhhaa
open Go.RowKit
namespace Sy
open Fo Vw Wr

theorem makeM_len (P : List PartD) (a b : Int) (h : ∀ p ∈ P, p.tag.size = 4) : (makeM P a b).length = 12 + 16 * P.length + (P.flatMap bodyM).length := by
  rw [makeM, List.length_append, List.length_append, headM_len, rowsM_len P h]
theorem makeM_byte (P : List PartD) (a b : Int) (h : ∀ p ∈ P, ∀ x ∈ p.data, 0 ≤ x ∧ x ≤ 255) : ∀ x ∈ makeM P a b, 0 ≤ x ∧ x ≤ 255 := by
  intro x hx
  rcases List.mem_append.1 hx with hx | hx
  · rcases List.mem_append.1 hx with hx | hx
    · simp only [headM, List.mem_append] at hx
      rcases hx with (((hx | hx) | hx) | hx) | hx <;> exact putB_byte _ _ x hx
    · exact rowsM_byte _ _ x hx
  · obtain ⟨p, hp, hx⟩ := List.mem_flatMap.1 hx
    exact bodyM_byte p (h p hp) x hx

/-- What is made of parts, or nothing. -/
def OutM (n : Nat) (D : Nat → Pt) (dat : Sl → List Int) (bs : List Int) : Prop := ∃ (E : Nat → Pt) (ys : List Pt), Is n ys E ∧ Srt ltP E 0 n ∧ Pm 0 n D E ∧ (okE E n ∧ bs = makeM (ys.map (pdOf dat)) (nearN n) (mostN n) ∨ ¬ okE E n ∧ bs = [])
def Outs (n : Nat) (D : Nat → Pt) (dat : Sl → List Int) (v : Value) (u : World) : Prop := ∃ a cap bs, v = .slice a bs.length cap ∧ bs.length ≤ cap ∧ cap ≤ maxLen ∧ VB u a bs ∧ OutM n D dat bs
theorem Outs.below {n : Nat} {D : Nat → Pt} {dat : Sl → List Int} {v : Value} {u u' : World} (h : Outs n D dat v u) (hb : Below u.heap.size u u') : Outs n D dat v u' := by
  obtain ⟨a, cap, bs, h1, h2, h3, h4, h5⟩ := h
  exact ⟨a, cap, bs, h1, h2, h3, h4.below hb, h5⟩

theorem smake_out (v : Value) (xs : List Pt) (dat : Sl → List Int) (D : Nat → Pt) (n : Nat) (w : World) (hl : Row.Leads w v n (xs.flatMap ptC)) (hxs : Is n xs D) (hn : n ≤ 30) (hdat : Bytes w xs dat) :
    Calls Try.prog 11 #[v] w fun e w' => ∃ u, e = .returned u ∧ Below w.heap.size w w' ∧ Outs n D dat u w' := by
  have hC : Calls Try.prog 11 #[v] w (MkP n D dat w) := by
    by_cases hn0 : 0 < n
    · exact smake_any v xs dat D n w hl hxs hn hn0 hdat
    · obtain rfl : n = 0 := by omega
      have : xs = [] := List.length_eq_zero_iff.1 hxs.1
      subst this
      exact smake_zero v dat D w hl
  refine hC.mono ?_
  rintro e w' ⟨E, ys, h1, h2, h3, h4, ⟨h5, u, rfl, h6⟩ | ⟨h5, rfl⟩⟩
  · obtain ⟨q1, q2, q3, q4, q5, q6, q7⟩ := mk_facts h1 hxs h3 h5 hn hdat
    have hby : ∀ p ∈ ys.map (pdOf dat), ∀ x ∈ p.data, 0 ≤ x ∧ x ≤ 255 := fun p hp => by
      rw [q4] at hp
      obtain ⟨x, hx, rfl⟩ := List.mem_map.1 hp
      obtain ⟨j, hj⟩ := List.getElem?_of_mem hx
      exact (q6 j x hj).2
    have hlen := makeM_len (ys.map (pdOf dat)) (nearN n) (mostN n) q5
    have hat : (makeM (ys.map (pdOf dat)) (nearN n) (mostN n)).length ≤ 1000000 := by
      rw [hlen]
      unfold atM at q7
      rw [List.take_length] at q7
      omega
    obtain ⟨g, cap, rfl, e1, e2, e3⟩ := Fo.written h6 (by omega) (makeM_byte _ _ _ hby) (by omega)
    exact ⟨_, rfl, h4, _, cap, _, rfl, e1, e2, e3, E, ys, h1, h2, h3, .inl ⟨h5, rfl⟩⟩
  · exact ⟨_, rfl, h4, none, 0, [], rfl, Nat.le_refl _, by unfold maxLen; omega, ⟨by simp, by simp, by simp⟩, E, ys, h1, h2, h3, .inr ⟨h5, rfl⟩⟩

def sAbcd : ByteArray := ⟨#[97, 98, 99, 100]⟩
def sAbce : ByteArray := ⟨#[97, 98, 99, 101]⟩
/-- The plain font of one table. -/
theorem one_font {D : Nat → Pt} {bs : List Int} (h : OutM 1 D (fun _ => [1]) bs) (hD : (D 0).1 = sAbcd) : IsFont bs [⟨sAbcd, [1]⟩] ∧ bs.length = 32 := by
  obtain ⟨E, ys, h1, h2, h3, h4⟩ := h
  obtain ⟨j, hj1, hj2, hj3⟩ := h3.inn (i := 0) (Nat.le_refl _) (by omega)
  obtain rfl : j = 0 := by omega
  have hE : (E 0).1 = sAbcd := by rw [hj3]; exact hD
  have hok : okE E 1 := fun i hi => by
    obtain rfl : i = 0 := by omega
    rw [hE]
    exact ⟨rfl, fun h => by omega⟩
  rcases h4 with ⟨_, rfl⟩ | ⟨h, _⟩
  · have hys : ys = [E 0] := by
      have := range_is h1
      simpa using this
    have hP : ys.map (pdOf fun _ => [1]) = [⟨sAbcd, [1]⟩] := by rw [hys]; simp [pdOf, hE]
    rw [hP]
    have hsz : ∀ p ∈ [(⟨sAbcd, [1]⟩ : PartD)], p.tag.size = 4 := fun p hp => by
      rw [List.mem_singleton] at hp; subst hp; rfl
    refine ⟨makeM_font _ _ _ (by simp) hsz (fun p hp x hx => ?_) (by simp [atM, bodyM, pad4]) (fun i j p q hij hp hq => ?_), ?_⟩
    · rw [List.mem_singleton] at hp; subst hp
      rw [List.mem_singleton] at hx; subst hx
      omega
    · have := (List.getElem?_eq_some_iff.1 hq).1
      simp at this
      omega
    · rw [makeM_len _ _ _ hsz]; simp [bodyM, pad4]
  · exact absurd hok h

set_option maxRecDepth 100000 in
set_option maxHeartbeats 8000000 in
theorem sspeaks_any (w : World) : Calls Try.prog 9 #[] w fun e w' => e = .returned (.bool true) ∧ Below w.heap.size w w' := by
  have hb1 := (Below.refl w.heap.size w).alloc (Nat.le_refl _) (.cells #[.int .u8 1] 5)
  have k1 := Bas.heap_new w (.cells #[.int .u8 1] 5)
  obtain ⟨w1, hw1⟩ : ∃ w1, w.alloc (.cells #[.int .u8 1] 5) = w1 := ⟨_, rfl⟩
  have hsz : w1.heap.size = w.heap.size + 1 := by rw [← hw1]; simp
  rw [hw1] at hb1 k1
  have hb2 := (Below.refl w1.heap.size w1).alloc (Nat.le_refl _) (.cells #[.string ⟨#[97, 98, 99, 100]⟩, .slice (some ⟨w.heap.size, 0, none⟩) 1 1] 37)
  have k2 := Bas.heap_new w1 (.cells #[.string ⟨#[97, 98, 99, 100]⟩, .slice (some ⟨w.heap.size, 0, none⟩) 1 1] 37)
  rw [hsz] at k2
  have k3 := (hb2.block _ (heap_lt k1)).trans k1
  have HB2 := Bas.hid (hb1.trans (hb2.mono hb1.size))
  have hIs : Is 1 [(sAbcd, ((some ⟨w.heap.size, 0, none⟩ : Option Addr), 1, 1))] (fun _ => (sAbcd, (some ⟨w.heap.size, 0, none⟩, 1, 1))) := ⟨rfl, fun i hi => by
    obtain rfl : i = 0 := by omega
    rfl⟩
  have HMK := Bas.hid (smake_out (.slice (some ⟨w.heap.size + 1, 0, none⟩) 1 1) [(sAbcd, (some ⟨w.heap.size, 0, none⟩, 1, 1))] (fun _ => [1]) (fun _ => (sAbcd, (some ⟨w.heap.size, 0, none⟩, 1, 1))) 1 _ (leads_heap k2) hIs (by omega) (fun p hp => by
    rw [List.mem_singleton] at hp
    subst hp
    exact ⟨leads_heap k3, fun x hx => by rw [List.mem_singleton] at hx; subst hx; omega, by simp⟩))
  rw [← hw1] at HB2 HMK
  clear hb1 hb2 k1 k2 k3 hsz hw1 hIs
  go_enter Try.func9, Try.ntmps9
  go_wp2_with (fail)
  refine HMK.out.mono ?_
  rintro e w2 ⟨u, rfl, hb3, a, cap, bs, rfl, hbc, hcm, hvb, hout⟩
  obtain ⟨hF, hbl⟩ := one_font hout rfl
  have HB3 := Bas.hid (HB2.out.trans (hb3.mono HB2.out.size))
  have HTB := Bas.hid (tables_ok a bs.length cap bs _ w2 hbc hcm hvb rfl hF)
  have HFY := Bas.hid (fun w' (hb : Below w2.heap.size w2 w') => find_yes a bs.length cap bs _ sAbcd 0 ⟨sAbcd, [1]⟩ rfl rfl w' hbc hcm (hvb.below hb) rfl hF)
  have HFN := Bas.hid (fun w' (hb : Below w2.heap.size w2 w') => find_no a bs.length cap bs [⟨sAbcd, [1]⟩] sAbce (by simp) (fun p hp => by rw [List.mem_singleton] at hp; subst hp; simp [sAbcd, sAbce]) w' hbc hcm (hvb.below hb) rfl hF)
  have hat : atM [(⟨sAbcd, [1]⟩ : PartD)] 0 = 28 := by simp [atM]
  rw [hbl] at HTB HFY HFN
  rw [hbl]
  have hts : (tabsM [(⟨sAbcd, [1]⟩ : PartD)]).flatMap tabC = [.string sAbcd, .int .i64 28, .int .i64 1] := by simp [tabsM, tabC, tabAt, atM]
  rw [hts] at HTB
  rw [hat] at HFY
  clear hb3 hvb hout hF hbl hat hts HMK HB2
  go_wp2_with (fail)
  refine HTB.out.mono ?_
  rintro e w4 ⟨hb4, v4, rfl, ho4⟩
  obtain ⟨a4, c4, rfl⟩ := own_slice ho4
  have HO4 := Bas.hid ho4
  have HB4 := Bas.hid (HB3.out.trans (hb4.mono HB3.out.size))
  have HB24 := Bas.hid hb4
  clear hb4 ho4 HTB
  go_wp2_with (fail)
  refine (HFY.out w4 HB24.out).mono ?_
  rintro e w5 ⟨rfl, hb5⟩
  have HB5 := Bas.hid (HB4.out.trans (hb5.mono HB4.out.size))
  have HB25 := Bas.hid (HB24.out.trans (hb5.mono HB24.out.size))
  have HO5 := Bas.hid (Row.owned_below HO4.out hb5)
  clear hb5 HFY
  go_wp2_with (fail)
  have hb6 := (Below.refl w5.heap.size w5).alloc (Nat.le_refl _) (.cells #[.slice (sub a 28 1) 1 1] 48)
  have k6 := Bas.heap_new w5 (.cells #[.slice (sub a 28 1) 1 1] 48)
  have HB6 := Bas.hid (HB5.out.trans (hb6.mono HB5.out.size))
  have HB26 := Bas.hid (HB25.out.trans (hb6.mono HB25.out.size))
  have HO6 := Bas.hid (Row.owned_below HO5.out hb6)
  generalize w5.alloc (.cells #[.slice (sub a 28 1) 1 1] 48) = w6 at *
  generalize w5.heap.size = T6 at *
  clear hb6
  refine (HFN.out w6 HB26.out).mono ?_
  rintro e w7 ⟨rfl, hb7⟩
  have HB7 := Bas.hid (HB6.out.trans (hb7.mono HB6.out.size))
  have k7 := (hb7.block _ (heap_lt k6)).trans k6
  have HO7 := Row.owned_below HO6.out hb7
  have HB8 := Bas.hid (HB7.out.alloc HB7.out.size (.cells #[.slice none 0 0] 48))
  have hb8 := (Below.refl w7.heap.size w7).alloc (Nat.le_refl _) (.cells #[.slice none 0 0] 48)
  have k8 := (hb8.block _ (heap_lt k7)).trans k7
  have ho8 := Row.owned_below HO7 hb8
  clear hb7 HFN k6 k7 HO7
  have hl8 := Row.leads_owned ho8
  obtain ⟨bo, o8, c8, hv8, hcell⟩ := Row.leads_elem (f := fun _ : Unit => [Value.string sAbcd, .int .i64 28, .int .i64 1]) (m := 3) (fun _ => rfl) (l := [()]) hl8 (i := 0) rfl (by omega)
  cases hv8
  have p0 := hcell 0 _ rfl
  have p1 := hcell 1 _ rfl
  have p2 := hcell 2 _ rfl
  have v0 := cell_of_heap (i := 0) (v := .slice (sub a 28 1) 1 1) k8 rfl
  simp only [Nat.zero_mul, Nat.add_zero, sAbcd] at p0 p1 p2
  have hst : ((⟨#[97, 98, 99, 100]⟩ : ByteArray).toList == (⟨#[97, 98, 99, 100]⟩ : ByteArray).toList) = true := by simp
  go_wp2_with (fail)
  refine (len_any _ _ _ _).mono ?_
  rintro e w9 ⟨rfl, hb9⟩
  have HB9 := Bas.hid (HB8.out.trans (hb9.mono HB8.out.size))
  clear hb9 p0 p1 p2 v0 k8 hl8 ho8 hcell hb8
  go_wp2_with (fail)
  go_ret
  exact ⟨rfl, HB9.out⟩

def BigP (n : Nat) (D : Nat → Pt) (w : World) (e : Ending) (w' : World) : Prop := ∃ b : Bool, e = .returned (.bool b) ∧ Below w.heap.size w w' ∧ (b = false → n ≤ 30 ∧ ∀ i, i < n → (D i).1.size ≤ 100 ∧ (D i).2.2.1 ≤ 1000)

set_option maxRecDepth 100000 in
set_option maxHeartbeats 8000000 in
theorem big_any (ad : Option Addr) (n cap : Nat) (xs : List Pt) (D : Nat → Pt) (w : World) (hl : Row.Leads w (.slice ad n cap) n (xs.flatMap ptC)) (hxs : Is n xs D) (hn : n ≤ 9223372036854775807) (hsz : ∀ i, i < n → (D i).1.size ≤ 9223372036854775807 ∧ (D i).2.2.1 ≤ 9223372036854775807) :
    Calls Try.prog 10 #[.slice ad n cap] w (BigP n D w) := by
  have HL := Bas.hid hl
  have HX := Bas.hid hxs
  have HSZ := Bas.hid hsz
  have HB0 := Bas.hid (Below.refl w.heap.size w)
  clear hl hxs hsz
  by_cases h30 : 30 < n
  · have e1 : decide ((n : Int) > 30) = true := by simp; omega
    have e2 : decide ((30 : Int) < (n : Int)) = true := by simp; omega
    have e3 : decide (30 < n) = true := by simp; omega
    go_enter Try.func10, Try.ntmps10
    go_wp2_with (fail)
    go_ret
    exact ⟨true, rfl, HB0.out, fun h => by cases h⟩
  have e1 : decide ((n : Int) > 30) = false := by simp; omega
  have e2 : decide ((30 : Int) < (n : Int)) = false := by simp; omega
  have e3 : decide (30 < n) = false := by simp; omega
  go_enter Try.func10, Try.ntmps10
  go_wp2_with (fail)
  go_loopw [10] (fun vi wr => ∃ i : Nat, i ≤ n ∧ vi = .int .i64 i ∧ (∀ j, j < i → (D j).1.size ≤ 100 ∧ (D j).2.2.1 ≤ 1000) ∧ Below w.heap.size w wr) (fun vi _ => n - (intOf vi).toNat)
  case atStart => exact ⟨0, Nat.zero_le _, rfl, fun j hj => by omega, HB0.out⟩
  case round =>
    obtain ⟨i, hi, rfl, hj, hb⟩ := hrel
    have HJ := Bas.hid hj
    have HB := Bas.hid hb
    clear hj hb
    by_cases hin : i < n
    · have f1 : decide ((i : Int) < (n : Int)) = true := by simp; omega
      have f2 : decide (i < n) = true := by simp; omega
      obtain ⟨bo, o, c, hv, hcell⟩ := Row.leads_elem ptC_len (Row.leads_below HL.out HB.out) (HX.out.2 i hin) (by omega)
      cases hv
      have p0 := hcell 0 _ rfl
      have p1 := hcell 1 _ rfl
      obtain ⟨hs1, hs2⟩ := HSZ.out i hin
      obtain ⟨⟨s0, x0, l0, k0⟩, hd0⟩ : ∃ p, D i = p := ⟨_, rfl⟩
      rw [hd0] at p0 p1 hs1 hs2
      have HD0 := Bas.hid hd0
      simp only [Nat.add_zero] at p0 p1 hs1 hs2
      have HB2 := Bas.hid (HB.out.alloc HB.out.size (.cells #[.string s0, .slice x0 l0 k0] 37))
      have k2 := Bas.heap_new wr (.cells #[.string s0, .slice x0 l0 k0] 37)
      have q0 := cell_of_heap (i := 0) (v := .string s0) k2 rfl
      have q1 := cell_of_heap (i := 1) (v := .slice x0 l0 k0) k2 rfl
      clear hcell hd0
      by_cases ha : 100 < s0.size
      · have g1 : decide ((s0.size : Int) > 100) = true := by simp; omega
        have g2 : decide ((100 : Int) < (s0.size : Int)) = true := by simp; omega
        have g3 : decide (100 < s0.size) = true := by simp; omega
        go_wp2_with (fail)
        go_ret
        exact ⟨true, rfl, HB2.out, fun h => by cases h⟩
      · have g1 : decide ((s0.size : Int) > 100) = false := by simp; omega
        have g2 : decide ((100 : Int) < (s0.size : Int)) = false := by simp; omega
        have g3 : decide (100 < s0.size) = false := by simp; omega
        by_cases hb : 1000 < l0
        · have g4 : decide ((l0 : Int) > 1000) = true := by simp; omega
          have g5 : decide ((1000 : Int) < (l0 : Int)) = true := by simp; omega
          have g6 : decide (1000 < l0) = true := by simp; omega
          go_wp2_with (fail)
          go_ret
          exact ⟨true, rfl, HB2.out, fun h => by cases h⟩
        · have g4 : decide ((l0 : Int) > 1000) = false := by simp; omega
          have g5 : decide ((1000 : Int) < (l0 : Int)) = false := by simp; omega
          have g6 : decide (1000 < l0) = false := by simp; omega
          go_wp2_with (fail)
          go_roundw
          case rel => exact ⟨i + 1, by omega, by go_num, fun j hj => by
            by_cases hji : j = i
            · subst hji; rw [HD0.out]; exact ⟨by show s0.size ≤ 100; omega, by show l0 ≤ 1000; omega⟩
            · exact HJ.out j (by omega), HB2.out⟩
          case measure => simp [intOf]; omega
    · obtain rfl : n = i := by omega
      have f1 : decide ((n : Int) < (n : Int)) = false := by simp
      go_wp2_with (fail)
      go_ret
      exact ⟨false, rfl, HB.out, fun _ => ⟨by omega, HJ.out⟩⟩
end Sy
end Go.Proofs.Ytkmbeohheblhhaa
