/- Layer 4 (width): the plain law of a font that was made. -/
import Derived.Test.YtfocjagkhoonmaaWidthGet
import Derived.Test.YtfocjagkhoonmaaNumB
namespace Go.Proofs.Ytfocjagkhoonmaa
open Go.RowKit
namespace Fo
open Vw Wr

theorem hmtxTo_split (A : List Int) (i : Nat) : ∀ k, i < k → ∃ post, hmtxTo A k = hmtxTo A i ++ (putB (A.getD i 0) 2 ++ (putB (i : Int) 2 ++ post))
  | 0, h => absurd h (Nat.not_lt_zero _)
  | k + 1, h => by
    rw [hmtxTo_succ]
    by_cases hk : i < k
    · obtain ⟨post, hp⟩ := hmtxTo_split A i k hk
      rw [hp]
      exact ⟨post ++ (putB (A.getD k 0) 2 ++ putB (k : Int) 2), by simp only [List.append_assoc]⟩
    · obtain rfl : i = k := by omega
      exact ⟨[], by simp only [List.append_assoc, List.append_nil]⟩
theorem getD_range {A : List Int} (hA : ∀ x ∈ A, 0 ≤ x ∧ x ≤ 65535) (i : Nat) : 0 ≤ A.getD i 0 ∧ A.getD i 0 ≤ 65535 := by
  rw [List.getD_eq_getElem?_getD]
  cases h : A[i]? with
  | none => simp
  | some x => exact hA x (List.mem_of_getElem? h)
theorem hmtx_adv (A : List Int) (more i : Nat) (hi : i < A.length) (hA : ∀ x ∈ A, 0 ≤ x ∧ x ≤ 65535) : be (hmtxL A more) (4 * i) 2 = A.getD i 0 := by
  obtain ⟨post, hp⟩ := hmtxTo_split A i A.length hi
  have h := getD_range hA i
  rw [hmtxL, hp, List.append_assoc, List.append_assoc]
  exact be_mid _ _ _ 2 _ (hmtxTo_len A i).symm (by omega) (by omega)
theorem hmtx_bea (A : List Int) (more i : Nat) (hi : i < A.length) (hn : A.length ≤ 200) : be (hmtxL A more) (4 * i + 2) 2 = (i : Int) := by
  obtain ⟨post, hp⟩ := hmtxTo_split A i A.length hi
  rw [hmtxL, hp, List.append_assoc, List.append_assoc, List.append_assoc, ← List.append_assoc]
  exact be_mid _ _ _ 2 _ (by rw [List.length_append, hmtxTo_len, putB_len]) (by omega) (by omega)
/-- The advance of a glyph of a font that was made: its own, or the last one. -/
theorem adv_made (A : List Int) (more i : Nat) (hA : ∀ x ∈ A, 0 ≤ x ∧ x ≤ 65535) (h1 : 1 ≤ A.length) (hi : i < A.length + more) : advL (A.length + more) A.length (hmtxL A more) (i : Int) = A.getD (min i (A.length - 1)) 0 := by
  rw [advL, if_pos (by omega)]
  by_cases h : (A.length : Int) - 1 < (i : Int)
  · rw [if_pos h, ← hmtx_adv A more _ (by omega) hA]; congr 1; omega
  · rw [if_neg h, ← hmtx_adv A more _ (by omega) hA]; congr 1; omega
theorem bea_made (A : List Int) (more i : Nat) (hn : A.length ≤ 200) (hi : i < A.length) : beaL (A.length + more) A.length (hmtxL A more) (i : Int) = i := by
  rw [beaL, if_pos (by omega), if_pos (by omega), show (4 * (i : Int) + 2).toNat = 4 * i + 2 by omega, hmtx_bea A more i hi hn]
  unfold s16; rw [if_neg (by omega)]
theorem adv_out (g m : Nat) (d : List Int) (id : Int) (h : id < 0 ∨ (g : Int) ≤ id) : advL g m d id = 0 := by rw [advL, if_neg (by omega)]

/-- A font that was made is read. -/
theorem wread_made (a : Option Addr) (cap : Nat) (bs : List Int) (A : List Int) (more : Nat) (w : World) (hl : bs.length ≤ cap) (hc : cap ≤ maxLen) (hv : VB w a bs) (hF : IsFont bs (widthP ((A.length + more : Nat) : Int) (A.length : Nat) (hmtxL A more))) (h1 : 1 ≤ A.length) (hn : A.length ≤ 200) (hm : more ≤ 255) :
    Calls Try.prog 30 #[.slice a bs.length cap] w (WReadF true (A.length + more) A.length (hmtxL A more) w) := by
  have hlen := hmtxL_len A more
  have h := wread_any a cap bs (A.length + more) A.length (4 * A.length + 2 * more) (hmtxL A more) w hl hc hv hF h1 (by omega) (by omega) (by omega)
  rw [hlen, decide_eq_true (Nat.le_refl _), List.take_of_length_le (by omega)] at h
  exact h

set_option maxRecDepth 100000 in
set_option maxHeartbeats 4000000 in
theorem wspeaks_any (w : World) : Calls Try.prog 29 #[] w fun e w' => e = .returned (.bool true) ∧ Below w.heap.size w w' := by
  have hA : ∀ x ∈ [(500 : Int), 600], 0 ≤ x ∧ x ≤ 65535 := by intro x hx; simp at hx; omega
  have HFT := Bas.hid (fun (v : Value) (w' : World) (h : Row.Leads w' v 2 [.int .u16 500, .int .u16 600]) => font_any v [500, 600] 1 w' h hA (by simp) (by omega))
  have HRD := Bas.hid (fun a cap bs (w' : World) hl hc hv hF => wread_made a cap bs [500, 600] 1 w' hl hc hv hF (by simp) (by simp) (by omega))
  have HA0 : Hid (advL ([500, 600].length + 1) [500, 600].length (hmtxL [500, 600] 1) 0 = 500) := adv_made [500, 600] 1 0 hA (by simp) (by simp)
  have HA2 : Hid (advL ([500, 600].length + 1) [500, 600].length (hmtxL [500, 600] 1) 2 = 600) := adv_made [500, 600] 1 2 hA (by simp) (by simp)
  have HA3 : Hid (advL ([500, 600].length + 1) [500, 600].length (hmtxL [500, 600] 1) 3 = 0) := adv_out _ _ _ _ (.inr (by simp))
  have HB1 : Hid (beaL ([500, 600].length + 1) [500, 600].length (hmtxL [500, 600] 1) 1 = 1) := bea_made [500, 600] 1 1 (by simp) (by simp)
  have HDL : Hid ((hmtxL [500, 600] 1).length = 4 * 2 + 2 * (3 - 2)) := hmtxL_len _ _
  simp only [List.length_cons, List.length_nil, Nat.zero_add, Nat.reduceAdd] at HRD HFT HA0 HA2 HA3 HB1
  generalize hmtxL [500, 600] 1 = d at *
  have HB0 := Bas.hid (Below.refl w.heap.size w)
  clear hA
  go_enter Try.func29, Try.ntmps29
  go_wp2_with (fail)
  have k0 := Bas.heap_new w (.cells #[.int .u16 500, .int .u16 600] 61)
  have HBA := Bas.hid (HB0.out.alloc HB0.out.size (.cells #[.int .u16 500, .int .u16 600] 61))
  generalize w.alloc (.cells #[.int .u16 500, .int .u16 600] 61) = W0 at *
  refine (HFT.out _ W0 ?_).mono ?_
  · refine .inr ⟨_, 2, rfl, fun j u hu => ?_⟩
    rw [Addr.add_lit, Nat.zero_add]
    exact cell_of_heap k0 (by simpa using hu)
  rintro e w1 ⟨G, cp, bs, rfl, h1, h2, hv, hF, -, hb1⟩
  have HR := Bas.hid (HRD.out _ cp bs w1 h1 h2 hv hF)
  have HB1' := Bas.hid (HBA.out.trans (hb1.mono HBA.out.size))
  clear hb1 hv hF HFT HRD h1 h2 HBA HB0
  go_wp2_with (fail)
  refine HR.out.mono ?_
  rintro e w2 ⟨hb2, p, rfl, hw⟩
  have HW2 := Bas.hid hw
  have HB2 := Bas.hid (HB1'.out.trans (hb2.mono HB1'.out.size))
  clear hb2 HR hw HB1'
  go_wp2_with (fail)
  refine (wadv_any w2 _ p 3 2 d 0 HW2.out HDL.out (by omega) (by omega) (by omega)).mono ?_
  rintro e w3 ⟨rfl, hb3⟩
  rw [HA0.out]
  have HW3 := Bas.hid (isW_below HW2.out hb3)
  have HB3 := Bas.hid (HB2.out.trans (hb3.mono HB2.out.size))
  clear hb3 HW2 HB2
  go_wp2_with (fail)
  refine (wadv_any w3 _ p 3 2 d 2 HW3.out HDL.out (by omega) (by omega) (by omega)).mono ?_
  rintro e w4 ⟨rfl, hb4⟩
  rw [HA2.out]
  have HW4 := Bas.hid (isW_below HW3.out hb4)
  have HB4 := Bas.hid (HB3.out.trans (hb4.mono HB3.out.size))
  clear hb4 HW3 HB3
  go_wp2_with (fail)
  refine (wadv_any w4 _ p 3 2 d 3 HW4.out HDL.out (by omega) (by omega) (by omega)).mono ?_
  rintro e w5 ⟨rfl, hb5⟩
  rw [HA3.out]
  have HW5 := Bas.hid (isW_below HW4.out hb5)
  have HB5 := Bas.hid (HB4.out.trans (hb5.mono HB4.out.size))
  clear hb5 HW4 HB4
  go_wp2_with (fail)
  refine (wbea_any w5 _ p 3 2 d 1 HW5.out HDL.out (by omega) (by omega) (by omega)).mono ?_
  rintro e w6 ⟨rfl, hb6⟩
  rw [HB1.out]
  have HW6 := Bas.hid (isW_below HW5.out hb6)
  have HB6 := Bas.hid (HB5.out.trans (hb6.mono HB5.out.size))
  clear hb6 HW5 HB5
  go_wp2_with (fail)
  refine (wface_any w6 _ p 3 2 d HW6.out).mono ?_
  rintro e w7 ⟨rfl, hb7⟩
  have HB7 := Bas.hid (HB6.out.trans (hb7.mono HB6.out.size))
  clear hb7 HW6 HB6
  go_wp2_with (fail)
  go_ret
  exact ⟨rfl, HB7.out⟩
end Fo
end Go.Proofs.Ytfocjagkhoonmaa
