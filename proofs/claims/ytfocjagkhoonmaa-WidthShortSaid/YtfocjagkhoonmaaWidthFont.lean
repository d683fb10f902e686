/- Layer 4's law: a font of some advances. -/
import Derived.Test.YtfocjagkhoonmaaFaceSpeak
namespace Go.Proofs.Ytfocjagkhoonmaa
open Go.RowKit
namespace Fo
open Vw Wr

def sHmtx : ByteArray := ⟨#[104, 109, 116, 120]⟩
def hmtxTo (A : List Int) (k : Nat) : List Int := (List.range k).flatMap fun i => putB (A.getD i 0) 2 ++ putB (i : Int) 2
def hmtxL (A : List Int) (more : Nat) : List Int := hmtxTo A A.length ++ zs (2 * more)
theorem hmtxTo_succ (A : List Int) (k : Nat) : hmtxTo A (k + 1) = hmtxTo A k ++ putB (A.getD k 0) 2 ++ putB (k : Int) 2 := by
  unfold hmtxTo; rw [List.range_succ, List.flatMap_append]; simp
theorem hmtxTo_len (A : List Int) : ∀ k, (hmtxTo A k).length = 4 * k
  | 0 => rfl
  | k + 1 => by rw [hmtxTo_succ, List.length_append, List.length_append, putB_len, putB_len, hmtxTo_len A k]; omega
theorem hmtxL_len (A : List Int) (more : Nat) : (hmtxL A more).length = 4 * A.length + 2 * more := by rw [hmtxL, List.length_append, hmtxTo_len, zs_len]
theorem hmtxTo_byte (A : List Int) (k : Nat) : ∀ x ∈ hmtxTo A k, 0 ≤ x ∧ x ≤ 255 := by
  intro x hx
  obtain ⟨i, _, hx⟩ := List.mem_flatMap.1 hx
  rcases List.mem_append.1 hx with hx | hx <;> exact putB_byte _ _ x hx
theorem hmtxL_byte (A : List Int) (more : Nat) : ∀ x ∈ hmtxL A more, 0 ≤ x ∧ x ≤ 255 := by
  intro x hx
  rcases List.mem_append.1 hx with hx | hx
  · exact hmtxTo_byte A _ x hx
  · exact zs_byte _ x hx

theorem ord4 : ordered [sMaxp, sHead, sHhea, sHmtx] ⟨#[]⟩ true [1, 2, 3, 0] := by
  refine ⟨?_, by decide, rfl, ?_, by decide, rfl, ?_, by decide, rfl, ?_, by decide, rfl, trivial⟩
  all_goals (simp [leastTo, leastStep, sMaxp, sHead, sHhea, sHmtx, bl_data, gt_data, Op.bytesLess])
theorem rise4 (d0 d1 d2 d3 : List Int) : ∀ (i j : Nat) p q, i < j → [(⟨sHead, d0⟩ : PartD), ⟨sHhea, d1⟩, ⟨sHmtx, d2⟩, ⟨sMaxp, d3⟩][i]? = some p → [(⟨sHead, d0⟩ : PartD), ⟨sHhea, d1⟩, ⟨sHmtx, d2⟩, ⟨sMaxp, d3⟩][j]? = some q → ltS p.tag q.tag = true := by
  intro i j p q hij hp hq
  have hj : j < 4 := (List.getElem?_eq_some_iff.1 hq).1
  rcases (by omega : (i = 0 ∧ j = 1) ∨ (i = 0 ∧ j = 2) ∨ (i = 0 ∧ j = 3) ∨ (i = 1 ∧ j = 2) ∨ (i = 1 ∧ j = 3) ∨ (i = 2 ∧ j = 3)) with ⟨rfl, rfl⟩ | ⟨rfl, rfl⟩ | ⟨rfl, rfl⟩ | ⟨rfl, rfl⟩ | ⟨rfl, rfl⟩ | ⟨rfl, rfl⟩
  all_goals (cases hp; cases hq; simp [sHead, sHhea, sHmtx, sMaxp, bl_data, Op.bytesLess])
theorem at4 (d0 d1 d2 d3 : List Int) (h0 : d0.length ≤ 100000) (h1 : d1.length ≤ 100000) (h2 : d2.length ≤ 100000) (h3 : d3.length ≤ 100000) (t0 t1 t2 t3 : ByteArray) : atM [⟨t0, d0⟩, ⟨t1, d1⟩, ⟨t2, d2⟩, ⟨t3, d3⟩] 4 ≤ 1000000 := by
  have p0 := pad4_le d0.length
  have p1 := pad4_le d1.length
  have p2 := pad4_le d2.length
  have p3 := pad4_le d3.length
  simp only [atM, List.length_cons, List.length_nil, List.take_succ_cons, List.take_zero, List.flatMap_cons, List.flatMap_nil, List.length_append, bodyM_len, List.length_nil]
  omega

/-- The parts of a font of advances, in order. -/
def widthP (g m : Int) (d : List Int) : List PartD := [⟨sHead, headL 1000⟩, ⟨sHhea, hheaL m⟩, ⟨sHmtx, d⟩, ⟨sMaxp, maxpL g⟩]

theorem make4 (v : Value) (g m : Int) (d : List Int) (w : World) (hin : PParts w v [⟨sMaxp, maxpL g⟩, ⟨sHead, headL 1000⟩, ⟨sHhea, hheaL m⟩, ⟨sHmtx, d⟩]) (hd : d.length ≤ 100000) (hb : ∀ x ∈ d, 0 ≤ x ∧ x ≤ 255) :
    Calls Try.prog 27 #[v] w fun e w' => ∃ g' cap bs, e = .returned (.slice (some ⟨g', 0, none⟩) bs.length cap) ∧ bs.length ≤ cap ∧ cap ≤ maxLen ∧ VB w' (some ⟨g', 0, none⟩) bs ∧ IsFont bs (widthP g m d) ∧ w'.ownsRow w.heap.size 5 1 (.slice (some ⟨g', 0, none⟩) bs.length cap) bs.length (bs.map (Value.int .u8)) ∧ Below w.heap.size w w' :=
  make_font v _ [1, 2, 3, 0] w hin (by simp) (by simp) rfl ord4 _ rfl (at4 _ _ _ _ (by rw [headL_len]; omega) (by rw [hheaL_len]; omega) hd (by rw [maxpL_len]; omega) _ _ _ _) (fun p hp => by
    simp only [List.mem_cons, List.not_mem_nil, or_false] at hp
    rcases hp with rfl | rfl | rfl | rfl
    · exact maxpL_byte g
    · exact headL_byte 1000
    · exact hheaL_byte m
    · exact hb) (rise4 _ _ _ _)

/-- Three parts that are the call's own, and one more behind them. -/
theorem own3_row {w : World} {base G : Nat} {t0 t1 t2 : ByteArray} {r0 r1 r2 : Value} {d0 d1 d2 : List Int} (h : Own3 w base G t0 t1 t2 r0 r1 r2 d0 d1 d2) : w.ownsRow base 71 2 (.slice (some ⟨G, 0, none⟩) 3 3) 3 [.string t0, r0, .string t1, r1, .string t2, r2] :=
  ⟨rfl, .inr ⟨G, 3, _, rfl, h.1, h.2.1, Nat.le_refl _, by unfold maxLen; omega, rfl, rfl⟩⟩

def u16C (x : Int) : List Value := [.int .u16 x]

set_option maxRecDepth 100000 in
set_option maxHeartbeats 8000000 in
theorem font_any (v : Value) (A : List Int) (more : Nat) (w : World) (hin : Row.Leads w v A.length (A.flatMap u16C)) (hA : ∀ x ∈ A, 0 ≤ x ∧ x ≤ 65535) (hn : A.length ≤ 200) (hmore : more ≤ 255) :
    Calls Try.prog 31 #[v, .int .i64 more, .slice none 0 0] w fun e w' => ∃ g' cap bs, e = .returned (.slice (some ⟨g', 0, none⟩) bs.length cap) ∧ bs.length ≤ cap ∧ cap ≤ maxLen ∧ VB w' (some ⟨g', 0, none⟩) bs ∧ IsFont bs (widthP ((A.length + more : Nat) : Int) (A.length : Nat) (hmtxL A more)) ∧ w'.ownsRow w.heap.size 5 1 (.slice (some ⟨g', 0, none⟩) bs.length cap) bs.length (bs.map (Value.int .u8)) ∧ Below w.heap.size w w' := by
  obtain ⟨ad, cp, rfl⟩ := Row.leads_slice hin
  have HIN := Bas.hid hin
  have HA := Bas.hid hA
  obtain ⟨n, hnn⟩ : ∃ n, A.length = n := ⟨_, rfl⟩
  have HN := Bas.hid hnn
  rw [hnn] at hn ⊢
  have HP := Bas.hid (fun w' => plain_any ((n : Int) + (more : Int)) 1000 n w' (by omega) (by omega) (by omega))
  have HB0 := Bas.hid (Below.refl w.heap.size w)
  clear hin hA hnn
  go_enter Try.func31, Try.ntmps31
  go_wp2_with (fail)
  go_loopw [7, 13] (fun vb vi wr => ∃ (i : Nat) (v7 : Value), i ≤ n ∧ vi = .int .i64 i ∧ v7 = vb ∧ wr.ownsRow w.heap.size 5 1 v7 (hmtxTo A i).length ((hmtxTo A i).map (Value.int .u8)) ∧ Below w.heap.size w wr) (fun _ vi _ => n - (intOf vi).toNat)
  case atStart => exact ⟨0, _, Nat.zero_le _, rfl, rfl, Row.owned_nil _ _ _ _, HB0.out⟩
  case round =>
    obtain ⟨i, v7, hi, rfl, hv7, hown, hb⟩ := hrel
    rw [← hv7]
    clear hv7
    have HO := Bas.hid hown
    have HB := Bas.hid hb
    have hil := hmtxTo_len A i
    have HIL := Bas.hid hil
    obtain ⟨bb, hbb⟩ : ∃ bb, hmtxTo A i = bb := ⟨_, rfl⟩
    rw [hbb] at HO hil
    have HBBE := Bas.hid hbb
    have hbbl : bb.length ≤ 800 := by omega
    clear hown hb hbb HB0
    by_cases hin : i < n
    · have e1 : decide ((i : Int) < (n : Int)) = true := by simp; omega
      have e2 : decide (i < n) = true := by simp; omega
      obtain ⟨x, hx⟩ : ∃ x, A[i]? = some x := ⟨_, List.getElem?_eq_getElem (by rw [HN.out]; exact hin)⟩
      obtain ⟨B, Of, cp0, hv0, hcl⟩ := Row.leads_elem (m := 1) (fun _ => rfl) HIN.out hx (by omega)
      cases hv0
      have h0 := hcl 0 _ rfl
      simp only [Nat.mul_one, Nat.add_zero] at h0
      have c0 := (HB.out.cell (p := ⟨B, Of + i, none⟩) (World.block_lt_of_cell? _ _ h0)).trans h0
      have hxb := HA.out x (List.mem_of_getElem? hx)
      have HNX : Hid (hmtxTo A (i + 1) = bb ++ putB x 2 ++ putB (i : Int) 2) := by
        unfold Hid; rw [hmtxTo_succ, HBBE.out, List.getD_eq_getElem?_getD, hx]; rfl
      obtain ⟨x0, x1⟩ := hxb
      clear hx hcl h0 hil
      go_wp2_with (fail)
      refine (put_any x 2 w.heap.size _ bb wr (by omega) (by omega) (by omega) (by omega) HB.out.size HO.out).mono ?_
      rintro e w1 ⟨v1, rfl, g1⟩
      have HB1 := Bas.hid (g1.below HB.out HB.out.size (fun g h => (Row.own_block HO.out h).1))
      clear c0
      go_wp2_with (fail)
      refine (put_any (i : Int) 2 w.heap.size _ _ w1 (by omega) (by omega) (by omega) (by rw [List.length_append, putB_len]; omega) HB1.out.size g1.own).mono ?_
      rintro e w2 ⟨v2, rfl, g2⟩
      have HB2 := Bas.hid (g2.below HB1.out HB1.out.size (fun g h => (Row.own_block g1.own h).1))
      have HO2 := Bas.hid g2.own
      clear g1 g2 HB1
      go_wp2_with (fail)
      go_roundw
      case rel => exact ⟨i + 1, _, by omega, by go_num, rfl, by rw [HNX.out]; exact HO2.out, HB2.out⟩
      case measure => simp [intOf]; omega
    · have hin2 : i = n := by omega
      subst hin2
      have HBF : Hid (hmtxL A more = bb ++ zs (2 * more)) := by unfold Hid; rw [hmtxL, HN.out, HBBE.out]
      have H2M : Hid (2 * (more : Int) = ((2 * more : Nat) : Int)) := by unfold Hid; omega
      have hO := HO.out
      go_wp2_with (at_builtin; refine Row.fence ?_)
      refine Row.unfence ?_
      refine (Row.append_zeros rfl _ _ 30 3 5 rfl (.int .u8 0) 1 .i64 .i64 Try.underlying30 Try.underlying3 info8 rfl rfl w.heap.size v7 bb.length _ rfl hO (2 * more) (congrArg (Value.int .i64) H2M.out) (by unfold maxLen; omega) (by omega) HB.out.size ?_)
      intro v8 x8 h81 h82 _ h83
      have g8 : Grown wr w.heap.size v7 (hmtxL A more) v8 x8 := ⟨by
        have hzr : (zs (2 * more)).map (Value.int .u8) = List.replicate (2 * more) (.int .u8 0) := by simp [zs]
        rw [HBF.out, List.map_append, List.length_append, hzr, zs_len]; exact h81, h82, h83.imp id fun h => ⟨_, h, Nat.le_refl _⟩⟩
      have HB8 := Bas.hid (g8.below HB.out HB.out.size (fun g h => (Row.own_block hO h).1))
      have HO8 := Bas.hid g8.own
      have hl8 := hmtxL_len A more
      obtain ⟨ad8, cp8, hv8⟩ := own_slice g8.own
      rw [hl8, HN.out] at hv8
      have HV8 := Bas.hid hv8
      clear h81 h82 h83 g8 hO HO HB hl8 H2M
      rw [hv8]
      clear hv8
      go_wp2_with (fail)
      refine (HP.out x8).mono ?_
      rintro e x9 ⟨G, r0, r1, r2, rfl, how, hb9⟩
      have HB9 := Bas.hid (HB8.out.trans (hb9.mono HB8.out.size))
      have HO9 := Bas.hid (Row.owned_below HO8.out hb9)
      have HW9 := Bas.hid how
      have HBS := Bas.hid HB8.out.size
      clear hb9 how HB8 HO8
      go_wp2_with (at_builtin; refine Row.fence ?_)
      refine Row.unfence ?_
      have hbX := (Below.refl x9.heap.size x9).alloc (Nat.le_refl _) (.cells #[.string sHmtx, .slice ad8 (4 * i + 2 * more) cp8] 71)
      have kX := Bas.heap_new x9 (.cells #[.string sHmtx, .slice ad8 (4 * i + 2 * more) cp8] 71)
      have HBX := Bas.hid (HB9.out.trans (hbX.mono HB9.out.size))
      have HOX := Bas.hid (Row.owned_below HO9.out hbX)
      have HWX : Hid (Own3 (x9.alloc (.cells #[.string sHmtx, .slice ad8 (4 * i + 2 * more) cp8] 71)) w.heap.size G sMaxp sHead sHhea r0 r1 r2 (maxpL ((i : Int) + more)) (headL 1000) (hheaL i)) := by
        obtain ⟨h1, h2, h3, h4, h5, h6⟩ := HW9.out
        exact ⟨Nat.le_trans HBS.out h1, (hbX.block _ (heap_lt h2)).trans h2, Row.owned_base (Row.owned_below h3 hbX) HBS.out, Row.owned_base (Row.owned_below h4 hbX) HBS.out, Row.owned_base (Row.owned_below h5 hbX) HBS.out, h6⟩
      rw [show (⟨#[104, 109, 116, 120]⟩ : ByteArray) = sHmtx from rfl]
      generalize x9.alloc (.cells #[.string sHmtx, .slice ad8 (4 * i + 2 * more) cp8] 71) = X at *
      clear hbX HB9 HO9 HW9
      have hOW := own3_row HWX.out
      refine (Row.append_any rfl _ _ 67 71 rfl (.agg #[.string ⟨#[]⟩, .slice none 0 0]) 2 40 Try.underlying67 infoP rfl (by decide) w.heap.size (.slice (some ⟨G, 0, none⟩) 3 3) 3 _ rfl hOW (.slice (some ⟨x9.heap.size, 0, none⟩) 1 1) 1 [.string sHmtx, .slice ad8 (4 * i + 2 * more) cp8] rfl (leads_heap kX) rfl (by simp; exact ⟨rfl, rfl⟩) (by unfold maxLen; omega) (by omega) HBX.out.size ?_)
      intro v11 x11 hown11 hg11 _
      obtain ⟨_, _, h3, h4, h5, _⟩ := HWX.out
      have hkeep : ∀ {u : Value} {xs : List Int}, X.ownsRow w.heap.size 5 1 u xs.length (xs.map (Value.int .u8)) → x11.ownsRow w.heap.size 5 1 u xs.length (xs.map (Value.int .u8)) := fun {u xs} h => Row.owned_keep h fun g hg => hg11.block g (Row.own_block h hg).2 (fun e => own_apart h hOW (by decide) g hg e.symm)
      have HR0 := Bas.hid (hkeep h3)
      have HR1 := Bas.hid (hkeep h4)
      have HR2 := Bas.hid (hkeep h5)
      have HR3 := Bas.hid (hkeep HOX.out)
      have HB11 := Bas.hid (HBX.out.grown hg11 HBX.out.size (fun g' hg' => (Row.own_block hOW hg').1))
      have HO11 := Bas.hid hown11
      obtain ⟨ad11, cp11, hv11⟩ := own_slice hown11
      subst hv11
      clear hown11 hg11 hOW h3 h4 h5 hkeep HOX HBX HWX kX
      go_wp2_with (at_builtin; refine Row.fence ?_)
      refine Row.unfence ?_
      refine (Row.append_any rfl _ _ 67 71 rfl (.agg #[.string ⟨#[]⟩, .slice none 0 0]) 2 40 Try.underlying67 infoP rfl (by decide) w.heap.size _ (3 + 1) _ rfl HO11.out (.slice none 0 0) 0 [] rfl (.inl ⟨rfl, rfl, rfl⟩) rfl (by simp) (by unfold maxLen; omega) (by omega) HB11.out.size ?_)
      intro v12 x12 hown12 hg12 _
      have hkeep : ∀ {u : Value} {xs : List Int}, x11.ownsRow w.heap.size 5 1 u xs.length (xs.map (Value.int .u8)) → x12.ownsRow w.heap.size 5 1 u xs.length (xs.map (Value.int .u8)) := fun {u xs} h => Row.owned_keep h fun g hg => hg12.block g (Row.own_block h hg).2 (fun e => own_apart h HO11.out (by decide) g hg e.symm)
      have hin4 : PParts x12 v12 [⟨sMaxp, maxpL ((i : Int) + more)⟩, ⟨sHead, headL 1000⟩, ⟨sHhea, hheaL i⟩, ⟨sHmtx, hmtxL A more⟩] := by
        refine ⟨[r0, r1, r2, v8], rfl, ?_, fun j c r hc hr => ?_⟩
        · have h := Row.leads_owned hown12
          rw [HV8.out]
          simpa [pC] using h
        · have hj : j < 4 := (List.getElem?_eq_some_iff.1 hc).1
          rcases (by omega : j = 0 ∨ j = 1 ∨ j = 2 ∨ j = 3) with rfl | rfl | rfl | rfl
          · cases hc; cases hr; rw [u8_flat]; exact Row.leads_owned (hkeep HR0.out)
          · cases hc; cases hr; rw [u8_flat]; exact Row.leads_owned (hkeep HR1.out)
          · cases hc; cases hr; rw [u8_flat]; exact Row.leads_owned (hkeep HR2.out)
          · cases hc; cases hr; rw [u8_flat]; exact Row.leads_owned (hkeep HR3.out)
      have HB12 := Bas.hid (HB11.out.grown hg12 HB11.out.size (fun g' hg' => (Row.own_block HO11.out hg').1))
      have HMK := Bas.hid (make4 v12 ((i : Int) + more) i (hmtxL A more) x12 hin4 (by rw [hmtxL_len, HN.out]; omega) (hmtxL_byte A more))
      obtain ⟨ad12, cp12, hv12⟩ := own_slice hown12
      subst hv12
      clear hown12 hg12 hkeep hin4 HR0 HR1 HR2 HR3 HB11 HO11
      go_wp2_with (fail)
      refine HMK.out.mono ?_
      rintro e x13 ⟨c, cap, bs, rfl, q1, q2, hv, hF, ho, hb13⟩
      have HB13 := Bas.hid (HB12.out.trans (hb13.mono HB12.out.size))
      have hcast : ((i + more : Nat) : Int) = (i : Int) + more := by omega
      have HFIN : Hid (bs.length ≤ cap ∧ cap ≤ maxLen ∧ VB x13 (some ⟨c, 0, none⟩) bs ∧ IsFont bs (widthP ((i + more : Nat) : Int) (i : Nat) (hmtxL A more)) ∧ x13.ownsRow w.heap.size 5 1 (.slice (some ⟨c, 0, none⟩) bs.length cap) bs.length (bs.map (Value.int .u8))) := ⟨q1, q2, hv, hcast ▸ hF, Row.owned_base ho HB12.out.size⟩
      clear q1 q2 hv hF ho hb13 HMK HB12 hcast
      go_wp2_with (fail)
      go_ret
      exact ⟨c, cap, bs, rfl, HFIN.out.1, HFIN.out.2.1, HFIN.out.2.2.1, HFIN.out.2.2.2.1, HFIN.out.2.2.2.2, HB13.out⟩
end Fo
end Go.Proofs.Ytfocjagkhoonmaa
