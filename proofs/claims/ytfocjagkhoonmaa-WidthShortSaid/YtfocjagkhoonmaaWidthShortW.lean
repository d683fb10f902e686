/- The walk of the law WidthShort. -/
import Derived.Test.YtfocjagkhoonmaaWidthLastW
namespace Go.Proofs.Ytfocjagkhoonmaa
open Go.RowKit
namespace Fo
open Vw Wr

def shTo (A : List Int) (k : Nat) : List Int := (List.range k).flatMap fun i => putB (A.getD i 0) 2 ++ putB 3 2
theorem shTo_succ (A : List Int) (k : Nat) : shTo A (k + 1) = shTo A k ++ putB (A.getD k 0) 2 ++ putB 3 2 := by
  unfold shTo; rw [List.range_succ, List.flatMap_append]; simp
theorem shTo_len (A : List Int) : ∀ k, (shTo A k).length = 4 * k
  | 0 => rfl
  | k + 1 => by rw [shTo_succ, List.length_append, List.length_append, putB_len, putB_len, shTo_len A k]; omega
def shL (A : List Int) (n : Nat) : List Int := shTo A A.length ++ zs (2 * n + 2)
theorem shL_len (A : List Int) (n : Nat) : (shL A n).length = 4 * A.length + 2 * n + 2 := by rw [shL, List.length_append, shTo_len, zs_len]; omega
theorem shL_byte (A : List Int) (n : Nat) : ∀ x ∈ shL A n, 0 ≤ x ∧ x ≤ 255 := by
  intro x hx
  rcases List.mem_append.1 hx with hx | hx
  · obtain ⟨i, _, hx⟩ := List.mem_flatMap.1 hx
    rcases List.mem_append.1 hx with hx | hx <;> exact putB_byte _ _ x hx
  · exact zs_byte _ x hx
theorem shTo_head (A : List Int) : ∀ k, ∃ post, shTo A (k + 1) = putB (A.getD 0 0) 2 ++ post
  | 0 => ⟨putB 3 2, rfl⟩
  | k + 1 => by
    obtain ⟨post, hp⟩ := shTo_head A k
    rw [shTo_succ, hp]
    exact ⟨post ++ (putB (A.getD (k + 1) 0) 2 ++ putB 3 2), by simp only [List.append_assoc]⟩
theorem sh_first (A : List Int) (n : Nat) (h1 : 1 ≤ A.length) (hA : ∀ x ∈ A, 0 ≤ x ∧ x ≤ 65535) : be (shL A n) 0 2 = A.getD 0 0 := by
  obtain ⟨post, hp⟩ := shTo_head A (A.length - 1)
  rw [show A.length - 1 + 1 = A.length by omega] at hp
  have h := getD_range hA 0
  rw [shL, hp, List.append_assoc]
  exact be_mid [] _ _ 2 0 rfl (by omega) (by omega)
theorem leads_take {w : World} {ad : Option Addr} {n cp k : Nat} {xs : List Value} (h : Row.Leads w (.slice ad n cp) n xs) (hk : k ≤ n) (hx : xs.length = n) (hn : 1 ≤ n) : Row.Leads w (.slice ad k cp) k (xs.take k) := by
  rcases h with ⟨h, _, _⟩ | ⟨x, c, h, hc⟩
  · cases h; omega
  · cases h
    refine .inr ⟨x, cp, rfl, fun j u hu => hc j u ?_⟩
    by_cases hj : j < k
    · rwa [List.getElem?_take_of_lt hj] at hu
    · rw [List.getElem?_take_eq_none (by omega)] at hu; cases hu

theorem own3_under {w w' : World} {base base' G : Nat} {t0 t1 t2 : ByteArray} {r0 r1 r2 : Value} {d0 d1 d2 : List Int} (h : Own3 w base G t0 t1 t2 r0 r1 r2 d0 d1 d2) (hbb : base' ≤ base) (hb : Below w.heap.size w w') : Own3 w' base' G t0 t1 t2 r0 r1 r2 d0 d1 d2 := by
  obtain ⟨h1, h2, h3, h4, h5, h6⟩ := h
  exact ⟨Nat.le_trans hbb h1, (hb.block _ (heap_lt h2)).trans h2, Row.owned_base (Row.owned_below h3 hb) hbb, Row.owned_base (Row.owned_below h4 hb) hbb, Row.owned_base (Row.owned_below h5 hb) hbb, h6⟩

set_option maxRecDepth 100000 in
set_option maxHeartbeats 16000000 in
theorem widthShort_walk (a : Option Addr) (len cap : Nat) (zs0 : List Int) (more cut : Int) (w : World) (hr : Bas.IsRow .u16 w a len cap zs0) (hm : (Lit.int .u8 more).wf = true) (hc : (Lit.int .u8 cut).wf = true) :
    Calls Try.prog 12 #[.slice a len cap, .int .u8 more, .int .u8 cut] w fun e w' => e = .returned (.bool true) ∧ Below w.heap.size w w' := by
  obtain ⟨A, hA, hL, hR⟩ := row_u16 hr
  obtain ⟨m0, m1⟩ := Bas.wf_u8 hm
  obtain ⟨c0, c1⟩ := Bas.wf_u8 hc
  have HLD := Bas.hid hL
  have HA := Bas.hid hA
  have HR := Bas.hid hR
  have HB0 := Bas.hid (Below.refl w.heap.size w)
  clear hr hm hL hR hA hc zs0
  obtain ⟨n, hn⟩ : ∃ n : Nat, more.tmod 50 = (n : Int) := ⟨(more % 50).toNat, by rw [Int.tmod_eq_emod_of_nonneg m0]; omega⟩
  have hn50 : n < 50 := by rw [Int.tmod_eq_emod_of_nonneg m0] at hn; omega
  obtain ⟨r, hrr⟩ : ∃ r : Nat, cut.tmod (2 * (n : Int) + 7) = (r : Int) := ⟨(cut.tmod (2 * (n : Int) + 7)).toNat, by rw [Int.tmod_eq_emod_of_nonneg c0]; have := Int.emod_nonneg cut (b := 2 * (n : Int) + 7) (by omega); omega⟩
  have hr7 : r < 2 * n + 7 := by rw [Int.tmod_eq_emod_of_nonneg c0] at hrr; have := Int.emod_lt_of_pos cut (b := 2 * (n : Int) + 7) (by omega); omega
  go_enter Try.func12, Try.ntmps12
  go_wp2_with (fail)
  refine (wspeaks_any w).mono ?_
  rintro e w1 ⟨rfl, hb1⟩
  have HB1 := Bas.hid hb1
  clear hb1 HB0
  by_cases h0 : len = 0
  · have e1 : decide ((len : Int) = 0) = true := by simp; omega
    have e2 : ((len : Int) == 0) = true := by simp; omega
    have HLN := Bas.hid h0
    clear h0
    go_wp2_with (fail)
    go_ret
    exact ⟨rfl, HB1.out⟩
  have e1 : ((len : Int) == 0) = false := by simp; omega
  have HL1 : Hid (1 ≤ len) := by unfold Hid; omega
  by_cases h2 : 200 < len
  · have e2 : decide ((len : Int) > 200) = true := by simp; omega
    have e3 : decide (200 < (len : Int)) = true := by simp; omega
    clear h0 h2
    go_wp2_with (fail)
    go_ret
    exact ⟨rfl, HB1.out⟩
  have e2 : decide ((len : Int) > 200) = false := by simp; omega
  have e3 : decide (200 < (len : Int)) = false := by simp; omega
  have hl200 : len ≤ 200 := by omega
  clear h0 h2
  go_wp2_with (fail)
  go_loopw [8, 30] (fun vb vi wr => ∃ (i : Nat) (v7 : Value), i ≤ len ∧ vi = .int .i64 i ∧ v7 = vb ∧ wr.ownsRow w.heap.size 5 1 v7 (shTo A i).length ((shTo A i).map (Value.int .u8)) ∧ Below w.heap.size w wr) (fun _ vi _ => len - (intOf vi).toNat)
  case atStart => exact ⟨0, _, Nat.zero_le _, rfl, rfl, Row.owned_nil _ _ _ _, HB1.out⟩
  case round =>
    obtain ⟨i, v7, hi, rfl, hv7, hown, hb⟩ := hrel
    rw [← hv7]
    clear hv7
    have HO := Bas.hid hown
    have HB := Bas.hid hb
    have hil := shTo_len A i
    have HIL := Bas.hid hil
    obtain ⟨bb, hbb⟩ : ∃ bb, shTo A i = bb := ⟨_, rfl⟩
    rw [hbb] at HO hil
    have HBBE := Bas.hid hbb
    have hbbl : bb.length ≤ 800 := by omega
    clear hown hb hbb HB1
    by_cases hin : i < len
    · have f1 : decide ((i : Int) < (len : Int)) = true := by simp; omega
      have f2 : decide (i < len) = true := by simp; omega
      obtain ⟨x, hx⟩ : ∃ x, A[i]? = some x := ⟨_, List.getElem?_eq_getElem (by rw [HA.out]; exact hin)⟩
      obtain ⟨B, Of, cp0, hv0, hcl⟩ := Row.leads_elem (m := 1) (fun _ => rfl) HLD.out hx (by omega)
      cases hv0
      have h0 := hcl 0 _ rfl
      simp only [Nat.mul_one, Nat.add_zero] at h0
      have c0 := (HB.out.cell (p := ⟨B, Of + i, none⟩) (World.block_lt_of_cell? _ _ h0)).trans h0
      have hxb := HR.out x (List.mem_of_getElem? hx)
      have HNX : Hid (shTo A (i + 1) = bb ++ putB x 2 ++ putB 3 2) := by
        unfold Hid; rw [shTo_succ, HBBE.out, List.getD_eq_getElem?_getD, hx]; rfl
      obtain ⟨x0, x1⟩ := hxb
      clear hx hcl h0 hil
      go_wp2_with (fail)
      refine (put_any x 2 w.heap.size _ bb wr (by omega) (by omega) (by omega) (by omega) HB.out.size HO.out).mono ?_
      rintro e w1 ⟨v1, rfl, g1⟩
      have HB1 := Bas.hid (g1.below HB.out HB.out.size (fun g h => (Row.own_block HO.out h).1))
      clear c0
      go_wp2_with (fail)
      refine (put_any 3 2 w.heap.size _ _ w1 (by omega) (by omega) (by omega) (by rw [List.length_append, putB_len]; omega) HB1.out.size g1.own).mono ?_
      rintro e w2 ⟨v2, rfl, g2⟩
      have HB2 := Bas.hid (g2.below HB1.out HB1.out.size (fun g h => (Row.own_block g1.own h).1))
      have HO2 := Bas.hid g2.own
      clear g1 g2 HB1
      go_wp2_with (fail)
      go_roundw
      case rel => exact ⟨i + 1, _, by omega, by go_num, rfl, by rw [HNX.out]; exact HO2.out, HB2.out⟩
      case measure => simp [intOf]; omega
    · have hin2 : i = len := by omega
      subst hin2
      have HBF : Hid (shL A n = bb ++ zs (2 * n + 2)) := by unfold Hid; rw [shL, HA.out, HBBE.out]
      have H2M : Hid (2 * (n : Int) + 2 = ((2 * n + 2 : Nat) : Int)) := by unfold Hid; omega
      have hO := HO.out
      go_wp2_with (at_builtin; refine Row.fence ?_)
      refine Row.unfence ?_
      refine (Row.append_zeros rfl _ _ 30 3 5 rfl (.int .u8 0) 1 .i64 .i64 Try.underlying30 Try.underlying3 info8 rfl rfl w.heap.size v7 bb.length _ rfl hO (2 * n + 2) (congrArg (Value.int .i64) H2M.out) (by unfold maxLen; omega) (by omega) HB.out.size ?_)
      intro v8 x8 h81 h82 _ h83
      have g8 : Grown wr w.heap.size v7 (shL A n) v8 x8 := ⟨by
        have hzr : (zs (2 * n + 2)).map (Value.int .u8) = List.replicate (2 * n + 2) (.int .u8 0) := by simp [zs]
        rw [HBF.out, List.map_append, List.length_append, hzr, zs_len]; exact h81, h82, h83.imp id fun h => ⟨_, h, Nat.le_refl _⟩⟩
      have HB8 := Bas.hid (g8.below HB.out HB.out.size (fun g h => (Row.own_block hO h).1))
      have HO8 := Bas.hid g8.own
      have hl8 := shL_len A n
      obtain ⟨ad8, cp8, hv8⟩ := own_slice g8.own
      have hc8 : 4 * i + 2 * n + 2 ≤ cp8 := by
        obtain ⟨_, ⟨h, h'⟩ | ⟨g', cp', cur, h, _, _, hn, _⟩⟩ := g8.own
        · rw [hl8] at h'; omega
        · rw [hv8] at h; cases h; rw [hl8, HA.out] at hn; exact hn
      rw [hl8, HA.out] at hv8
      have HV8 := Bas.hid hv8
      obtain ⟨sz, hsz⟩ : ∃ sz : Nat, 4 * (i : Int) + 2 * n + 2 - r = (sz : Int) := ⟨(4 * (i : Int) + 2 * n + 2 - r).toNat, by have := HL1.out; omega⟩
      have hszl : sz ≤ 4 * i + 2 * n + 2 := by omega
      have HSZ := Bas.hid hsz
      clear h81 h82 h83 g8 hO HO HB hl8 H2M hsz hbbl hil
      rw [hv8]
      clear hv8
      go_wp2_with (fail)
      rw [HSZ.out]
      obtain ⟨X, hX⟩ : ∃ X : World, x8 = X := ⟨_, rfl⟩
      rw [hX] at HB8 HO8 ⊢
      clear hX
      have hszc : sz ≤ cp8 := by omega
      have hszi : (0 : Int) ≤ (sz : Int) := by omega
      refine' Pl.region_v2 107 [] [0, 1, 2, 3, 4, 5, 7, 8, 9, 10] 6 65 11 70 [12, 13] _
        (fun v u => ∃ G r0 r1 r2, v = .slice (some ⟨G, 0, none⟩) 3 3 ∧ Own3 u X.heap.size G sMaxp sHead sHhea r0 r1 r2 (maxpL ((i : Int) + n)) (headL 1000) (hheaL i))
        (fun v u => ∃ T, v = .slice (some ⟨T, 0, none⟩) 1 1 ∧ X.heap.size ≤ T ∧ u.heap[T]? = some (.cells #[.string sHmtx, .slice ad8 sz cp8] 71 (0, 0)))
        (by kernel_rfl) (by decide) (by kernel_rfl) (by simp) (fun _ _ _ _ e h => ⟨e ▸ h.1, h.2⟩) ?_ ?_ ?_ ?_ ?_ ?_
      rotate_left
      · intro I F hI hF
        simp only [Pl.selN, List.nil_append, List.drop_succ_cons, List.drop_zero]
        repeat (go_big_quiet_step (fail))
        refine wpQuiet_nil ?_
        rfl
      · rintro v u u' ⟨G, r0, r1, r2, h1, h2⟩ hu hu'
        exact ⟨G, r0, r1, r2, h1, own3_under h2 (Nat.le_refl _) hu'⟩
      · rintro v u u' ⟨g, h1, h2, h3⟩ hu hu'
        exact ⟨g, h1, h2, (hu'.block g (heap_lt h3)).trans h3⟩
      · simp only [Pl.selN, List.drop_succ_cons, List.drop_zero, List.mem_singleton, forall_eq]
        intro u hu
        go_simp
        simp only [Pl.valsAt]
        refine (plain_any ((i : Int) + n) 1000 i u (by omega) (by omega) (by omega)).mono ?_
        rintro e w'' ⟨G, r0, r1, r2, rfl, ho, hb⟩
        exact .inl ⟨_, rfl, hb, G, rfl, r0, r1, r2, own3_under ho hu.size (Below.refl _ _)⟩
      · simp only [Pl.selN, List.drop_succ_cons, List.drop_zero, List.mem_singleton, forall_eq]
        intro u hu
        go_simp
        simp only [Pl.valsAt]
        exact ⟨(Below.refl _ _).alloc (Nat.le_refl _) _, _, rfl, hu.size, Bas.heap_new _ _⟩
      rintro v1 v2 x9 hu ⟨G, r0, r1, r2, rfl, ho3⟩ ⟨T, rfl, hT, kX⟩
      simp only [Pl.selN, List.drop_succ_cons, List.drop_zero, Act.put, List.setIfInBounds_toArray, List.set_cons_zero, List.set_cons_succ]
      have HBX := Bas.hid (HB8.out.trans (hu.mono HB8.out.size))
      have HOX := Bas.hid (Row.owned_below HO8.out hu)
      have HWX := Bas.hid (own3_under ho3 HB8.out.size (Below.refl _ _))
      clear hu ho3 HB8 HO8
      have hOW := own3_row HWX.out
      refine (Row.append_any rfl _ _ 67 71 rfl (.agg #[.string ⟨#[]⟩, .slice none 0 0]) 2 40 Try.underlying67 infoP rfl (by decide) w.heap.size (.slice (some ⟨G, 0, none⟩) 3 3) 3 _ rfl hOW (.slice (some ⟨T, 0, none⟩) 1 1) 1 [.string sHmtx, .slice ad8 sz cp8] rfl (leads_heap kX) rfl (by simp; exact ⟨rfl, rfl⟩) (by unfold maxLen; omega) (by omega) HBX.out.size ?_)
      intro v11 x11 hown11 hg11 _
      obtain ⟨_, _, h3, h4, h5, _⟩ := HWX.out
      have hkeep : ∀ {u : Value} {xs : List Int}, x9.ownsRow w.heap.size 5 1 u xs.length (xs.map (Value.int .u8)) → x11.ownsRow w.heap.size 5 1 u xs.length (xs.map (Value.int .u8)) := fun {u xs} h => Row.owned_keep h fun g hg => hg11.block g (Row.own_block h hg).2 (fun e => own_apart h hOW (by decide) g hg e.symm)
      have hls : (shL A n).length = 4 * i + 2 * n + 2 := by rw [shL_len, HA.out]
      have hcutL : Row.Leads x11 (.slice ad8 sz cp8) sz (((shL A n).take sz).map (Value.int .u8)) := by
        have h := Row.leads_owned (hkeep HOX.out)
        rw [HV8.out, hls] at h
        rw [List.map_take]
        exact leads_take h hszl (by rw [List.length_map, hls]) (by omega)
      have hlt : ((shL A n).take sz).length = sz := by rw [List.length_take, hls]; omega
      have hin4 : PParts x11 v11 [⟨sMaxp, maxpL ((i : Int) + n)⟩, ⟨sHead, headL 1000⟩, ⟨sHhea, hheaL i⟩, ⟨sHmtx, (shL A n).take sz⟩] := by
        refine ⟨[r0, r1, r2, .slice ad8 sz cp8], rfl, ?_, fun j c r hc hr => ?_⟩
        · have h := Row.leads_owned hown11
          simpa [pC] using h
        · have hj : j < 4 := (List.getElem?_eq_some_iff.1 hc).1
          rcases (by omega : j = 0 ∨ j = 1 ∨ j = 2 ∨ j = 3) with rfl | rfl | rfl | rfl
          · cases hc; cases hr; rw [u8_flat]; exact Row.leads_owned (hkeep h3)
          · cases hc; cases hr; rw [u8_flat]; exact Row.leads_owned (hkeep h4)
          · cases hc; cases hr; rw [u8_flat]; exact Row.leads_owned (hkeep h5)
          · cases hc; cases hr; rw [u8_flat]; simp only [hlt]; exact hcutL
      have HB12 := Bas.hid (HBX.out.grown hg11 HBX.out.size (fun g' hg' => (Row.own_block hOW hg').1))
      have HMK := Bas.hid (make4 v11 ((i : Int) + n) i ((shL A n).take sz) x11 hin4 (by rw [hlt]; omega) (fun x hx => shL_byte A n x (List.mem_of_mem_take hx)))
      have HLT := Bas.hid hlt
      obtain ⟨ad12, cp12, hv12⟩ := own_slice hown11
      subst hv12
      clear hown11 hg11 hkeep hin4 hOW h3 h4 h5 hls hcutL HOX HWX HBX kX hlt
      go_wp2_with (fail)
      refine HMK.out.mono ?_
      rintro e x13 ⟨c, cpc, bs, rfl, q1, q2, hv, hF, -, hb13⟩
      have HB13 := Bas.hid (HB12.out.trans (hb13.mono HB12.out.size))
      have hcast : (i : Int) + n = ((i + n : Nat) : Int) := by omega
      rw [hcast] at hF
      have hL1 := HL1.out
      have HRD := Bas.hid (wread_any _ cpc bs (i + n) i (4 * i + 2 * n) ((shL A n).take sz) x13 q1 q2 hv hF hL1 (by omega) (by omega) (by omega))
      rw [HLT.out] at HRD
      clear q1 q2 hv hF hb13 HMK HB12 hcast
      go_wp2_with (fail)
      by_cases hgd : 4 * i + 2 * n ≤ sz
      · have f2 : decide ((sz : Int) < 4 * (i : Int) + 2 * (n : Int)) = false := by simp; omega
        rw [decide_eq_true hgd] at HRD
        obtain ⟨x, hx⟩ : ∃ x, A[0]? = some x := ⟨_, List.getElem?_eq_getElem (by rw [HA.out]; omega)⟩
        obtain ⟨B, Of, cp0, hv0, hcl⟩ := Row.leads_elem (m := 1) (fun _ => rfl) HLD.out hx (by omega)
        cases hv0
        have h0 := hcl 0 _ rfl
        simp only [Nat.mul_one, Nat.add_zero] at h0
        have hlB := World.block_lt_of_cell? _ _ h0
        have HXB := Bas.hid (HR.out x (List.mem_of_getElem? hx))
        have htk : List.take (4 * i + 2 * n) ((shL A n).take sz) = (shL A n).take (4 * i + 2 * n) := by rw [List.take_take, Nat.min_eq_left hgd]
        rw [htk] at HRD
        obtain ⟨d, hd⟩ : ∃ d, (shL A n).take (4 * i + 2 * n) = d := ⟨_, rfl⟩
        rw [hd] at HRD
        have HDL : Hid (d.length = 4 * i + 2 * ((i + n) - i)) := by unfold Hid; rw [← hd, List.length_take, shL_len, HA.out]; omega
        have HAV : Hid (advL (i + n) i d 0 = x) := by
          unfold Hid
          rw [advL, if_pos (by omega), if_neg (by omega), ← hd]
          have h := sh_first A n (by rw [HA.out]; exact hL1) HR.out
          rw [List.getD_eq_getElem?_getD, hx] at h
          rw [show (4 * (0 : Int)).toNat = 0 from rfl, be_take _ _ _ _ (by omega)]
          exact h
        clear hgd hx hcl htk hd HSZ
        refine HRD.out.mono ?_
        rintro e x14 ⟨hb14, p, rfl, hw⟩
        have HB14 := Bas.hid (HB13.out.trans (hb14.mono HB13.out.size))
        have HW := Bas.hid hw
        obtain ⟨S, hS⟩ : ∃ S, x13.heap.size = S := ⟨_, rfl⟩
        rw [hS] at HW
        have HAC := Bas.hid (fun w' hw => HAV.out ▸ wadv_any w' S p (i + n) i d 0 hw HDL.out hL1 (by omega) (by omega))
        have c0 := (HB14.out.cell (p := ⟨B, Of, none⟩) hlB).trans h0
        have hlB2 : B < x14.heap.size := Nat.lt_of_lt_of_le hlB HB14.out.size
        obtain ⟨x0, x1⟩ := HXB.out
        clear hb14 hw HRD HB13 h0 hS
        go_wp2_with (fail)
        refine' Pl.region_v0 107 [] [0, 1, 2, 3, 4, 5, 6, 7, 8, 9, 10, 11, 12, 13, 14] [15] _ (by kernel_rfl) (by kernel_rfl) (by simp) (fun _ _ _ _ e h => ⟨e ▸ h.1, h.2⟩) ?_ ?_
        rotate_left
        · intro I F hI hF
          simp only [Pl.selN, List.nil_append, List.drop_succ_cons, List.drop_zero]
          have y0 := fun q => hF.cell hlB2 c0 q
          repeat (go_big_quiet_step ((go_at_call 32; with_reducible exact hF.call (HAC.out _ (isW_below HW.out (hF.bel _))))))
          refine wpQuiet_nil ?_
          rfl
        intro u hu
        simp only [Pl.selN, List.drop_succ_cons, List.drop_zero]
        have HBU := Bas.hid (HB14.out.trans (hu.mono HB14.out.size))
        clear hu
        go_wp2_with (fail)
        go_ret
        exact ⟨rfl, HBU.out⟩
      · have f2 : decide ((sz : Int) < 4 * (i : Int) + 2 * (n : Int)) = true := by simp; omega
        rw [decide_eq_false hgd] at HRD
        clear hgd
        refine HRD.out.mono ?_
        rintro e x14 ⟨hb14, rfl⟩
        have HB14 := Bas.hid (HB13.out.trans (hb14.mono HB13.out.size))
        clear hb14 HRD HB13
        go_wp2_with (fail)
        go_ret
        exact ⟨rfl, HB14.out⟩
end Fo
end Go.Proofs.Ytfocjagkhoonmaa
