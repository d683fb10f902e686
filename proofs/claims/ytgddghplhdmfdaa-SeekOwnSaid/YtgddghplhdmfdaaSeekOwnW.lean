/- The walk of the law SeekOwn. -/
import Derived.Test.YtgddghplhdmfdaaSpeak5
namespace Go.Proofs.Ytgddghplhdmfdaa
open Go.RowKit
namespace Sk
open Vw

/-- What stands while the rows are written. -/
structure Kept (B : Nat) (v : Value) (w3 wr : World) : Prop where
  bel : Below B w3 wr
  out : ∀ G, v.ownBlock = some G → wr.heap[G]? = w3.heap[G]?
  own : ∀ g n, B ≤ g → OwnB w3 g n → OwnB wr g n

theorem Kept.refl (B : Nat) (v : Value) (w : World) : Kept B v w w := ⟨Below.refl _ _, fun _ _ => rfl, fun _ _ _ h => h⟩

theorem Kept.set {B : Nat} {v : Value} {w3 wr : World} (h : Kept B v w3 wr) {g : Nat} (hg : B ≤ g) (hv : v.ownBlock ≠ some g) (i : Nat) (y : Int) : Kept B v w3 (wr.setCell ⟨g, i, none⟩ (.int .u8 y)) :=
  ⟨h.bel.setCell hg _, fun G hG => (Below.heap_setCell _ _ _ _ (fun e => hv (by rw [hG, e]))).trans (h.out G hG), fun g' n hg' ho => by
    have h1 := h.own g' n hg' ho
    by_cases e : g' = g
    · subst e; exact h1.set i y
    · exact h1.block (Below.heap_setCell _ _ _ _ e)⟩

set_option maxHeartbeats 4000000 in
theorem seekOwn_walk (a : Option Addr) (len cap : Nat) (z : List Int) (at' : Int) (w : World) (hz : Bas.IsRow .u8 w a len cap z) (_hat : (Lit.int .i64 at').wf = true) :
    Calls Try.prog 10 #[.slice a len cap, .int .i64 at'] w fun e w' => e = .returned (.bool true) ∧ Below w.heap.size w w' := by
  by_cases hbig : 2000 < len
  · have hlm : len ≤ 9223372036854775807 := by
      rcases hz with ⟨rfl, rfl, rfl, rfl⟩ | ⟨x, rfl, hl, hm, _⟩
      · omega
      · unfold maxLen at hm; omega
    clear hz
    go_enter Try.func10, Try.ntmps10
    go_wp2_with (fail)
    refine (speaks_any _).mono ?_
    rintro e w1 ⟨rfl, hb1⟩
    go_wp2_with (fail)
    go_ret
    exact ⟨rfl, hb1⟩
  · obtain ⟨hv, hbl, hlc, hcm, hnil⟩ := VB_of_row hz (by omega)
    clear hz
    generalize z.take len = bs at hv hbl
    have hbb := hv.byte
    have hbl2 := hv.len
    have HV := Bas.hid hv
    clear hv
    go_enter Try.func10, Try.ntmps10
    go_wp2_with (fail)
    refine (speaks_any _).mono ?_
    rintro e w1 ⟨rfl, hb1⟩
    have hv1 := (HV.out.below hb1).below ((Below.refl _ _).alloc (Nat.le_refl _) (.cells #[] 5))
    have hs1 := hb1.size
    go_wp2_with (at_builtin; refine append_vb rfl _ _ rfl w1.heap.size (.slice (some ⟨w1.heap.size, 0, none⟩) 0 0) 0 [] rfl ?c1 a len cap bs rfl hv1 hbl hnil (by omega) (by simp) ?_)
    case c1 => exact ⟨rfl, .inr ⟨w1.heap.size, 0, #[], rfl, by omega, Bas.heap_new _ _, by simp, by simp, by simp, by simp⟩⟩
    intro v2 w2 hown2 hg2 hne2
    have HB2 : Below w.heap.size w w2 := (hb1.alloc hb1.size _).grown hg2 (by simp; omega) (by intro k hk; simp [Value.ownBlock] at hk; omega)
    obtain ⟨g, cg, rfl, hgb, hgl, hgc, hgm, hvg, -⟩ := owned (n := 0 + len) (bs := bs) (by simpa using hown2) (fun e => by cases hne2 e) (by omega) hbb hbl2
    have hB2s := HB2.size
    have hvb2 := HV.out.below HB2
    have HHB2 := Bas.hid HB2
    have HVG := Bas.hid hvg
    have HVB := Bas.hid hvb2
    clear hown2 hg2 hne2 hv1 hb1 hs1 HB2 hvg hvb2
    simp only [Nat.zero_add] at hgc ⊢
    -- Read's answer: rows, or none
    have RD : Calls Try.prog 29 #[.slice (some ⟨g, 0, none⟩) len cg, .int .i64 at', .int .i64 2, .int .i64 1] w2 (fun e w' => ∃ (v : Value) (code : Int) (rows : List (List Int)), e = .returned (.tuple #[v, .int .i64 code]) ∧ Below w2.heap.size w2 w' ∧ Mat w' w2.heap.size v rows ∧ rows.length ≤ 65535 ∧ ∀ r ∈ rows, r.length ≤ 65535) := by
      by_cases ht : takeB len bs at' 2
      · refine (read_yes (some ⟨g, 0, none⟩) len cg bs at' 2 1 w2 hgc hgm hbl (by omega) (by omega) (by omega) (by decide) (by decide) HVG.out ht).mono ?_
        rintro e w' ⟨v, rfl, h1, h2⟩
        obtain ⟨f0, f1, f2, f3⟩ := ht
        have hs := be2_bd bs hbb at'.toNat (by omega)
        have hn := be2_bd bs hbb (at'.toNat + 2) (by omega)
        refine ⟨_, _, _, rfl, h1, h2, ?_, ?_⟩
        · unfold readRows
          rw [rowL_len]
          unfold rowCount
          split <;> omega
        · intro r hr
          unfold readRows rowL at hr
          obtain ⟨i, _, rfl⟩ := List.mem_map.1 hr
          have : (rowB bs at'.toNat (be bs at'.toNat 2).toNat i).length ≤ (be bs at'.toNat 2).toNat := List.length_take_le _ _
          omega
      · refine (read_no (some ⟨g, 0, none⟩) len cg bs at' 2 1 w2 hgc hgm hbl (by omega) (by omega) (by decide) (by decide) HVG.out ht).mono ?_
        rintro e w' ⟨v, rfl, h1, h2⟩
        exact ⟨_, _, _, rfl, h1, h2, by simp, by simp⟩
    have HRD := Bas.hid RD
    clear RD
    go_wp2_with (fail)
    refine HRD.out.mono ?_
    rintro e w3 ⟨v, code, rows, rfl, hb3, hmat, hrn, hrl⟩
    obtain ⟨ad, cp, rfl⟩ := mat_slice hmat
    have HB3 := Bas.hid hb3
    have HM := Bas.hid hmat
    have HRL := Bas.hid hrl
    have hb3s := hb3.size
    clear hb3 hmat hrl HRD
    go_wp2_with (fail)
    go_loopw [27] (fun c wr => ∃ i : Nat, i ≤ rows.length ∧ c = .int .i64 i ∧ Kept w2.heap.size (.slice ad rows.length cp) w3 wr) (fun c _ => rows.length - (intOf c).toNat)
    case atStart => exact ⟨0, Nat.zero_le _, rfl, Kept.refl _ _ _⟩
    case round =>
      obtain ⟨i, hi, rfl, hk⟩ := hrel
      by_cases hin : i < rows.length
      · obtain ⟨xs, hx1, hx2⟩ := HM.out
        have hr0 : rows[i]? = some rows[i] := List.getElem?_eq_getElem hin
        obtain ⟨gr, cr, h5, h6, h7, h8, h9, -, h11⟩ := hx2 i _ hr0
        have hrl := HRL.out rows[i] (List.getElem_mem hin)
        rcases Row.owned_parts hx1 with ⟨_, hn0, _⟩ | ⟨G, cG, hvG, hG, hGl, hGc, hGm, hcl, -⟩
        · omega
        cases hvG
        have hne : (Value.slice (some ⟨G, 0, none⟩) rows.length cp).ownBlock ≠ some gr := own_ne hx1 h11
        have hcG : wr.cell? ⟨G, i, none⟩ = some (.slice (some ⟨gr, 0, none⟩) rows[i].length cr) := (World.cell?_of_block (w := w3) (hk.out G rfl)).trans (hcl i _ h5)
        have HK := Bas.hid hk
        generalize rows[i].length = n at *
        clear hx1 hx2 hr0 h5 hcl hk
        go_wp2_with (fail)
        obtain ⟨wo, hwo⟩ : ∃ wo : World, wo = wr := ⟨_, rfl⟩
        rw [← hwo] at HK
        rw [← hwo]
        clear hcG hwo
        go_loopw [33] (fun c wl => ∃ j : Nat, j ≤ n ∧ c = .int .i64 j ∧ Kept w2.heap.size (.slice (some ⟨G, 0, none⟩) rows.length cp) w3 wl) (fun c _ => n - (intOf c).toNat)
        case atStart => exact ⟨0, Nat.zero_le _, rfl, HK.out⟩
        case round =>
          obtain ⟨j, hj, rfl, hk2⟩ := hrel
          by_cases hjn : j < n
          · have ho := hk2.own gr n h6 h11
            obtain ⟨y, hy⟩ := ho.cell j hjn
            have hf := ho.free j
            have HK2 := Bas.hid hk2
            clear hk2 ho
            go_wp2_with (fail)
            go_roundw
            case rel => exact ⟨j + 1, by omega, by go_num, HK2.out.set h6 hne _ _⟩
            case measure => simp [intOf]; omega
          · have hjn2 : j = n := by omega
            subst hjn2
            have HK2 := Bas.hid hk2
            clear hk2
            go_wp2_with (fail)
            go_roundw
            case rel => exact ⟨i + 1, by omega, by go_num, HK2.out⟩
            case measure => simp [intOf]; omega
      · have hin2 : i = rows.length := by omega
        have hb4 : Below w2.heap.size w2 wr := HB3.out.trans (hk.bel.mono (Nat.le_refl _))
        have cv1 := conv_vb (HVG.out.below hb4) len cg hbl
        have cv2 := conv_vb (HVB.out.below hb4) len cap hbl
        have HB4 := Bas.hid hb4
        clear hb4 hk
        go_wp2_with (fail)
        go_ret
        exact ⟨by simp, HHB2.out.trans (HB4.out.mono hB2s)⟩
end Sk
end Go.Proofs.Ytgddghplhdmfdaa
