/- The walk of the law ViewOwn. -/
import Derived.Test.YtakpppgikgimnaaOwn
namespace Go.Proofs.Ytakpppgikgimnaa
open Go.RowKit
namespace Vw

set_option maxHeartbeats 1000000 in
theorem viewOwn_walk (a : Option Addr) (len cap : Nat) (z : List Int) (w : World) (hz : Bas.IsRow .u8 w a len cap z) :
    Calls Try.prog 6 #[.slice a len cap] w fun e w' => e = .returned (.bool true) ∧ Below w.heap.size w w' := by
  by_cases hbig : 1000 < len
  · have hlm : len ≤ 9223372036854775807 := by
      rcases hz with ⟨rfl, rfl, rfl, rfl⟩ | ⟨x, rfl, hl, hm, _⟩
      · omega
      · unfold maxLen at hm; omega
    clear hz
    go_enter Try.func6, Try.ntmps6
    go_wp2_with (fail)
    refine (speaks_any _).mono ?_
    rintro e w1 ⟨rfl, hb1⟩
    go_wp2_with (fail)
    go_ret
    exact ⟨rfl, hb1⟩
  · obtain ⟨hv, hbl, hlc, hcm, hnil⟩ := VB_of_row hz (by omega)
    clear hz
    generalize z.take len = bs at hv hbl
    have hbb := hv.byte
    have hbl2 := hv.len
    go_enter Try.func6, Try.ntmps6
    go_wp2_with (fail)
    refine (speaks_any _).mono ?_
    rintro e w1 ⟨rfl, hb1⟩
    have hv1 := (hv.below hb1).below ((Below.refl _ _).alloc (Nat.le_refl _) (.cells #[] 5))
    have hs1 := hb1.size
    go_wp2_with (at_builtin; refine append_vb rfl _ _ rfl w1.heap.size (.slice (some ⟨w1.heap.size, 0, none⟩) 0 0) 0 [] rfl ?c1 a len cap bs rfl hv1 hbl hnil (by omega) (by simp) ?_)
    case c1 => exact ⟨rfl, .inr ⟨w1.heap.size, 0, #[], rfl, by omega, Bas.heap_new _ _, by simp, by simp, by simp, by simp⟩⟩
    intro v2 w2 hown2 hg2 hne2
    have HB2 : Below w.heap.size w w2 := (hb1.alloc hb1.size _).grown hg2 (by simp; omega) (by intro k hk; simp [Value.ownBlock] at hk; omega)
    obtain ⟨g, cg, rfl, hgb, hgl, hgc, hgm, hvg, hOg⟩ := owned (n := 0 + len) (bs := bs) (by simpa using hown2) (fun e => by cases hne2 e) (by omega) hbb hbl2
    have hB2s := HB2.size
    have hvb2 := hv.below HB2
    clear hown2 hg2 hne2 hv1 hb1 hs1
    simp only [Nat.zero_add] at hgc hOg ⊢
    go_wp2_with (fail)
    refine (of_any _ _ _ _).mono ?_
    rintro e w3 ⟨rfl, hb3⟩
    have hvg3 := hvg.below hb3
    have hO3 : OwnB w3 g len := hOg.below hb3 hgl
    go_wp2_with (fail)
    refine (bytes_any _ _ _ bs _ hgc hgm hvg3 hbl (by simp)).mono ?_
    rintro e w4 ⟨v4, rfl, hown4, hne4, hb4⟩
    have hs3 := hb3.size
    have hs4 := hb4.size
    have hB4 : Below w2.heap.size w2 w4 := Bas.on hb3 hb4
    have hvg4 := hvg3.below hb4
    have hvb4 := hvb2.below hB4
    have HB4 : Below w.heap.size w w4 := HB2.trans (hB4.mono hB2s)
    obtain ⟨g4, c4, rfl, hgb4, hgl4, hgc4, hgm4, hvx, hO4⟩ := owned (n := len) (bs := bs) (by rw [hbl] at hown4; exact hown4) hne4 hbl.symm hbb hbl2
    have hgg : g < g4 := by omega
    clear hvg hOg hvg3 hO3 hb3 hb4 hown4 hne4 hvb2 hB4
    have cv1 := conv_vb hvx len c4 hbl
    have cv2 := conv_vb hvb4 len cap hbl
    go_wp2_with (fail)
    have hs0 := HB4.size
    go_loopw [24] (fun i wr => ∃ k : Nat, k ≤ len ∧ i = .int .i64 k ∧ Below g4 w4 wr ∧ OwnB wr g4 len) (fun i _ => len - (intOf i).toNat)
    case atStart => exact ⟨0, by omega, rfl, Below.refl _ _, hO4⟩
    case round =>
      obtain ⟨k, hk, rfl, hbr, hOr⟩ := hrel
      clear cv1 cv2 hO4
      by_cases hkl : k < len
      · obtain ⟨y, hy⟩ := hOr.cell k hkl
        have hfr := hOr.free k
        have hset := fun y => OwnB.set hOr k y
        have HO := Bas.hid hset
        clear hset
        go_wp2_with (fail)
        go_roundw
        case rel => exact ⟨k + 1, by omega, by go_num, hbr.setCell (by simp) _, HO.out _⟩
        case measure => simp [intOf]; omega
      · have hvx' : VB wr (some ⟨g, 0, none⟩) bs := ⟨hvg4.len, hvg4.byte, fun i hi => by
          obtain ⟨b, o, hab, hc⟩ := hvg4.cell i hi
          simp only [Option.some.injEq, Addr.mk.injEq, and_true] at hab
          obtain ⟨rfl, rfl⟩ := hab
          exact ⟨g, 0, rfl, (hbr.cell (p := ⟨g, 0 + i, none⟩) hgg).trans hc⟩⟩
        have hvb' : VB wr a bs := hv.below (HB4.trans (hbr.mono (by omega)))
        have cv1 := conv_vb hvx' len cg hbl
        have cv2 := conv_vb hvb' len cap hbl
        go_wp2_with (fail)
        go_ret
        exact ⟨by simp, HB4.trans (hbr.mono (by omega))⟩
end Vw
end Go.Proofs.Ytakpppgikgimnaa
