/- The walk of the law TrakTakes. -/
import Derived.Test.YtfocjagkhoonmaaTrakSpeak
namespace Go.Proofs.Ytfocjagkhoonmaa
open Go.RowKit
namespace Tk
open Vw

/-- What is left when the law's own function has ended, or thrown. -/
def ReadN (W : World) (bo : Nat) (good : Bool) (Ok : World → Nat → Value → Prop) (ok : Bool) (w2 : World) : Prop :=
  W.grownBy w2 (some bo) ∧ ok = good ∧ w2.frozen? ⟨bo, 0, none⟩ = false ∧ ∃ v, w2.cell? ⟨bo, 0, none⟩ = some v ∧ (good = true → Ok w2 W.heap.size v) ∧ (good = false → v = .pointer none)

set_option maxHeartbeats 4000000 in
theorem takes1_any (a : Option Addr) (len cap : Nat) (bs : List Int) (good : Bool) (Ok : World → Nat → Value → Prop) (hK : Keeps Ok) (bb bo bt : Nat) (W : World) (hv : VB W a bs)
    (hT : ∀ w, VB w a bs → Calls Try.prog 23 #[.agg #[.slice a len cap]] w (TakeG good Ok w))
    (h1 : W.cell? ⟨bb, 0, none⟩ = some (.slice a len cap)) (h5 : W.cell? ⟨bo, 0, none⟩ = some (.pointer none)) (h6 : W.frozen? ⟨bo, 0, none⟩ = false) (hne : bt ≠ bo) (hk : W.heap[bt]? = some (.cells #[.bool false] 4 (0, 0))) :
    Calls Try.prog 22 #[.pointer (some ⟨bb, 0, none⟩), .pointer (some ⟨bo, 0, none⟩)] W (TryPost bt (ReadN W bo good Ok)) := by
  have l5 := World.block_lt_of_cell? _ _ h5
  have lt := (Array.getElem?_eq_some_iff.1 hk).1
  have HT := Bas.hid (fun w' (hb : Below W.heap.size W w') => hT w' (hv.below hb))
  have HK := Bas.hid hK
  clear hT hv hK
  go_enter Try.func22, Try.ntmps22
  go_wp2_with (fail)
  refine (of_any a len cap W).mono ?_
  rintro e w1 ⟨rfl, hb1⟩
  go_wp2_with (fail)
  refine (HT.out _ hb1).mono ?_
  rintro e w2 ⟨hb2, he⟩
  have hb : Below W.heap.size W w2 := hb1.trans (hb2.mono hb1.size)
  have s1 := hb1.size
  cases good with
  | false =>
    simp only [Bool.false_eq_true, if_false] at he
    subst he
    have POST : TryPost bt (ReadN W bo false Ok) (.panicked short) w2 := ⟨(hb.block bt lt).trans hk, .inr ⟨rfl, Bas.gbelow (Bas.grefl _ _) hb, rfl, (hb.frozen (p := ⟨bo, 0, none⟩) l5).trans h6, _, (hb.cell (p := ⟨bo, 0, none⟩) l5).trans h5, fun h => (by cases h), fun _ => rfl⟩⟩
    have HP := Bas.hid POST
    clear POST HT HK hb hb1 hb2
    go_wp2_with (fail)
    exact ⟨rfl, HP.out⟩
  | true =>
    simp only [if_true] at he
    obtain ⟨v, rfl, hok⟩ := he
    have c5 := (hb.cell (p := ⟨bo, 0, none⟩) l5).trans h5
    have f5 := (hb.frozen (p := ⟨bo, 0, none⟩) l5).trans h6
    have hs2 := hb.size
    have lt2 : bo < w2.heap.size := by have : bo < W.heap.size := l5; omega
    have POST : TryPost bt (ReadN W bo true Ok) (.returned (.tuple #[])) (w2.setCell ⟨bo, 0, none⟩ v) := by
      refine ⟨(Below.heap_setCell _ _ _ _ hne).trans ((hb.block bt lt).trans hk), .inl ⟨rfl, Bas.gset (Bas.gbelow (Bas.grefl _ _) hb) 0 v, rfl, by simpa [go_sem] using f5, v, by simp [go_sem, c5], fun _ => ?_, fun h => by cases h⟩⟩
      refine HK.out.base _ _ _ _ (HK.out.keep _ _ _ _ hok (fun g h _ => Below.heap_setCell _ _ _ _ (by have : bo < W.heap.size := l5; show g ≠ bo; omega)) (by simp [World.setCell])) s1
    have HP := Bas.hid POST
    obtain HF := HK.out.form _ _ _ hok
    clear POST HT HK hb hb1 hb2 hok hk h1 h5 h6
    first | obtain ⟨ad, n, cp, rfl⟩ := HF | obtain ⟨pp, rfl⟩ := HF
    go_wp2_with (fail)
    exact bodyPost_ret (v := .tuple #[]) (by simp [results, Try.results22, go_sem]) rfl HP.out


set_option maxRecDepth 100000 in
set_option maxHeartbeats 8000000 in
theorem trakTakes_walk (a : Option Addr) (len cap : Nat) (z : List Int) (size : Int) (w : World) (hz : Bas.IsRow .u8 w a len cap z) (hsz : -2147483648 ≤ size ∧ size ≤ 2147483647) :
    Calls Try.prog 6 #[.slice a len cap, .int .i32 size] w fun e w' => e = .returned (.bool true) ∧ Below w.heap.size w w' := by
  have hmf : ∀ (fn : Fn) (first cap : Array Value) (w : World), (Instr.makeFunc fn first cap).run Try.prog w = .ok (.func fn first cap) w := fun _ _ _ _ => rfl
  have hcf : ∀ (caps : Array Value) w, (callFunc 22 caps).run Try.prog w = .ok (.enter 22 caps) w := fun caps w => by simp [go_sem]
  have HCF := Bas.hid hcf
  have HSZ := Bas.hid hsz
  clear hcf hsz
  by_cases hbig : 1000 < len
  · have hlm : len ≤ 9223372036854775807 := by
      rcases hz with ⟨rfl, rfl, rfl, rfl⟩ | ⟨x, rfl, hl, hm, _⟩
      · omega
      · unfold maxLen at hm; omega
    clear hz hmf HCF
    go_enter Try.func6, Try.ntmps6
    go_wp2_with (fail)
    have HB0 := Bas.hid ((Below.refl w.heap.size w).alloc (Nat.le_refl _) (.cells #[.slice a len cap] 30))
    have k0 := Bas.heap_new w (.cells #[.slice a len cap] 30)
    generalize w.alloc (.cells #[.slice a len cap] 30) = W at *
    refine (speaks_any _).mono ?_
    rintro e w1 ⟨rfl, hb1⟩
    have c0 := cell_of_heap (i := 0) (v := .slice a len cap) ((hb1.block _ (heap_lt k0)).trans k0) rfl
    have HB1 := Bas.hid (Bas.on HB0.out hb1)
    clear hb1
    go_wp2_with (fail)
    go_ret
    exact ⟨rfl, HB1.out⟩
  · obtain ⟨hv, hbl, hlc, hcm, hnil⟩ := VB_of_row hz (by omega)
    clear hz
    generalize z.take len = bs at hv hbl
    have HV := Bas.hid hv
    clear hv hnil
    go_enter Try.func6, Try.ntmps6
    go_wp2_with (fail)
    have HB0 := Bas.hid ((Below.refl w.heap.size w).alloc (Nat.le_refl _) (.cells #[.slice a len cap] 30))
    have k0 := Bas.heap_new w (.cells #[.slice a len cap] 30)
    generalize w.alloc (.cells #[.slice a len cap] 30) = W at *
    refine (speaks_any _).mono ?_
    rintro e w1 ⟨rfl, hb1⟩
    have k1 := (hb1.block _ (heap_lt k0)).trans k0
    have c1 := cell_of_heap (i := 0) (v := .slice a len cap) k1 rfl
    have HB1 := Bas.hid (Bas.on HB0.out hb1)
    clear hb1 k0 HB0
    go_wp2_with (fail)
    have HB2 := Bas.hid (HB1.out.alloc HB1.out.size (.cells #[.pointer none] 32))
    have k2 := (Below.heap_alloc w1 (.cells #[.pointer none] 32) _ (heap_lt k1)).trans k1
    have k3 := Bas.heap_new w1 (.cells #[.pointer none] 32)
    have hne : w.heap.size < w1.heap.size := heap_lt k1
    generalize w1.alloc (.cells #[.pointer none] 32) = W2 at *
    generalize w1.heap.size = bo at k3 hne ⊢
    have l2 := heap_lt k2
    have l3 := heap_lt k3
    have HC := takes1_any a len cap bs (tableAt bs).isSome (okTab (tableAt bs)) (okTab_keeps (tableAt bs)) w.heap.size bo W2.heap.size (W2.alloc (.cells #[.bool false] 4)) ((HV.out.below HB2.out).below ((Below.refl _ _).alloc (Nat.le_refl _) _))
      (fun w hv => takeG a len cap bs hlc hcm hbl (by omega) w hv)
      (cell_of_heap (i := 0) ((Below.heap_alloc W2 _ _ l2).trans k2) rfl) (cell_of_heap (i := 0) ((Below.heap_alloc W2 _ _ l3).trans k3) rfl) (free_of_heap ((Below.heap_alloc W2 _ _ l3).trans k3)) (Nat.ne_of_gt l3) (Bas.heap_new _ _)
    have HTR := Bas.hid (try_any 22 _ W2 _ (HCF.out _) HC)
    clear HC HCF c1 k1 HB1
    refine HTR.out.mono ?_
    clear HTR
    rintro e w5 ⟨ok, w3, rfl, ⟨hg3, hok, hfz3, v, hcv, hm, hno⟩, hlt3, hg5⟩
    have hs3 := hg3.size
    simp only [World.size_alloc] at hs3
    have cb : w5.cell? ⟨w.heap.size, 0, none⟩ = some (.slice a len cap) := by
      rw [Bas.gcell hg5 (by omega) (by simp; omega), Bas.gcell hg3 (by simp; omega) (by simp; omega)]
      exact cell_of_heap (i := 0) ((Below.heap_alloc W2 _ _ l2).trans k2) rfl
    have co : w5.cell? ⟨bo, 0, none⟩ = some v := (Bas.gcell hg5 (by omega) (by simp; omega)).trans hcv
    have hB2s := HB2.out.size
    have HB5 : Below w.heap.size w w5 := Bas.below_g (Bas.below_g (HB2.out.alloc HB2.out.size _) hg3 (by simp; omega) (by omega)) hg5 (by omega) (by omega)
    have HB5' := Bas.hid HB5
    have hm5 : ok = true → okTab (tableAt bs) w5 W2.heap.size v := fun h => by
      have h1 := hm (hok ▸ h)
      simp only [World.size_alloc] at h1
      obtain ⟨x, g, h2, h3, h4⟩ := h1
      exact ⟨x, g, h2, h3, tab_base (tab_keep h4 (fun g hg hgl => hg5.block g hgl (by simp; omega))) (Nat.le_succ _)⟩
    have R := tRead_any a len cap bs w5 hlc hcm (HV.out.below HB5) hbl (by omega)
    have HR := Bas.hid R
    have HM := Bas.hid hm5
    have HTV := Bas.hid (tableAt_v bs HV.out.byte)
    clear R hm5 hm hg3 hg5 hcv hfz3 k2 k3 HB2 hlt3 HB5
    cases hp : tableAt bs with
    | none =>
      rw [hp] at hok
      rw [hp] at hno
      simp only [Option.isSome_none] at hok
      subst hok
      have hvn : v = .pointer none := hno rfl
      subst hvn
      clear HM hno
      go_wp2_with (fail)
      refine HR.out.mono ?_
      rintro e w6 ⟨hb6, h⟩
      rw [hp] at h
      subst h
      have HB6 := Bas.hid (Bas.on HB5'.out hb6)
      have co6 := (hb6.cell (p := ⟨bo, 0, none⟩) (World.block_lt_of_cell? _ _ co)).trans co
      clear hb6 hp HR HB5' cb
      go_wp2_with (fail)
      go_ret
      exact ⟨rfl, HB6.out⟩
    | some cs =>
      rw [hp] at hok
      simp only [Option.isSome_some] at hok
      subst hok
      obtain ⟨x, g, hl, rfl, htab⟩ := HM.out rfl
      clear hno
      rw [hp] at hl
      cases hl
      have HTV2 := Bas.hid (HTV.out cs hp)
      have HTAB := Bas.hid htab
      have lo5 := World.block_lt_of_cell? _ _ co
      clear htab HM HTV
      go_wp2_with (fail)
      refine HR.out.mono ?_
      rintro e w6 ⟨hb6, h⟩
      rw [hp] at h
      obtain ⟨g2, rfl, htab2⟩ := h
      have HB6 := Bas.hid (Bas.on HB5'.out hb6)
      have co6 := (hb6.cell (p := ⟨bo, 0, none⟩) lo5).trans co
      have lo6 := World.block_lt_of_cell? _ _ co6
      have HX := Bas.hid fun w' (hb : Below w6.heap.size w6 w') (d : Int) (hd : 0 ≤ d ∧ d ≤ 2) => value_any cs _ g d size w' (tab_below (tab_below HTAB.out hb6) hb) HTV2.out.1 HTV2.out.2 HSZ.out (by omega)
      have HY := Bas.hid fun w' (hb : Below w6.heap.size w6 w') (d : Int) (hd : 0 ≤ d ∧ d ≤ 2) => value_any cs _ g2 d size w' (tab_below htab2 hb) HTV2.out.1 HTV2.out.2 HSZ.out (by omega)
      clear hb6 htab2 hp HR HB5' HTAB cb co
      obtain ⟨r0, hr0⟩ : ∃ r, valueV cs 0 size = r := ⟨_, rfl⟩
      obtain ⟨r2, hr2⟩ : ∃ r, valueV cs 2 size = r := ⟨_, rfl⟩
      have HX1 := Bas.hid (HX.out _ (Below.refl _ _) 0 (by omega))
      rw [hr0] at HX1
      have HR0 := Bas.hid hr0
      have HR2 := Bas.hid hr2
      clear hr0 hr2
      go_wp2_with (fail)
      refine HX1.out.mono ?_
      rintro e w7 ⟨rfl, hb7⟩
      have HB7 := Bas.hid hb7
      have co7 := (hb7.cell (p := ⟨bo, 0, none⟩) lo6).trans co6
      have HY1 := Bas.hid (HR0.out ▸ HY.out _ HB7.out 0 (by omega))
      clear hb7 HX1
      go_wp2_with (fail)
      refine HY1.out.mono ?_
      rintro e w8 ⟨rfl, hb8⟩
      have lo7 := World.block_lt_of_cell? _ _ co7
      have HB8 := Bas.hid (Bas.on HB7.out hb8)
      have co8 := (hb8.cell (p := ⟨bo, 0, none⟩) lo7).trans co7
      have HX2 := Bas.hid (HR2.out ▸ HX.out _ HB8.out 2 (by omega))
      clear hb8 HY1 HB7 co7
      go_wp2_with (fail)
      refine HX2.out.mono ?_
      rintro e w9 ⟨rfl, hb9⟩
      have HB9 := Bas.hid (Bas.on HB8.out hb9)
      have HY2 := Bas.hid (HR2.out ▸ HY.out _ HB9.out 2 (by omega))
      clear hb9 HX2 HB8 co8
      go_wp2_with (fail)
      refine HY2.out.mono ?_
      rintro e w10 ⟨rfl, hb10⟩
      have HB10 := Bas.hid (Bas.on HB6.out (Bas.on HB9.out hb10))
      clear hb10 HY2 HX HY HB9 HB6
      go_wp2_with (fail)
      go_ret
      exact ⟨rfl, HB10.out⟩

theorem trakTakes_law (a : Option Addr) (len cap : Nat) (z : List Int) (size : Int) (w : World) (hz : Bas.IsRow .u8 w a len cap z) (hsz : (Lit.int .i32 size).wf = true) :
    Calls Try.prog 6 #[.slice a len cap, .int .i32 size] w fun e w' => e = .returned (.bool true) ∧ Below w.heap.size w w' :=
  trakTakes_walk a len cap z size w hz (Bas.wf_i32 hsz)
end Tk
end Go.Proofs.Ytfocjagkhoonmaa
