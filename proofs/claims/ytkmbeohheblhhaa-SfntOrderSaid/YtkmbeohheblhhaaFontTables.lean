/- swash/sfnt.Tables: what Take answers, or an error. -/
import Derived.Test.YtkmbeohheblhhaaFontTake
import Derived.Test.YtkmbeohheblhhaaTry
namespace Go.Proofs.Ytkmbeohheblhhaa
open Go.RowKit
namespace Fo
open Vw

/-- What is left when Read's function has ended, or thrown. -/
def ReadR (W : World) (bo : Nat) (good : Bool) (Ok : World → Nat → Value → Prop) (ok : Bool) (w2 : World) : Prop :=
  W.grownBy w2 (some bo) ∧ ok = good ∧ w2.frozen? ⟨bo, 0, none⟩ = false ∧ ∃ v, w2.cell? ⟨bo, 0, none⟩ = some v ∧ (good = true → Ok w2 W.heap.size v)

/-- What Take answers: what 'Ok' says, or it is thrown. -/
def TakeG (good : Bool) (Ok : World → Nat → Value → Prop) (w : World) (e : Ending) (w' : World) : Prop :=
  Below w.heap.size w w' ∧ if good then ∃ v, e = .returned v ∧ Ok w' w.heap.size v else e = .panicked short

structure Keeps (Ok : World → Nat → Value → Prop) : Prop where
  keep : ∀ w w' base v, Ok w base v → (∀ g, base ≤ g → g < w.heap.size → w'.heap[g]? = w.heap[g]?) → w.heap.size ≤ w'.heap.size → Ok w' base v
  base : ∀ w base base' v, Ok w base v → base' ≤ base → Ok w base' v
  form : ∀ w base v, Ok w base v → ∃ ad n cp, v = .slice ad n cp

set_option maxHeartbeats 4000000 in
theorem read1_any (a : Option Addr) (len cap : Nat) (bs : List Int) (good : Bool) (Ok : World → Nat → Value → Prop) (hK : Keeps Ok) (bb bo bt : Nat) (W : World) (hv : VB W a bs)
    (hT : ∀ w, VB w a bs → Calls Try.prog 35 #[.agg #[.slice a len cap]] w (TakeG good Ok w))
    (h1 : W.cell? ⟨bb, 0, none⟩ = some (.slice a len cap)) (h5 : W.cell? ⟨bo, 0, none⟩ = some (.slice none 0 0)) (h6 : W.frozen? ⟨bo, 0, none⟩ = false) (hne : bt ≠ bo) (hk : W.heap[bt]? = some (.cells #[.bool false] 4 (0, 0))) :
    Calls Try.prog 34 #[.pointer (some ⟨bb, 0, none⟩), .pointer (some ⟨bo, 0, none⟩)] W (TryPost bt (ReadR W bo good Ok)) := by
  have l5 := World.block_lt_of_cell? _ _ h5
  have lt := (Array.getElem?_eq_some_iff.1 hk).1
  have HT := Bas.hid (fun w' (hb : Below W.heap.size W w') => hT w' (hv.below hb))
  have HK := Bas.hid hK
  clear hT hv hK
  go_enter Try.func34, Try.ntmps34
  go_wp2_with (fail)
  refine (of_any a len cap W).mono ?_
  rintro e w1 ⟨rfl, hb1⟩
  go_wp2_with (fail)
  refine (HT.out _ hb1).mono ?_
  rintro e w2 ⟨hb2, he⟩
  have hb : Below W.heap.size W w2 := hb1.trans (hb2.mono hb1.size)
  have s1 := hb1.size
  cases good with
  | false =>
    simp only [Bool.false_eq_true, if_false] at he
    subst he
    have POST : TryPost bt (ReadR W bo false Ok) (.panicked short) w2 := ⟨(hb.block bt lt).trans hk, .inr ⟨rfl, Bas.gbelow (Bas.grefl _ _) hb, rfl, (hb.frozen (p := ⟨bo, 0, none⟩) l5).trans h6, _, (hb.cell (p := ⟨bo, 0, none⟩) l5).trans h5, fun h => by cases h⟩⟩
    have HP := Bas.hid POST
    clear POST HT HK hb hb1 hb2
    go_wp2_with (fail)
    exact ⟨rfl, HP.out⟩
  | true =>
    simp only [if_true] at he
    obtain ⟨v, rfl, hok⟩ := he
    have c5 := (hb.cell (p := ⟨bo, 0, none⟩) l5).trans h5
    have f5 := (hb.frozen (p := ⟨bo, 0, none⟩) l5).trans h6
    have hs2 := hb.size
    have lt2 : bo < w2.heap.size := by have : bo < W.heap.size := l5; omega
    have POST : TryPost bt (ReadR W bo true Ok) (.returned (.tuple #[])) (w2.setCell ⟨bo, 0, none⟩ v) := by
      refine ⟨(Below.heap_setCell _ _ _ _ hne).trans ((hb.block bt lt).trans hk), .inl ⟨rfl, Bas.gset (Bas.gbelow (Bas.grefl _ _) hb) 0 v, rfl, by simpa [go_sem] using f5, v, by simp [go_sem, c5], fun _ => ?_⟩⟩
      refine HK.out.base _ _ _ _ (HK.out.keep _ _ _ _ hok (fun g h _ => Below.heap_setCell _ _ _ _ (by have : bo < W.heap.size := l5; show g ≠ bo; omega)) (by simp [World.setCell])) s1
    have HP := Bas.hid POST
    obtain HF := HK.out.form _ _ _ hok
    clear POST HT HK hb hb1 hb2 hok hk h1 h5 h6
    first | obtain ⟨ad, n, cp, rfl⟩ := HF | obtain ⟨pp, rfl⟩ := HF
    go_wp2_with (fail)
    exact bodyPost_ret (v := .tuple #[]) (by simp [results, Try.results34, go_sem]) rfl HP.out

def ReadG (good : Bool) (Ok : World → Nat → Value → Prop) (w : World) (e : Ending) (w' : World) : Prop :=
  Below w.heap.size w w' ∧ if good then ∃ v, e = .returned (.tuple #[v, .int .i64 0]) ∧ Ok w' w.heap.size v else e = .returned (.tuple #[.slice none 0 0, .int .i64 2])

set_option maxHeartbeats 4000000 in
theorem read_any (a : Option Addr) (len cap : Nat) (bs : List Int) (good : Bool) (Ok : World → Nat → Value → Prop) (hK : Keeps Ok) (w : World) (hv : VB w a bs)
    (hT : ∀ w, VB w a bs → Calls Try.prog 35 #[.agg #[.slice a len cap]] w (TakeG good Ok w)) :
    Calls Try.prog 18 #[.slice a len cap] w (ReadG good Ok w) := by
  have hmf : ∀ (fn : Fn) (first cap : Array Value) (w : World), (Instr.makeFunc fn first cap).run Try.prog w = .ok (.func fn first cap) w := fun _ _ _ _ => rfl
  have hcf : ∀ (caps : Array Value) w, (callFunc 34 caps).run Try.prog w = .ok (.enter 34 caps) w := fun caps w => by simp [go_sem]
  have HCF := Bas.hid hcf
  have HH := Bas.hid fun W bb bo bt h0 => read1_any a len cap bs good Ok hK bb bo bt W h0 hT
  have HV := Bas.hid hv
  have HK := Bas.hid hK
  clear hcf hv hT hK
  go_enter Try.func18, Try.ntmps18
  go_wp2_with (fail)
  generalize hW : (w.alloc (.cells #[.slice a len cap] 22)).alloc (.cells #[.slice none 0 0] 44) = W
  have hWs : W.heap.size = w.heap.size + 2 := by rw [← hW]; simp
  have HB : Below w.heap.size w W := by rw [← hW]; exact ((Below.refl w.heap.size w).alloc (Nat.le_refl _) _).alloc (by simp) _
  have cell : ∀ b o v, b < w.heap.size + 2 → W.cell? ⟨b, o, none⟩ = some v → (W.alloc (.cells #[.bool false] 4)).cell? ⟨b, o, none⟩ = some v := fun b o v hb h => by
    rw [World.cell?_alloc_lt _ _ _ (by show b < _; omega)]; exact h
  have HC := HH.out (W.alloc (.cells #[.bool false] 4)) w.heap.size (w.heap.size + 1) W.heap.size ((HV.out.below HB).below ((Below.refl _ _).alloc (Nat.le_refl _) _))
    (cell _ _ _ (by omega) (by rw [← hW]; simp [go_sem])) (cell _ _ _ (by omega) (by rw [← hW]; simp [go_sem])) (by rw [frozen?_alloc_cells, ← hW]; simp [go_sem]) (by omega) (Bas.heap_new _ _)
  clear HH cell hW
  refine (try_any 34 _ W _ (HCF.out _) HC).mono ?_
  clear HC HCF
  rintro e w5 ⟨ok, w2, rfl, ⟨hg2, hok, hfz2, v, hcv, hm⟩, hlt2, hg5⟩
  subst hok
  have hs2 := hg2.size
  simp only [World.size_alloc] at hs2
  have hs5 := hg5.size
  have hcv5 : w5.cell? ⟨w.heap.size + 1, 0, none⟩ = some v := (Bas.gcell hg5 (by omega) (by simp; omega)).trans hcv
  have hfz5 : w5.frozen? ⟨w.heap.size + 1, 0, none⟩ = false := by
    rw [Bas.gfrozen hg5 (by omega) (by simp; omega)]
    exact hfz2
  have HB5 : Below w.heap.size w w5 := Bas.below_g (Bas.below_g (HB.alloc HB.size _) hg2 (by simp; omega) (by omega)) hg5 (by omega) (by omega)
  have hm5 : ok = true → ∀ u, Ok (w5.setCell ⟨w.heap.size + 1, 0, none⟩ u) w.heap.size v := fun h u => by
    refine HK.out.base _ _ _ _ (HK.out.keep _ _ _ _ (hm h) (fun g h1 h2 => ?_) (by simp [World.setCell]; omega)) (by simp; omega)
    simp only [World.size_alloc] at h1
    exact (Below.heap_setCell _ _ _ _ (by show g ≠ w.heap.size + 1; omega)).trans (hg5.block g h2 (by simp; omega))
  have HM := Bas.hid hm5
  have HMS := Bas.hid (fun h => HK.out.form _ _ _ (hm h))
  clear hcv hfz2 hm hm5 hg2 hg5 HK
  cases ok with
  | false =>
    clear HMS HM
    go_wp2_with (fail)
    exact bodyPost_ret (v := .tuple #[.slice none 0 0, .int .i64 2]) (by simp [results, Try.results18, go_sem, hcv5]) rfl ⟨HB5.setCell (by simp) _, by simp⟩
  | true =>
    obtain ⟨ad, nn, cp, hv'⟩ := HMS.out rfl
    subst hv'
    have HM2 := Bas.hid (HM.out rfl)
    clear HMS HM
    go_wp2_with (fail)
    exact bodyPost_ret (v := .tuple #[.slice ad nn cp, .int .i64 0]) (by simp [results, Try.results18, go_sem, hcv5]) rfl ⟨HB5.setCell (by simp) _, by simp only [if_true]; exact ⟨_, rfl, HM2.out _⟩⟩
end Fo
end Go.Proofs.Ytkmbeohheblhhaa
