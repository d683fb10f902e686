/- 'got' of the law ViewNumbers. -/
import Derived.Test.YtakpppgikgimnaaOwn
namespace Go.Proofs.Ytakpppgikgimnaa
open Go.RowKit
namespace Vw

/-- What is left in the variable for the number. -/
def GotR (W : World) (bo : Nat) (fits : Bool) (x : Int) (ok : Bool) (w2 : World) : Prop :=
  W.grownBy w2 (some bo) ∧ ok = fits ∧ w2.cell? ⟨bo, 0, none⟩ = some (.int .i64 (if fits then x else 0)) ∧ w2.frozen? ⟨bo, 0, none⟩ = false

/-- A number, or nought, and whether. -/
def NumPost (w : World) (fits : Bool) (x : Int) (e : Ending) (w' : World) : Prop :=
  e = .returned (.tuple #[.int .i64 (if fits then x else 0), .bool fits]) ∧ Below w.heap.size w w'

set_option maxHeartbeats 800000 in
theorem got1_0 (a : Option Addr) (len cap : Nat) (bs : List Int) (at' : Int) (bkd bv ba bo bk : Nat) (W : World) (hl : len ≤ cap) (hc : cap ≤ maxLen) (hv : VB W a bs) (hbl : bs.length = len)
    (h1 : W.cell? ⟨bkd, 0, none⟩ = some (.int .i64 0)) (h2 : W.cell? ⟨bv, 0, none⟩ = some (.slice a len cap)) (h3 : W.cell? ⟨ba, 0, none⟩ = some (.int .i64 at')) (h4 : W.cell? ⟨bo, 0, none⟩ = some (.int .i64 0)) (h5 : W.frozen? ⟨bo, 0, none⟩ = false)
    (hne : bk ≠ bo) (hk : W.heap[bk]? = some (.cells #[.bool false] 4)) (x : Int) (hx : be bs at'.toNat 1 = x) :
    Calls Try.prog 60 #[.pointer (some ⟨bkd, 0, none⟩), .pointer (some ⟨bv, 0, none⟩), .pointer (some ⟨ba, 0, none⟩), .pointer (some ⟨bo, 0, none⟩)] W (TryPost bk (GotR W bo (decide (0 ≤ at' ∧ at' + 1 ≤ len)) x)) := by
  have l4 := World.block_lt_of_cell? _ _ h4
  have lbk : bk < W.heap.size := (Array.getElem?_eq_some_iff.1 hk).1
  have HX := Bas.hid hx
  clear hx
  by_cases f : 0 ≤ at' ∧ at' + 1 ≤ len
  · rw [decide_eq_true f]
    have HK := Bas.hid hk
    clear hk
    go_enter Try.func60, Try.ntmps60
    go_wp2_with (fail)
    refine (u8_ok _ _ _ bs _ _ hl hc hv hbl f.1 f.2).mono ?_
    rintro e w2 ⟨he, hb⟩
    rw [HX.out] at he
    subst he
    have c4 : w2.cell? ⟨bo, 0, none⟩ = some (.int .i64 0) := (hb.cell (p := ⟨bo, 0, none⟩) l4).trans h4
    have f4 : w2.frozen? ⟨bo, 0, none⟩ = false := (hb.frozen (p := ⟨bo, 0, none⟩) l4).trans h5
    have hk2 := (hb.block bk lbk).trans HK.out
    have hgr : W.grownBy w2 (some bo) := Bas.gbelow (Bas.grefl _ _) hb
    have HK2 := Bas.hid hk2
    clear hk2 hb
    go_wp2_with (fail)
    go_end0
    exact ⟨(Below.heap_setCell _ _ _ _ hne).trans HK2.out, .inl ⟨rfl, Bas.gset hgr _ _, rfl, by simp [go_sem, c4], by simp [go_sem, f4]⟩⟩
  · rw [decide_eq_false f]
    have HK := Bas.hid hk
    clear hk
    go_enter Try.func60, Try.ntmps60
    go_wp2_with (fail)
    refine (u8_no _ _ _ _ _ hl hc f).mono ?_
    rintro e w2 ⟨rfl, hb⟩
    exact ⟨rfl, (hb.block bk lbk).trans HK.out, .inr ⟨rfl, Bas.gbelow (Bas.grefl _ _) hb, rfl, (hb.cell (p := ⟨bo, 0, none⟩) l4).trans h4, (hb.frozen (p := ⟨bo, 0, none⟩) l4).trans h5⟩⟩

set_option maxHeartbeats 800000 in
theorem got_0 (a : Option Addr) (len cap : Nat) (bs : List Int) (at' : Int) (w : World) (hl : len ≤ cap) (hc : cap ≤ maxLen) (hv : VB w a bs) (hbl : bs.length = len) (fits : Bool) (x : Int) (hf : decide (0 ≤ at' ∧ at' + 1 ≤ len) = fits) (hx : be bs at'.toNat 1 = x) :
    Calls Try.prog 47 #[.slice a len cap, .int .i64 0, .int .i64 at'] w (NumPost w fits x) := by
  have hmf : ∀ (fn : Fn) (first cap : Array Value) (w : World), (Instr.makeFunc fn first cap).run Try.prog w = .ok (.func fn first cap) w := fun _ _ _ _ => rfl
  have hcf : ∀ (caps : Array Value) w, (callFunc 60 caps).run Try.prog w = .ok (.enter 60 caps) w := fun caps w => by simp [go_sem]
  have HCF := Bas.hid hcf
  have T := fun (W : World) (bv bk : Nat) h3 h4 h5 h6 h7 h8 h9 h10 => got1_0 a len cap bs at' w.heap.size bv (w.heap.size + 1) (w.heap.size + 1 + 1) bk W hl hc h3 hbl h4 h5 h6 h7 h8 h9 h10 x hx
  rw [hf] at T
  have HT := Bas.hid T
  clear T hcf hf hx
  go_enter Try.func47, Try.ntmps47
  go_wp2_with (fail)
  refine (of_any _ _ _ _).mono ?_
  rintro e w1 ⟨rfl, hb1⟩
  obtain ⟨hc1, hf1⟩ := Bas.bcell hb1
  have HB1 : Below w.heap.size w w1 := Bas.on ((((Below.refl w.heap.size w).alloc (Nat.le_refl _) _).alloc (by simp) _).alloc (by simp; omega) _) hb1
  have hz1 : w.heap.size + 3 ≤ w1.heap.size := by have := hb1.size; simp at this; omega
  go_wp2_with (fail)
  generalize hW : w1.alloc (.cells #[.slice a len cap] 39) = W
  have hWs : W.heap.size = w1.heap.size + 1 := by rw [← hW]; simp
  have HB : Below w.heap.size w W := by rw [← hW]; exact HB1.alloc HB1.size _
  have cell : ∀ b o v, b < W.heap.size → W.cell? ⟨b, o, none⟩ = some v → (W.alloc (.cells #[.bool false] 4)).cell? ⟨b, o, none⟩ = some v := fun b o v hb h => by
    rw [World.cell?_alloc_lt _ _ _ hb]; exact h
  have old : ∀ b o, b < w.heap.size + 3 → W.cell? ⟨b, o, none⟩ = (((w.alloc (.cells #[.int .i64 0] 3)).alloc (.cells #[.int .i64 at'] 3)).alloc (.cells #[.int .i64 0] 3)).cell? ⟨b, o, none⟩ := fun b o hb => by
    rw [← hW, World.cell?_alloc_lt _ _ _ (by show b < _; omega), hc1 _ _ (by simp; omega)]
  have oldf : W.frozen? ⟨w.heap.size + 1 + 1, 0, none⟩ = false := by
    rw [← hW, frozen?_alloc_cells, hf1 _ _ (by simp)]; simp [go_sem]
  have HC := HT.out (W.alloc (.cells #[.bool false] 4)) w1.heap.size W.heap.size ((hv.below HB).below ((Below.refl _ _).alloc (Nat.le_refl _) _))
    (cell _ _ _ (by omega) (by rw [old _ _ (by omega)]; simp [go_sem])) (cell _ _ _ (by omega) (by rw [← hW]; simp [go_sem])) (cell _ _ _ (by omega) (by rw [old _ _ (by omega)]; simp [go_sem])) (cell _ _ _ (by omega) (by rw [old _ _ (by omega)]; simp [go_sem]))
    (by rw [frozen?_alloc_cells]; exact oldf) (by omega) (Bas.heap_new _ _)
  clear HT cell hW old hc1 hf1 hb1
  refine (try_any 60 _ W _ (HCF.out _) HC).mono ?_
  clear HC HCF
  rintro e w5 ⟨ok, w2, rfl, ⟨hg2, rfl, hcv, hfz2⟩, hlt2, hg5⟩
  have hs2 := hg2.size
  simp only [World.size_alloc] at hs2
  have hs5 := hg5.size
  have hcv5 : w5.cell? ⟨w.heap.size + 1 + 1, 0, none⟩ = some (.int .i64 (if ok then x else 0)) := (Bas.gcell hg5 (by omega) (by simp; omega)).trans hcv
  have hfz5 : w5.frozen? ⟨w.heap.size + 1 + 1, 0, none⟩ = false := (Bas.gfrozen hg5 (by omega) (by simp; omega)).trans hfz2
  have HB5 : Below w.heap.size w w5 := Bas.below_g (Bas.below_g (HB.alloc HB.size _) hg2 (by simp; omega) (by omega)) hg5 (by omega) (by omega)
  clear hcv hfz2 hg2 hg5 oldf
  generalize hy : (if ok then x else 0) = y at hcv5
  have HY := Bas.hid hy
  clear hy
  go_wp2_with (fail)
  exact bodyPost_ret (v := .tuple #[.int .i64 y, .bool ok]) (by simp [results, Try.results47, go_sem, hcv5]) rfl ⟨by rw [HY.out], HB5.setCell (by simp; omega) _⟩

set_option maxHeartbeats 800000 in
theorem got1_1 (a : Option Addr) (len cap : Nat) (bs : List Int) (at' : Int) (bkd bv ba bo bk : Nat) (W : World) (hl : len ≤ cap) (hc : cap ≤ maxLen) (hv : VB W a bs) (hbl : bs.length = len)
    (h1 : W.cell? ⟨bkd, 0, none⟩ = some (.int .i64 1)) (h2 : W.cell? ⟨bv, 0, none⟩ = some (.slice a len cap)) (h3 : W.cell? ⟨ba, 0, none⟩ = some (.int .i64 at')) (h4 : W.cell? ⟨bo, 0, none⟩ = some (.int .i64 0)) (h5 : W.frozen? ⟨bo, 0, none⟩ = false)
    (hne : bk ≠ bo) (hk : W.heap[bk]? = some (.cells #[.bool false] 4)) (x : Int) (hx : be bs at'.toNat 2 = x) :
    Calls Try.prog 60 #[.pointer (some ⟨bkd, 0, none⟩), .pointer (some ⟨bv, 0, none⟩), .pointer (some ⟨ba, 0, none⟩), .pointer (some ⟨bo, 0, none⟩)] W (TryPost bk (GotR W bo (decide (0 ≤ at' ∧ at' + 2 ≤ len)) x)) := by
  have l4 := World.block_lt_of_cell? _ _ h4
  have lbk : bk < W.heap.size := (Array.getElem?_eq_some_iff.1 hk).1
  have HX := Bas.hid hx
  clear hx
  by_cases f : 0 ≤ at' ∧ at' + 2 ≤ len
  · rw [decide_eq_true f]
    have HK := Bas.hid hk
    clear hk
    go_enter Try.func60, Try.ntmps60
    go_wp2_with (fail)
    refine (u16_ok _ _ _ bs _ _ hl hc hv hbl f.1 f.2).mono ?_
    rintro e w2 ⟨he, hb⟩
    rw [HX.out] at he
    subst he
    have c4 : w2.cell? ⟨bo, 0, none⟩ = some (.int .i64 0) := (hb.cell (p := ⟨bo, 0, none⟩) l4).trans h4
    have f4 : w2.frozen? ⟨bo, 0, none⟩ = false := (hb.frozen (p := ⟨bo, 0, none⟩) l4).trans h5
    have hk2 := (hb.block bk lbk).trans HK.out
    have hgr : W.grownBy w2 (some bo) := Bas.gbelow (Bas.grefl _ _) hb
    have HK2 := Bas.hid hk2
    clear hk2 hb
    go_wp2_with (fail)
    go_end0
    exact ⟨(Below.heap_setCell _ _ _ _ hne).trans HK2.out, .inl ⟨rfl, Bas.gset hgr _ _, rfl, by simp [go_sem, c4], by simp [go_sem, f4]⟩⟩
  · rw [decide_eq_false f]
    have HK := Bas.hid hk
    clear hk
    go_enter Try.func60, Try.ntmps60
    go_wp2_with (fail)
    refine (u16_no _ _ _ _ _ hl hc f).mono ?_
    rintro e w2 ⟨rfl, hb⟩
    exact ⟨rfl, (hb.block bk lbk).trans HK.out, .inr ⟨rfl, Bas.gbelow (Bas.grefl _ _) hb, rfl, (hb.cell (p := ⟨bo, 0, none⟩) l4).trans h4, (hb.frozen (p := ⟨bo, 0, none⟩) l4).trans h5⟩⟩

set_option maxHeartbeats 800000 in
theorem got_1 (a : Option Addr) (len cap : Nat) (bs : List Int) (at' : Int) (w : World) (hl : len ≤ cap) (hc : cap ≤ maxLen) (hv : VB w a bs) (hbl : bs.length = len) (fits : Bool) (x : Int) (hf : decide (0 ≤ at' ∧ at' + 2 ≤ len) = fits) (hx : be bs at'.toNat 2 = x) :
    Calls Try.prog 47 #[.slice a len cap, .int .i64 1, .int .i64 at'] w (NumPost w fits x) := by
  have hmf : ∀ (fn : Fn) (first cap : Array Value) (w : World), (Instr.makeFunc fn first cap).run Try.prog w = .ok (.func fn first cap) w := fun _ _ _ _ => rfl
  have hcf : ∀ (caps : Array Value) w, (callFunc 60 caps).run Try.prog w = .ok (.enter 60 caps) w := fun caps w => by simp [go_sem]
  have HCF := Bas.hid hcf
  have T := fun (W : World) (bv bk : Nat) h3 h4 h5 h6 h7 h8 h9 h10 => got1_1 a len cap bs at' w.heap.size bv (w.heap.size + 1) (w.heap.size + 1 + 1) bk W hl hc h3 hbl h4 h5 h6 h7 h8 h9 h10 x hx
  rw [hf] at T
  have HT := Bas.hid T
  clear T hcf hf hx
  go_enter Try.func47, Try.ntmps47
  go_wp2_with (fail)
  refine (of_any _ _ _ _).mono ?_
  rintro e w1 ⟨rfl, hb1⟩
  obtain ⟨hc1, hf1⟩ := Bas.bcell hb1
  have HB1 : Below w.heap.size w w1 := Bas.on ((((Below.refl w.heap.size w).alloc (Nat.le_refl _) _).alloc (by simp) _).alloc (by simp; omega) _) hb1
  have hz1 : w.heap.size + 3 ≤ w1.heap.size := by have := hb1.size; simp at this; omega
  go_wp2_with (fail)
  generalize hW : w1.alloc (.cells #[.slice a len cap] 39) = W
  have hWs : W.heap.size = w1.heap.size + 1 := by rw [← hW]; simp
  have HB : Below w.heap.size w W := by rw [← hW]; exact HB1.alloc HB1.size _
  have cell : ∀ b o v, b < W.heap.size → W.cell? ⟨b, o, none⟩ = some v → (W.alloc (.cells #[.bool false] 4)).cell? ⟨b, o, none⟩ = some v := fun b o v hb h => by
    rw [World.cell?_alloc_lt _ _ _ hb]; exact h
  have old : ∀ b o, b < w.heap.size + 3 → W.cell? ⟨b, o, none⟩ = (((w.alloc (.cells #[.int .i64 1] 3)).alloc (.cells #[.int .i64 at'] 3)).alloc (.cells #[.int .i64 0] 3)).cell? ⟨b, o, none⟩ := fun b o hb => by
    rw [← hW, World.cell?_alloc_lt _ _ _ (by show b < _; omega), hc1 _ _ (by simp; omega)]
  have oldf : W.frozen? ⟨w.heap.size + 1 + 1, 0, none⟩ = false := by
    rw [← hW, frozen?_alloc_cells, hf1 _ _ (by simp)]; simp [go_sem]
  have HC := HT.out (W.alloc (.cells #[.bool false] 4)) w1.heap.size W.heap.size ((hv.below HB).below ((Below.refl _ _).alloc (Nat.le_refl _) _))
    (cell _ _ _ (by omega) (by rw [old _ _ (by omega)]; simp [go_sem])) (cell _ _ _ (by omega) (by rw [← hW]; simp [go_sem])) (cell _ _ _ (by omega) (by rw [old _ _ (by omega)]; simp [go_sem])) (cell _ _ _ (by omega) (by rw [old _ _ (by omega)]; simp [go_sem]))
    (by rw [frozen?_alloc_cells]; exact oldf) (by omega) (Bas.heap_new _ _)
  clear HT cell hW old hc1 hf1 hb1
  refine (try_any 60 _ W _ (HCF.out _) HC).mono ?_
  clear HC HCF
  rintro e w5 ⟨ok, w2, rfl, ⟨hg2, rfl, hcv, hfz2⟩, hlt2, hg5⟩
  have hs2 := hg2.size
  simp only [World.size_alloc] at hs2
  have hs5 := hg5.size
  have hcv5 : w5.cell? ⟨w.heap.size + 1 + 1, 0, none⟩ = some (.int .i64 (if ok then x else 0)) := (Bas.gcell hg5 (by omega) (by simp; omega)).trans hcv
  have hfz5 : w5.frozen? ⟨w.heap.size + 1 + 1, 0, none⟩ = false := (Bas.gfrozen hg5 (by omega) (by simp; omega)).trans hfz2
  have HB5 : Below w.heap.size w w5 := Bas.below_g (Bas.below_g (HB.alloc HB.size _) hg2 (by simp; omega) (by omega)) hg5 (by omega) (by omega)
  clear hcv hfz2 hg2 hg5 oldf
  generalize hy : (if ok then x else 0) = y at hcv5
  have HY := Bas.hid hy
  clear hy
  go_wp2_with (fail)
  exact bodyPost_ret (v := .tuple #[.int .i64 y, .bool ok]) (by simp [results, Try.results47, go_sem, hcv5]) rfl ⟨by rw [HY.out], HB5.setCell (by simp; omega) _⟩

set_option maxHeartbeats 800000 in
theorem got1_2 (a : Option Addr) (len cap : Nat) (bs : List Int) (at' : Int) (bkd bv ba bo bk : Nat) (W : World) (hl : len ≤ cap) (hc : cap ≤ maxLen) (hv : VB W a bs) (hbl : bs.length = len)
    (h1 : W.cell? ⟨bkd, 0, none⟩ = some (.int .i64 2)) (h2 : W.cell? ⟨bv, 0, none⟩ = some (.slice a len cap)) (h3 : W.cell? ⟨ba, 0, none⟩ = some (.int .i64 at')) (h4 : W.cell? ⟨bo, 0, none⟩ = some (.int .i64 0)) (h5 : W.frozen? ⟨bo, 0, none⟩ = false)
    (hne : bk ≠ bo) (hk : W.heap[bk]? = some (.cells #[.bool false] 4)) (x : Int) (hx : be bs at'.toNat 4 = x) :
    Calls Try.prog 60 #[.pointer (some ⟨bkd, 0, none⟩), .pointer (some ⟨bv, 0, none⟩), .pointer (some ⟨ba, 0, none⟩), .pointer (some ⟨bo, 0, none⟩)] W (TryPost bk (GotR W bo (decide (0 ≤ at' ∧ at' + 4 ≤ len)) x)) := by
  have l4 := World.block_lt_of_cell? _ _ h4
  have lbk : bk < W.heap.size := (Array.getElem?_eq_some_iff.1 hk).1
  have HX := Bas.hid hx
  clear hx
  by_cases f : 0 ≤ at' ∧ at' + 4 ≤ len
  · rw [decide_eq_true f]
    have HK := Bas.hid hk
    clear hk
    go_enter Try.func60, Try.ntmps60
    go_wp2_with (fail)
    refine (u32_ok _ _ _ bs _ _ hl hc hv hbl f.1 f.2).mono ?_
    rintro e w2 ⟨he, hb⟩
    rw [HX.out] at he
    subst he
    have c4 : w2.cell? ⟨bo, 0, none⟩ = some (.int .i64 0) := (hb.cell (p := ⟨bo, 0, none⟩) l4).trans h4
    have f4 : w2.frozen? ⟨bo, 0, none⟩ = false := (hb.frozen (p := ⟨bo, 0, none⟩) l4).trans h5
    have hk2 := (hb.block bk lbk).trans HK.out
    have hgr : W.grownBy w2 (some bo) := Bas.gbelow (Bas.grefl _ _) hb
    have HK2 := Bas.hid hk2
    clear hk2 hb
    go_wp2_with (fail)
    go_end0
    exact ⟨(Below.heap_setCell _ _ _ _ hne).trans HK2.out, .inl ⟨rfl, Bas.gset hgr _ _, rfl, by simp [go_sem, c4], by simp [go_sem, f4]⟩⟩
  · rw [decide_eq_false f]
    have HK := Bas.hid hk
    clear hk
    go_enter Try.func60, Try.ntmps60
    go_wp2_with (fail)
    refine (u32_no _ _ _ _ _ hl hc f).mono ?_
    rintro e w2 ⟨rfl, hb⟩
    exact ⟨rfl, (hb.block bk lbk).trans HK.out, .inr ⟨rfl, Bas.gbelow (Bas.grefl _ _) hb, rfl, (hb.cell (p := ⟨bo, 0, none⟩) l4).trans h4, (hb.frozen (p := ⟨bo, 0, none⟩) l4).trans h5⟩⟩

set_option maxHeartbeats 800000 in
theorem got_2 (a : Option Addr) (len cap : Nat) (bs : List Int) (at' : Int) (w : World) (hl : len ≤ cap) (hc : cap ≤ maxLen) (hv : VB w a bs) (hbl : bs.length = len) (fits : Bool) (x : Int) (hf : decide (0 ≤ at' ∧ at' + 4 ≤ len) = fits) (hx : be bs at'.toNat 4 = x) :
    Calls Try.prog 47 #[.slice a len cap, .int .i64 2, .int .i64 at'] w (NumPost w fits x) := by
  have hmf : ∀ (fn : Fn) (first cap : Array Value) (w : World), (Instr.makeFunc fn first cap).run Try.prog w = .ok (.func fn first cap) w := fun _ _ _ _ => rfl
  have hcf : ∀ (caps : Array Value) w, (callFunc 60 caps).run Try.prog w = .ok (.enter 60 caps) w := fun caps w => by simp [go_sem]
  have HCF := Bas.hid hcf
  have T := fun (W : World) (bv bk : Nat) h3 h4 h5 h6 h7 h8 h9 h10 => got1_2 a len cap bs at' w.heap.size bv (w.heap.size + 1) (w.heap.size + 1 + 1) bk W hl hc h3 hbl h4 h5 h6 h7 h8 h9 h10 x hx
  rw [hf] at T
  have HT := Bas.hid T
  clear T hcf hf hx
  go_enter Try.func47, Try.ntmps47
  go_wp2_with (fail)
  refine (of_any _ _ _ _).mono ?_
  rintro e w1 ⟨rfl, hb1⟩
  obtain ⟨hc1, hf1⟩ := Bas.bcell hb1
  have HB1 : Below w.heap.size w w1 := Bas.on ((((Below.refl w.heap.size w).alloc (Nat.le_refl _) _).alloc (by simp) _).alloc (by simp; omega) _) hb1
  have hz1 : w.heap.size + 3 ≤ w1.heap.size := by have := hb1.size; simp at this; omega
  go_wp2_with (fail)
  generalize hW : w1.alloc (.cells #[.slice a len cap] 39) = W
  have hWs : W.heap.size = w1.heap.size + 1 := by rw [← hW]; simp
  have HB : Below w.heap.size w W := by rw [← hW]; exact HB1.alloc HB1.size _
  have cell : ∀ b o v, b < W.heap.size → W.cell? ⟨b, o, none⟩ = some v → (W.alloc (.cells #[.bool false] 4)).cell? ⟨b, o, none⟩ = some v := fun b o v hb h => by
    rw [World.cell?_alloc_lt _ _ _ hb]; exact h
  have old : ∀ b o, b < w.heap.size + 3 → W.cell? ⟨b, o, none⟩ = (((w.alloc (.cells #[.int .i64 2] 3)).alloc (.cells #[.int .i64 at'] 3)).alloc (.cells #[.int .i64 0] 3)).cell? ⟨b, o, none⟩ := fun b o hb => by
    rw [← hW, World.cell?_alloc_lt _ _ _ (by show b < _; omega), hc1 _ _ (by simp; omega)]
  have oldf : W.frozen? ⟨w.heap.size + 1 + 1, 0, none⟩ = false := by
    rw [← hW, frozen?_alloc_cells, hf1 _ _ (by simp)]; simp [go_sem]
  have HC := HT.out (W.alloc (.cells #[.bool false] 4)) w1.heap.size W.heap.size ((hv.below HB).below ((Below.refl _ _).alloc (Nat.le_refl _) _))
    (cell _ _ _ (by omega) (by rw [old _ _ (by omega)]; simp [go_sem])) (cell _ _ _ (by omega) (by rw [← hW]; simp [go_sem])) (cell _ _ _ (by omega) (by rw [old _ _ (by omega)]; simp [go_sem])) (cell _ _ _ (by omega) (by rw [old _ _ (by omega)]; simp [go_sem]))
    (by rw [frozen?_alloc_cells]; exact oldf) (by omega) (Bas.heap_new _ _)
  clear HT cell hW old hc1 hf1 hb1
  refine (try_any 60 _ W _ (HCF.out _) HC).mono ?_
  clear HC HCF
  rintro e w5 ⟨ok, w2, rfl, ⟨hg2, rfl, hcv, hfz2⟩, hlt2, hg5⟩
  have hs2 := hg2.size
  simp only [World.size_alloc] at hs2
  have hs5 := hg5.size
  have hcv5 : w5.cell? ⟨w.heap.size + 1 + 1, 0, none⟩ = some (.int .i64 (if ok then x else 0)) := (Bas.gcell hg5 (by omega) (by simp; omega)).trans hcv
  have hfz5 : w5.frozen? ⟨w.heap.size + 1 + 1, 0, none⟩ = false := (Bas.gfrozen hg5 (by omega) (by simp; omega)).trans hfz2
  have HB5 : Below w.heap.size w w5 := Bas.below_g (Bas.below_g (HB.alloc HB.size _) hg2 (by simp; omega) (by omega)) hg5 (by omega) (by omega)
  clear hcv hfz2 hg2 hg5 oldf
  generalize hy : (if ok then x else 0) = y at hcv5
  have HY := Bas.hid hy
  clear hy
  go_wp2_with (fail)
  exact bodyPost_ret (v := .tuple #[.int .i64 y, .bool ok]) (by simp [results, Try.results47, go_sem, hcv5]) rfl ⟨by rw [HY.out], HB5.setCell (by simp; omega) _⟩

set_option maxHeartbeats 800000 in
theorem got1_3 (a : Option Addr) (len cap : Nat) (bs : List Int) (at' : Int) (bkd bv ba bo bk : Nat) (W : World) (hl : len ≤ cap) (hc : cap ≤ maxLen) (hv : VB W a bs) (hbl : bs.length = len)
    (h1 : W.cell? ⟨bkd, 0, none⟩ = some (.int .i64 3)) (h2 : W.cell? ⟨bv, 0, none⟩ = some (.slice a len cap)) (h3 : W.cell? ⟨ba, 0, none⟩ = some (.int .i64 at')) (h4 : W.cell? ⟨bo, 0, none⟩ = some (.int .i64 0)) (h5 : W.frozen? ⟨bo, 0, none⟩ = false)
    (hne : bk ≠ bo) (hk : W.heap[bk]? = some (.cells #[.bool false] 4)) (x : Int) (hx : s16 (be bs at'.toNat 2) = x) :
    Calls Try.prog 60 #[.pointer (some ⟨bkd, 0, none⟩), .pointer (some ⟨bv, 0, none⟩), .pointer (some ⟨ba, 0, none⟩), .pointer (some ⟨bo, 0, none⟩)] W (TryPost bk (GotR W bo (decide (0 ≤ at' ∧ at' + 2 ≤ len)) x)) := by
  have l4 := World.block_lt_of_cell? _ _ h4
  have lbk : bk < W.heap.size := (Array.getElem?_eq_some_iff.1 hk).1
  have HX := Bas.hid hx
  clear hx
  by_cases f : 0 ≤ at' ∧ at' + 2 ≤ len
  · rw [decide_eq_true f]
    have HK := Bas.hid hk
    clear hk
    go_enter Try.func60, Try.ntmps60
    go_wp2_with (fail)
    refine (i16_ok _ _ _ bs _ _ hl hc hv hbl f.1 f.2).mono ?_
    rintro e w2 ⟨he, hb⟩
    rw [HX.out] at he
    subst he
    have c4 : w2.cell? ⟨bo, 0, none⟩ = some (.int .i64 0) := (hb.cell (p := ⟨bo, 0, none⟩) l4).trans h4
    have f4 : w2.frozen? ⟨bo, 0, none⟩ = false := (hb.frozen (p := ⟨bo, 0, none⟩) l4).trans h5
    have hk2 := (hb.block bk lbk).trans HK.out
    have hgr : W.grownBy w2 (some bo) := Bas.gbelow (Bas.grefl _ _) hb
    have HK2 := Bas.hid hk2
    clear hk2 hb
    go_wp2_with (fail)
    go_end0
    exact ⟨(Below.heap_setCell _ _ _ _ hne).trans HK2.out, .inl ⟨rfl, Bas.gset hgr _ _, rfl, by simp [go_sem, c4], by simp [go_sem, f4]⟩⟩
  · rw [decide_eq_false f]
    have HK := Bas.hid hk
    clear hk
    go_enter Try.func60, Try.ntmps60
    go_wp2_with (fail)
    refine (i16_no _ _ _ _ _ hl hc f).mono ?_
    rintro e w2 ⟨rfl, hb⟩
    exact ⟨rfl, (hb.block bk lbk).trans HK.out, .inr ⟨rfl, Bas.gbelow (Bas.grefl _ _) hb, rfl, (hb.cell (p := ⟨bo, 0, none⟩) l4).trans h4, (hb.frozen (p := ⟨bo, 0, none⟩) l4).trans h5⟩⟩

set_option maxHeartbeats 800000 in
theorem got_3 (a : Option Addr) (len cap : Nat) (bs : List Int) (at' : Int) (w : World) (hl : len ≤ cap) (hc : cap ≤ maxLen) (hv : VB w a bs) (hbl : bs.length = len) (fits : Bool) (x : Int) (hf : decide (0 ≤ at' ∧ at' + 2 ≤ len) = fits) (hx : s16 (be bs at'.toNat 2) = x) :
    Calls Try.prog 47 #[.slice a len cap, .int .i64 3, .int .i64 at'] w (NumPost w fits x) := by
  have hmf : ∀ (fn : Fn) (first cap : Array Value) (w : World), (Instr.makeFunc fn first cap).run Try.prog w = .ok (.func fn first cap) w := fun _ _ _ _ => rfl
  have hcf : ∀ (caps : Array Value) w, (callFunc 60 caps).run Try.prog w = .ok (.enter 60 caps) w := fun caps w => by simp [go_sem]
  have HCF := Bas.hid hcf
  have T := fun (W : World) (bv bk : Nat) h3 h4 h5 h6 h7 h8 h9 h10 => got1_3 a len cap bs at' w.heap.size bv (w.heap.size + 1) (w.heap.size + 1 + 1) bk W hl hc h3 hbl h4 h5 h6 h7 h8 h9 h10 x hx
  rw [hf] at T
  have HT := Bas.hid T
  clear T hcf hf hx
  go_enter Try.func47, Try.ntmps47
  go_wp2_with (fail)
  refine (of_any _ _ _ _).mono ?_
  rintro e w1 ⟨rfl, hb1⟩
  obtain ⟨hc1, hf1⟩ := Bas.bcell hb1
  have HB1 : Below w.heap.size w w1 := Bas.on ((((Below.refl w.heap.size w).alloc (Nat.le_refl _) _).alloc (by simp) _).alloc (by simp; omega) _) hb1
  have hz1 : w.heap.size + 3 ≤ w1.heap.size := by have := hb1.size; simp at this; omega
  go_wp2_with (fail)
  generalize hW : w1.alloc (.cells #[.slice a len cap] 39) = W
  have hWs : W.heap.size = w1.heap.size + 1 := by rw [← hW]; simp
  have HB : Below w.heap.size w W := by rw [← hW]; exact HB1.alloc HB1.size _
  have cell : ∀ b o v, b < W.heap.size → W.cell? ⟨b, o, none⟩ = some v → (W.alloc (.cells #[.bool false] 4)).cell? ⟨b, o, none⟩ = some v := fun b o v hb h => by
    rw [World.cell?_alloc_lt _ _ _ hb]; exact h
  have old : ∀ b o, b < w.heap.size + 3 → W.cell? ⟨b, o, none⟩ = (((w.alloc (.cells #[.int .i64 3] 3)).alloc (.cells #[.int .i64 at'] 3)).alloc (.cells #[.int .i64 0] 3)).cell? ⟨b, o, none⟩ := fun b o hb => by
    rw [← hW, World.cell?_alloc_lt _ _ _ (by show b < _; omega), hc1 _ _ (by simp; omega)]
  have oldf : W.frozen? ⟨w.heap.size + 1 + 1, 0, none⟩ = false := by
    rw [← hW, frozen?_alloc_cells, hf1 _ _ (by simp)]; simp [go_sem]
  have HC := HT.out (W.alloc (.cells #[.bool false] 4)) w1.heap.size W.heap.size ((hv.below HB).below ((Below.refl _ _).alloc (Nat.le_refl _) _))
    (cell _ _ _ (by omega) (by rw [old _ _ (by omega)]; simp [go_sem])) (cell _ _ _ (by omega) (by rw [← hW]; simp [go_sem])) (cell _ _ _ (by omega) (by rw [old _ _ (by omega)]; simp [go_sem])) (cell _ _ _ (by omega) (by rw [old _ _ (by omega)]; simp [go_sem]))
    (by rw [frozen?_alloc_cells]; exact oldf) (by omega) (Bas.heap_new _ _)
  clear HT cell hW old hc1 hf1 hb1
  refine (try_any 60 _ W _ (HCF.out _) HC).mono ?_
  clear HC HCF
  rintro e w5 ⟨ok, w2, rfl, ⟨hg2, rfl, hcv, hfz2⟩, hlt2, hg5⟩
  have hs2 := hg2.size
  simp only [World.size_alloc] at hs2
  have hs5 := hg5.size
  have hcv5 : w5.cell? ⟨w.heap.size + 1 + 1, 0, none⟩ = some (.int .i64 (if ok then x else 0)) := (Bas.gcell hg5 (by omega) (by simp; omega)).trans hcv
  have hfz5 : w5.frozen? ⟨w.heap.size + 1 + 1, 0, none⟩ = false := (Bas.gfrozen hg5 (by omega) (by simp; omega)).trans hfz2
  have HB5 : Below w.heap.size w w5 := Bas.below_g (Bas.below_g (HB.alloc HB.size _) hg2 (by simp; omega) (by omega)) hg5 (by omega) (by omega)
  clear hcv hfz2 hg2 hg5 oldf
  generalize hy : (if ok then x else 0) = y at hcv5
  have HY := Bas.hid hy
  clear hy
  go_wp2_with (fail)
  exact bodyPost_ret (v := .tuple #[.int .i64 y, .bool ok]) (by simp [results, Try.results47, go_sem, hcv5]) rfl ⟨by rw [HY.out], HB5.setCell (by simp; omega) _⟩

set_option maxHeartbeats 800000 in
theorem got1_4 (a : Option Addr) (len cap : Nat) (bs : List Int) (at' : Int) (bkd bv ba bo bk : Nat) (W : World) (hl : len ≤ cap) (hc : cap ≤ maxLen) (hv : VB W a bs) (hbl : bs.length = len)
    (h1 : W.cell? ⟨bkd, 0, none⟩ = some (.int .i64 4)) (h2 : W.cell? ⟨bv, 0, none⟩ = some (.slice a len cap)) (h3 : W.cell? ⟨ba, 0, none⟩ = some (.int .i64 at')) (h4 : W.cell? ⟨bo, 0, none⟩ = some (.int .i64 0)) (h5 : W.frozen? ⟨bo, 0, none⟩ = false)
    (hne : bk ≠ bo) (hk : W.heap[bk]? = some (.cells #[.bool false] 4)) (x : Int) (hx : s32 (be bs at'.toNat 4) = x) :
    Calls Try.prog 60 #[.pointer (some ⟨bkd, 0, none⟩), .pointer (some ⟨bv, 0, none⟩), .pointer (some ⟨ba, 0, none⟩), .pointer (some ⟨bo, 0, none⟩)] W (TryPost bk (GotR W bo (decide (0 ≤ at' ∧ at' + 4 ≤ len)) x)) := by
  have l4 := World.block_lt_of_cell? _ _ h4
  have lbk : bk < W.heap.size := (Array.getElem?_eq_some_iff.1 hk).1
  have HX := Bas.hid hx
  clear hx
  by_cases f : 0 ≤ at' ∧ at' + 4 ≤ len
  · rw [decide_eq_true f]
    have HK := Bas.hid hk
    clear hk
    go_enter Try.func60, Try.ntmps60
    go_wp2_with (fail)
    refine (i32_ok _ _ _ bs _ _ hl hc hv hbl f.1 f.2).mono ?_
    rintro e w2 ⟨he, hb⟩
    rw [HX.out] at he
    subst he
    have c4 : w2.cell? ⟨bo, 0, none⟩ = some (.int .i64 0) := (hb.cell (p := ⟨bo, 0, none⟩) l4).trans h4
    have f4 : w2.frozen? ⟨bo, 0, none⟩ = false := (hb.frozen (p := ⟨bo, 0, none⟩) l4).trans h5
    have hk2 := (hb.block bk lbk).trans HK.out
    have hgr : W.grownBy w2 (some bo) := Bas.gbelow (Bas.grefl _ _) hb
    have HK2 := Bas.hid hk2
    clear hk2 hb
    go_wp2_with (fail)
    go_end0
    exact ⟨(Below.heap_setCell _ _ _ _ hne).trans HK2.out, .inl ⟨rfl, Bas.gset hgr _ _, rfl, by simp [go_sem, c4], by simp [go_sem, f4]⟩⟩
  · rw [decide_eq_false f]
    have HK := Bas.hid hk
    clear hk
    go_enter Try.func60, Try.ntmps60
    go_wp2_with (fail)
    refine (i32_no _ _ _ _ _ hl hc f).mono ?_
    rintro e w2 ⟨rfl, hb⟩
    exact ⟨rfl, (hb.block bk lbk).trans HK.out, .inr ⟨rfl, Bas.gbelow (Bas.grefl _ _) hb, rfl, (hb.cell (p := ⟨bo, 0, none⟩) l4).trans h4, (hb.frozen (p := ⟨bo, 0, none⟩) l4).trans h5⟩⟩

set_option maxHeartbeats 800000 in
theorem got_4 (a : Option Addr) (len cap : Nat) (bs : List Int) (at' : Int) (w : World) (hl : len ≤ cap) (hc : cap ≤ maxLen) (hv : VB w a bs) (hbl : bs.length = len) (fits : Bool) (x : Int) (hf : decide (0 ≤ at' ∧ at' + 4 ≤ len) = fits) (hx : s32 (be bs at'.toNat 4) = x) :
    Calls Try.prog 47 #[.slice a len cap, .int .i64 4, .int .i64 at'] w (NumPost w fits x) := by
  have hmf : ∀ (fn : Fn) (first cap : Array Value) (w : World), (Instr.makeFunc fn first cap).run Try.prog w = .ok (.func fn first cap) w := fun _ _ _ _ => rfl
  have hcf : ∀ (caps : Array Value) w, (callFunc 60 caps).run Try.prog w = .ok (.enter 60 caps) w := fun caps w => by simp [go_sem]
  have HCF := Bas.hid hcf
  have T := fun (W : World) (bv bk : Nat) h3 h4 h5 h6 h7 h8 h9 h10 => got1_4 a len cap bs at' w.heap.size bv (w.heap.size + 1) (w.heap.size + 1 + 1) bk W hl hc h3 hbl h4 h5 h6 h7 h8 h9 h10 x hx
  rw [hf] at T
  have HT := Bas.hid T
  clear T hcf hf hx
  go_enter Try.func47, Try.ntmps47
  go_wp2_with (fail)
  refine (of_any _ _ _ _).mono ?_
  rintro e w1 ⟨rfl, hb1⟩
  obtain ⟨hc1, hf1⟩ := Bas.bcell hb1
  have HB1 : Below w.heap.size w w1 := Bas.on ((((Below.refl w.heap.size w).alloc (Nat.le_refl _) _).alloc (by simp) _).alloc (by simp; omega) _) hb1
  have hz1 : w.heap.size + 3 ≤ w1.heap.size := by have := hb1.size; simp at this; omega
  go_wp2_with (fail)
  generalize hW : w1.alloc (.cells #[.slice a len cap] 39) = W
  have hWs : W.heap.size = w1.heap.size + 1 := by rw [← hW]; simp
  have HB : Below w.heap.size w W := by rw [← hW]; exact HB1.alloc HB1.size _
  have cell : ∀ b o v, b < W.heap.size → W.cell? ⟨b, o, none⟩ = some v → (W.alloc (.cells #[.bool false] 4)).cell? ⟨b, o, none⟩ = some v := fun b o v hb h => by
    rw [World.cell?_alloc_lt _ _ _ hb]; exact h
  have old : ∀ b o, b < w.heap.size + 3 → W.cell? ⟨b, o, none⟩ = (((w.alloc (.cells #[.int .i64 4] 3)).alloc (.cells #[.int .i64 at'] 3)).alloc (.cells #[.int .i64 0] 3)).cell? ⟨b, o, none⟩ := fun b o hb => by
    rw [← hW, World.cell?_alloc_lt _ _ _ (by show b < _; omega), hc1 _ _ (by simp; omega)]
  have oldf : W.frozen? ⟨w.heap.size + 1 + 1, 0, none⟩ = false := by
    rw [← hW, frozen?_alloc_cells, hf1 _ _ (by simp)]; simp [go_sem]
  have HC := HT.out (W.alloc (.cells #[.bool false] 4)) w1.heap.size W.heap.size ((hv.below HB).below ((Below.refl _ _).alloc (Nat.le_refl _) _))
    (cell _ _ _ (by omega) (by rw [old _ _ (by omega)]; simp [go_sem])) (cell _ _ _ (by omega) (by rw [← hW]; simp [go_sem])) (cell _ _ _ (by omega) (by rw [old _ _ (by omega)]; simp [go_sem])) (cell _ _ _ (by omega) (by rw [old _ _ (by omega)]; simp [go_sem]))
    (by rw [frozen?_alloc_cells]; exact oldf) (by omega) (Bas.heap_new _ _)
  clear HT cell hW old hc1 hf1 hb1
  refine (try_any 60 _ W _ (HCF.out _) HC).mono ?_
  clear HC HCF
  rintro e w5 ⟨ok, w2, rfl, ⟨hg2, rfl, hcv, hfz2⟩, hlt2, hg5⟩
  have hs2 := hg2.size
  simp only [World.size_alloc] at hs2
  have hs5 := hg5.size
  have hcv5 : w5.cell? ⟨w.heap.size + 1 + 1, 0, none⟩ = some (.int .i64 (if ok then x else 0)) := (Bas.gcell hg5 (by omega) (by simp; omega)).trans hcv
  have hfz5 : w5.frozen? ⟨w.heap.size + 1 + 1, 0, none⟩ = false := (Bas.gfrozen hg5 (by omega) (by simp; omega)).trans hfz2
  have HB5 : Below w.heap.size w w5 := Bas.below_g (Bas.below_g (HB.alloc HB.size _) hg2 (by simp; omega) (by omega)) hg5 (by omega) (by omega)
  clear hcv hfz2 hg2 hg5 oldf
  generalize hy : (if ok then x else 0) = y at hcv5
  have HY := Bas.hid hy
  clear hy
  go_wp2_with (fail)
  exact bodyPost_ret (v := .tuple #[.int .i64 y, .bool ok]) (by simp [results, Try.results47, go_sem, hcv5]) rfl ⟨by rw [HY.out], HB5.setCell (by simp; omega) _⟩

end Vw
end Go.Proofs.Ytakpppgikgimnaa
