/- 'twice' of the law ViewDeep. -/
import Derived.Test.YtakpppgikgimnaaViewDeepA
namespace Go.Proofs.Ytakpppgikgimnaa
open Go.RowKit
namespace Vw

/-- New bytes, or none, and whether. -/
def OutPost (w : World) (fits : Bool) (cs : List Int) (e : Ending) (w' : World) : Prop :=
  ∃ v, e = .returned (.tuple #[v, .bool fits]) ∧ Below w.heap.size w w' ∧ (fits = false → v = .slice none 0 0) ∧
    (fits = true → ∃ g cp, v = .slice (some ⟨g, 0, none⟩) cs.length cp ∧ w.heap.size ≤ g ∧ g < w'.heap.size ∧ cs.length ≤ cp ∧ cp ≤ maxLen ∧ VB w' (some ⟨g, 0, none⟩) cs ∧ OwnB w' g cs.length)

theorem twice1_any (a : Option Addr) (len cap : Nat) (bs : List Int) (p0 p1 p2 p3 : Nat) (bb ba bo bk : Nat) (W : World) (hl : len ≤ cap) (hc : cap ≤ maxLen) (hv : VB W a bs) (hbl : bs.length = len)
    (h1 : W.cell? ⟨bb, 0, none⟩ = some (.slice a len cap)) (a0 : W.cell? ⟨ba, 0, none⟩ = some (.int .i64 p0)) (a1 : W.cell? ⟨ba, 1, none⟩ = some (.int .i64 p1)) (a2 : W.cell? ⟨ba, 2, none⟩ = some (.int .i64 p2)) (a3 : W.cell? ⟨ba, 3, none⟩ = some (.int .i64 p3))
    (h2 : W.cell? ⟨bo, 0, none⟩ = some (.slice none 0 0)) (h3 : W.frozen? ⟨bo, 0, none⟩ = false) (hne1 : bb ≠ bo) (hne2 : ba ≠ bo) (hne3 : bk ≠ bo)
    (hk : W.heap[bk]? = some (.cells #[.bool false] 4)) :
    Calls Try.prog 58 #[.pointer (some ⟨bb, 0, none⟩), .pointer (some ⟨ba, 0, none⟩), .pointer (some ⟨bo, 0, none⟩)] W (TryPost bk (OutR W bo (decide (p0 + p1 ≤ len ∧ p2 + p3 ≤ p1)) ((((bs.drop p0).take p1).drop p2).take p3))) := by
  by_cases f : p0 + p1 ≤ len ∧ p2 + p3 ≤ p1
  · rw [decide_eq_true f]
    exact twice1_yes a len cap bs p0 p1 p2 p3 bb ba bo bk W hl hc hv hbl h1 a0 a1 a2 a3 h2 h3 hne1 hne2 hne3 hk f.1 f.2
  · rw [decide_eq_false f]
    exact twice1_no a len cap _ p0 p1 p2 p3 bb ba bo bk W hl hc h1 a0 a1 a2 a3 h2 h3 hk f

set_option maxHeartbeats 1000000 in
theorem twice_any (a : Option Addr) (len cap : Nat) (bs : List Int) (p0 p1 p2 p3 : Nat) (w : World) (hl : len ≤ cap) (hc : cap ≤ maxLen) (hv : VB w a bs) (hbl : bs.length = len) :
    Calls Try.prog 43 #[.slice a len cap, .agg #[.int .i64 p0, .int .i64 p1, .int .i64 p2, .int .i64 p3]] w (OutPost w (decide (p0 + p1 ≤ len ∧ p2 + p3 ≤ p1)) ((((bs.drop p0).take p1).drop p2).take p3)) := by
  have hmf : ∀ (fn : Fn) (first cap : Array Value) (w : World), (Instr.makeFunc fn first cap).run Try.prog w = .ok (.func fn first cap) w := fun _ _ _ _ => rfl
  have hcf : ∀ (caps : Array Value) w, (callFunc 58 caps).run Try.prog w = .ok (.enter 58 caps) w := fun caps w => by simp [go_sem]
  have HCF := Bas.hid hcf
  clear hcf
  have T := fun (W : World) (bk : Nat) h3 h4 h5 h6 h7 h8 h9 h10 h11 => twice1_any a len cap bs p0 p1 p2 p3 w.heap.size (w.heap.size + 1) (w.heap.size + 1 + 1) bk W hl hc h3 hbl h4 h5 h6 h7 h8 h9 h10 (by omega) (by omega) h11
  generalize decide (p0 + p1 ≤ len ∧ p2 + p3 ≤ p1) = fits at T ⊢
  generalize (((bs.drop p0).take p1).drop p2).take p3 = cs at T ⊢
  have HT := Bas.hid T
  clear T
  go_enter Try.func43, Try.ntmps43
  go_wp2_with (fail)
  generalize hW : ((w.alloc (.cells #[.slice a len cap] 37)).alloc (.cells #[.int .i64 p0, .int .i64 p1, .int .i64 p2, .int .i64 p3] 31)).alloc (.cells #[.slice none 0 0] 37) = W
  have hWs : W.heap.size = w.heap.size + 3 := by rw [← hW]; simp
  have HB : Below w.heap.size w W := by rw [← hW]; exact (((Below.refl w.heap.size w).alloc (Nat.le_refl _) _).alloc (by simp) _).alloc (by simp; omega) _
  have cell : ∀ b o v, b < w.heap.size + 3 → W.cell? ⟨b, o, none⟩ = some v → (W.alloc (.cells #[.bool false] 4)).cell? ⟨b, o, none⟩ = some v := fun b o v hb h => by
    rw [World.cell?_alloc_lt _ _ _ (by show b < _; omega)]; exact h
  have HC := HT.out (W.alloc (.cells #[.bool false] 4)) W.heap.size ((hv.below HB).below ((Below.refl _ _).alloc (Nat.le_refl _) _))
    (cell _ _ _ (by omega) (by rw [← hW]; simp [go_sem])) (cell _ _ _ (by omega) (by rw [← hW]; simp [go_sem])) (cell _ _ _ (by omega) (by rw [← hW]; simp [go_sem])) (cell _ _ _ (by omega) (by rw [← hW]; simp [go_sem])) (cell _ _ _ (by omega) (by rw [← hW]; simp [go_sem]))
    (cell _ _ _ (by omega) (by rw [← hW]; simp [go_sem])) (by rw [frozen?_alloc_cells, ← hW]; simp [go_sem]) (by omega) (Bas.heap_new _ _)
  clear HT cell hW
  refine (try_any 58 _ W _ (HCF.out _) HC).mono ?_
  clear HC HCF
  rintro e w5 ⟨ok, w2, rfl, ⟨hg2, rfl, v, hcv, hfz2, hv0, hv1⟩, hlt2, hg5⟩
  have hs2 := hg2.size
  simp only [World.size_alloc] at hs2
  have hs5 := hg5.size
  have hcv5 : w5.cell? ⟨w.heap.size + 1 + 1, 0, none⟩ = some v := (Bas.gcell hg5 (by omega) (by simp; omega)).trans hcv
  have hfz5 : w5.frozen? ⟨w.heap.size + 1 + 1, 0, none⟩ = false := by
    rw [Bas.gfrozen hg5 (by omega) (by simp; omega)]
    exact hfz2
  have HB5 : Below w.heap.size w w5 := Bas.below_g (Bas.below_g (HB.alloc HB.size _) hg2 (by simp; omega) (by omega)) hg5 (by omega) (by omega)
  have hh : ∀ k u, k ≠ w.heap.size + 1 + 1 → (w5.setCell ⟨w.heap.size + 1 + 1, 0, none⟩ u).heap[k]? = w5.heap[k]? := fun k u hk => Below.heap_setCell _ _ _ _ hk
  have HH := Bas.hid hh
  clear hcv hh hfz2
  cases ok with
  | false =>
    obtain rfl := hv0 rfl
    clear hv0 hv1 hg2 hg5
    go_wp2_with (fail)
    exact bodyPost_ret (v := .tuple #[.slice none 0 0, .bool false]) (by simp [results, Try.results43, go_sem, hcv5]) rfl ⟨_, rfl, HB5.setCell (by simp; omega) _, fun _ => rfl, fun h => by cases h⟩
  | true =>
    obtain ⟨g, cp, rfl, hgb, hgl, hgc, hgm, hvg, hOg⟩ := hv1 rfl
    simp only [World.size_alloc] at hgb
    have hg5g := hg5.block g hgl (by simp; omega)
    clear hv0 hv1 hg2 hg5
    go_wp2_with (fail)
    exact bodyPost_ret (v := .tuple #[.slice (some ⟨g, 0, none⟩) cs.length cp, .bool true]) (by simp [results, Try.results43, go_sem, hcv5]) rfl ⟨_, rfl, HB5.setCell (by simp; omega) _, fun h => by (cases h), fun _ => ⟨g, cp, rfl, by omega, by simp; omega, hgc, hgm, hvg.block ((HH.out g _ (by omega)).trans hg5g), hOg.block ((HH.out g _ (by omega)).trans hg5g)⟩⟩
end Vw
end Go.Proofs.Ytakpppgikgimnaa
