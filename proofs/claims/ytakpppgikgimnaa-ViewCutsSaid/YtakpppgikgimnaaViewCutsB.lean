/- 'cut' of the law ViewCuts. -/
import Derived.Test.YtakpppgikgimnaaViewCutsA
import Derived.RegionTactic
import Derived.ChangeAlike
namespace Go.Proofs.Ytakpppgikgimnaa
open Go.RowKit
namespace Vw

def CutPost (w : World) (fits : Bool) (m : Nat) (cs : List Int) (e : Ending) (w' : World) : Prop :=
  ∃ v n, e = .returned (.tuple #[v, .int .i64 n, .bool fits]) ∧ Below w.heap.size w w' ∧ (fits = false → v = .slice none 0 0 ∧ n = 0) ∧
    (fits = true → n = m ∧ ∃ g cp, v = .slice (some ⟨g, 0, none⟩) m cp ∧ g < w'.heap.size ∧ m ≤ cp ∧ cp ≤ maxLen ∧ VB w' (some ⟨g, 0, none⟩) cs)

set_option maxHeartbeats 2000000 in
theorem cut_try (a : Option Addr) (len cap : Nat) (bs : List Int) (kind o0 o1 o2 : Int) (fits : Bool) (m : Nat) (cs : List Int) (w : World) (hv : VB w a bs)
    (H : ∀ (W : World) (bb bk b3 bo bn bt : Nat), VB W a bs → bo ≠ bn → bt ≠ bo → bt ≠ bn → W.cell? ⟨bb, 0, none⟩ = some (.slice a len cap) → W.cell? ⟨bk, 0, none⟩ = some (.int .i64 kind) → W.cell? ⟨b3, 0, none⟩ = some (.int .i64 o0) → W.cell? ⟨b3, 1, none⟩ = some (.int .i64 o1) → W.cell? ⟨b3, 2, none⟩ = some (.int .i64 o2) →
      W.cell? ⟨bo, 0, none⟩ = some (.slice none 0 0) → W.frozen? ⟨bo, 0, none⟩ = false → W.cell? ⟨bn, 0, none⟩ = some (.int .i64 0) → W.frozen? ⟨bn, 0, none⟩ = false → W.heap[bt]? = some (.cells #[.bool false] 4) →
      Calls Try.prog 61 #[.pointer (some ⟨bb, 0, none⟩), .pointer (some ⟨bk, 0, none⟩), .pointer (some ⟨b3, 0, none⟩), .pointer (some ⟨bo, 0, none⟩), .pointer (some ⟨bn, 0, none⟩)] W (TryPost bt (CutR W bo bn fits m cs))) :
    Calls Try.prog 50 #[.slice a len cap, .int .i64 kind, .agg #[.int .i64 o0, .int .i64 o1, .int .i64 o2]] w (CutPost w fits m cs) := by
  have hmf : ∀ (fn : Fn) (first cap : Array Value) (w : World), (Instr.makeFunc fn first cap).run Try.prog w = .ok (.func fn first cap) w := fun _ _ _ _ => rfl
  have hcf : ∀ (caps : Array Value) w, (callFunc 61 caps).run Try.prog w = .ok (.enter 61 caps) w := fun caps w => by simp [go_sem]
  have HCF := Bas.hid hcf
  have HH := Bas.hid H
  have HV := Bas.hid hv
  clear hcf H hv
  go_enter Try.func50, Try.ntmps50
  go_wp2_with (fail)
  generalize hW : ((((w.alloc (.cells #[.slice a len cap] 37)).alloc (.cells #[.int .i64 kind] 3)).alloc (.cells #[.int .i64 o0, .int .i64 o1, .int .i64 o2] 58)).alloc (.cells #[.slice none 0 0] 37)).alloc (.cells #[.int .i64 0] 3) = W
  have hWs : W.heap.size = w.heap.size + 5 := by rw [← hW]; simp
  have HB : Below w.heap.size w W := by rw [← hW]; exact (((((Below.refl w.heap.size w).alloc (Nat.le_refl _) _).alloc (by simp) _).alloc (by simp; omega) _).alloc (by simp; omega) _).alloc (by simp; omega) _
  have cell : ∀ b o v, b < w.heap.size + 5 → W.cell? ⟨b, o, none⟩ = some v → (W.alloc (.cells #[.bool false] 4)).cell? ⟨b, o, none⟩ = some v := fun b o v hb h => by
    rw [World.cell?_alloc_lt _ _ _ (by show b < _; omega)]; exact h
  have HC := HH.out (W.alloc (.cells #[.bool false] 4)) w.heap.size (w.heap.size + 1) (w.heap.size + 1 + 1) (w.heap.size + 1 + 1 + 1) (w.heap.size + 1 + 1 + 1 + 1) W.heap.size ((HV.out.below HB).below ((Below.refl _ _).alloc (Nat.le_refl _) _)) (by omega) (by omega) (by omega)
    (cell _ _ _ (by omega) (by rw [← hW]; simp [go_sem])) (cell _ _ _ (by omega) (by rw [← hW]; simp [go_sem])) (cell _ _ _ (by omega) (by rw [← hW]; simp [go_sem])) (cell _ _ _ (by omega) (by rw [← hW]; simp [go_sem])) (cell _ _ _ (by omega) (by rw [← hW]; simp [go_sem]))
    (cell _ _ _ (by omega) (by rw [← hW]; simp [go_sem])) (by rw [frozen?_alloc_cells, ← hW]; simp [go_sem]) (cell _ _ _ (by omega) (by rw [← hW]; simp [go_sem])) (by rw [frozen?_alloc_cells, ← hW]; simp [go_sem]) (Bas.heap_new _ _)
  clear HH cell hW
  refine (try_any 61 _ W _ (HCF.out _) HC).mono ?_
  clear HC HCF
  rintro e w5 ⟨ok, w2, rfl, ⟨⟨w1, hg1, hg2⟩, hok, hfo, hfn, v, n, hcv, hcn, hno, hyes⟩, hlt2, hg5⟩
  subst hok
  have hs1 := hg1.size
  simp only [World.size_alloc] at hs1
  have hs2 := hg2.size
  have hs5 := hg5.size
  have hcv5 : w5.cell? ⟨w.heap.size + 1 + 1 + 1, 0, none⟩ = some v := (Bas.gcell hg5 (by omega) (by simp; omega)).trans hcv
  have hcn5 : w5.cell? ⟨w.heap.size + 1 + 1 + 1 + 1, 0, none⟩ = some (.int .i64 n) := (Bas.gcell hg5 (by omega) (by simp; omega)).trans hcn
  have hfo5 : w5.frozen? ⟨w.heap.size + 1 + 1 + 1, 0, none⟩ = false := by rw [Bas.gfrozen hg5 (by omega) (by simp; omega)]; exact hfo
  have hfn5 : w5.frozen? ⟨w.heap.size + 1 + 1 + 1 + 1, 0, none⟩ = false := by rw [Bas.gfrozen hg5 (by omega) (by simp; omega)]; exact hfn
  have HB5 := Bas.hid (show Below w.heap.size w w5 from Bas.below_g (Bas.below_g (Bas.below_g (HB.alloc HB.size _) hg1 (by simp; omega) (by omega)) hg2 (by omega) (by omega)) hg5 (by omega) (by omega))
  obtain ⟨ad, ln, cp, rfl⟩ : ∃ ad ln cp, v = .slice ad ln cp := by
    cases ok with
    | false => exact ⟨_, _, _, (hno rfl).1⟩
    | true =>
      obtain ⟨_, g, cp, h, _⟩ := hyes rfl
      exact ⟨_, _, _, h⟩
  have POST : Hid (∀ w', Below w.heap.size w w' → (∀ g, g < w2.heap.size → W.heap.size < g → w'.heap[g]? = w5.heap[g]?) → w5.heap.size ≤ w'.heap.size → CutPost w ok m cs (.returned (.tuple #[.slice ad ln cp, .int .i64 n, .bool ok])) w') := by
    intro w' hb hk hz
    refine ⟨_, _, rfl, hb, hno, fun h => ?_⟩
    obtain ⟨h1, g, cp', h2, h3, h4, h5, h6, h7⟩ := hyes h
    simp only [World.size_alloc] at h3
    refine ⟨h1, g, cp', h2, by omega, h5, h6, h7.block ?_⟩
    rw [hk g h4 (by omega)]
    exact hg5.block g h4 (by simp; omega)
  clear hno hyes hcv hcn hfo hfn hg1 hg2 hg5
  go_wp2_with (fail)
  go_region
  all_goals
    go_wp2_with (fail)
    exact bodyPost_ret (v := .tuple #[.slice ad ln cp, .int .i64 n, .bool ok]) (by simp [results, Try.results50, go_sem, hcv5, hcn5]) rfl (POST.out _ ((HB5.out.drew.setCell (by simp; omega) _).setCell (by simp; omega) _) (fun g h1 h2 => (Below.heap_setCell _ _ _ _ (by simp; omega)).trans (Below.heap_setCell _ _ _ _ (by simp; omega))) (by simp [World.setCell, World.drew]))
end Vw
end Go.Proofs.Ytakpppgikgimnaa
