/- The walk of the law SeekFirst. -/
import Derived.Test.YtgddghplhdmfdaaSpeak5
import Derived.Test.YtgddghplhdmfdaaLen32
namespace Go.Proofs.Ytgddghplhdmfdaa
open Go.RowKit
namespace Sk
open Vw

theorem bl_zero : Lib.bitLen 0 = 0 := by rfl

theorem bl_mono : ∀ (y x : Nat), x ≤ y → y < 2 ^ 64 → Lib.bitLen x ≤ Lib.bitLen y := by
  intro y
  induction y using Nat.strongRecOn with
  | _ y ih =>
    intro x hxy hy
    by_cases hx : x = 0
    · subst hx; rw [bl_zero]; omega
    · rw [Lib.bitLen_half x hx (by omega), Lib.bitLen_half y (by omega) hy]
      have := ih (y / 2) (by omega) (x / 2) (by omega) (by omega)
      omega

/-- How the search stands. -/
structure FR (w0 : World) (bA bO bN bF n from' : Nat) (lo hi : Nat) (w : World) : Prop where
  below : Below w0.heap.size w0 w
  big : bA < w.heap.size
  asked : ∃ k : Nat, w.cell? ⟨bA, 0, none⟩ = some (.int .i64 k) ∧ k + Lib.bitLen (hi - lo) ≤ Lib.bitLen n
  out : w.cell? ⟨bO, 0, none⟩ = some (.bool false)
  cn : w.cell? ⟨bN, 0, none⟩ = some (.int .u32 n)
  cf : w.cell? ⟨bF, 0, none⟩ = some (.int .u32 from')
  fa : w.frozen? ⟨bA, 0, none⟩ = false
  fo : w.frozen? ⟨bO, 0, none⟩ = false
  hlo : lo ≤ from'
  hhi : hi = n ∨ from' ≤ hi

set_option maxHeartbeats 1000000 in
theorem first1 (w0 : World) (bA bO bN bF n from' lo hi : Nat) (w : World) (hn : n ≤ 4294967295) (hf : from' ≤ 4294967295) (hlt : lo < hi) (hhn : hi ≤ n) (hR : FR w0 bA bO bN bF n from' lo hi w)
    (g1 : w0.heap.size ≤ bA) (g2 : w0.heap.size ≤ bO) (n1 : bA ≠ bO) (n2 : bA ≠ bN) (n3 : bA ≠ bF) (n4 : bO ≠ bN) (n5 : bO ≠ bF) :
    Calls Try.prog 35 #[.int .i64 ((lo + (hi - lo) / 2 : Nat) : Int), .pointer (some ⟨bA, 0, none⟩), .pointer (some ⟨bO, 0, none⟩), .pointer (some ⟨bN, 0, none⟩), .pointer (some ⟨bF, 0, none⟩)] w
      (Asked (FR w0 bA bO bN bF n from') lo hi (lo + (hi - lo) / 2)) := by
  obtain ⟨hb, hbig, ⟨k, hk, hkl⟩, ho, hcn, hcf, hfa, hfo, hlo, hhi⟩ := hR
  have hbl : Lib.bitLen n ≤ 32 := Lib.bitLen_le n 32 (by omega) (by omega)
  have hh := Lib.bitLen_half (hi - lo) (by omega) (by omega)
  have hm := bl_mono ((hi - lo) / 2) (hi - (lo + (hi - lo) / 2 + 1)) (by omega) (by omega)
  generalize hmid : lo + (hi - lo) / 2 = mid at *
  have e1 : mid - lo = (hi - lo) / 2 := by omega
  have m1 : mid < hi := by omega
  have d0 : decide ((mid : Int) < 0) = false := by simp
  have d1 : decide ((n : Int) ≤ (mid : Int)) = false := by simp; omega
  have d1' : decide (n ≤ mid) = false := by simp; omega
  have ha1 : k + 1 + Lib.bitLen (mid - lo) ≤ Lib.bitLen n := by rw [e1]; omega
  have ha2 : k + 1 + Lib.bitLen (hi - (mid + 1)) ≤ Lib.bitLen n := by omega
  have hk32 : k ≤ 32 := by omega
  have post : ∀ w', Below w0.heap.size w0 w' → bA < w'.heap.size → w'.cell? ⟨bA, 0, none⟩ = some (.int .i64 ((k + 1 : Nat) : Int)) → w'.cell? ⟨bO, 0, none⟩ = some (.bool false) → w'.cell? ⟨bN, 0, none⟩ = some (.int .u32 n) → w'.cell? ⟨bF, 0, none⟩ = some (.int .u32 from') →
      w'.frozen? ⟨bA, 0, none⟩ = false → w'.frozen? ⟨bO, 0, none⟩ = false → Asked (FR w0 bA bO bN bF n from') lo hi mid (.returned (.bool (decide (from' ≤ mid)))) w' := by
    intro w' p1 p2 p3 p4 p5 p6 p7 p8
    by_cases hx : from' ≤ mid
    · exact ⟨true, by rw [decide_eq_true hx], .inl ⟨rfl, p1, p2, ⟨_, p3, ha1⟩, p4, p5, p6, p7, p8, hlo, .inr hx⟩⟩
    · exact ⟨false, by rw [decide_eq_false hx], .inr ⟨rfl, p1, p2, ⟨_, p3, ha2⟩, p4, p5, p6, p7, p8, by omega, hhi⟩⟩
  have POST := Bas.hid post
  have HB := Bas.hid hb
  clear post hh hm hmid e1 ha1 ha2 hhi hkl hbl hb
  go_enter Try.func35, Try.ntmps35
  go_wp2_with (fail)
  go_ret
  refine POST.out _ ((HB.out.setCell (p := ⟨bA, 0, none⟩) g1 _).setCell (p := ⟨bO, 0, none⟩) g2 _) (by simp [World.setCell]; omega) ?_ ?_ ?_ ?_ ?_ ?_
  · simp [go_sem, hk, n1]
  · simp [go_sem, ho]
  · simp [go_sem, hcn, n2, n4]
  · simp [go_sem, hcf, n3, n5]
  · simp [go_sem, hfa]
  · simp [go_sem, hfo]

set_option maxHeartbeats 1000000 in
theorem seekFirst_walk (n from' : Int) (w : World) (hn : (Lit.int .u32 n).wf = true) (hf : (Lit.int .u32 from').wf = true) :
    Calls Try.prog 13 #[.int .u32 n, .int .u32 from'] w fun e w' => e = .returned (.bool true) ∧ Below w.heap.size w w' := by
  have hmf : ∀ (fn : Fn) (first cap : Array Value) (w : World), (Instr.makeFunc fn first cap).run Try.prog w = .ok (.func fn first cap) w := fun _ _ _ _ => rfl
  have hcf : ∀ (caps : Array Value) w, (callFunc 35 caps).run Try.prog w = .ok (.enter 35 caps) w := fun caps w => by simp [go_sem]
  have HCF := Bas.hid hcf
  obtain ⟨hn0, hn1⟩ := Bas.wf_u32 hn
  obtain ⟨hf0, hf1⟩ := Bas.wf_u32 hf
  obtain ⟨p, rfl⟩ := Int.eq_ofNat_of_zero_le hn0
  obtain ⟨q, rfl⟩ := Int.eq_ofNat_of_zero_le hf0
  clear hcf hn hf
  go_enter Try.func13, Try.ntmps13
  go_wp2_with (fail)
  refine (speaks_any _).mono ?_
  rintro e w1 ⟨rfl, hb1⟩
  obtain ⟨hc1, hf1⟩ := Bas.bcell hb1
  have hs1 : w.heap.size + 2 ≤ w1.heap.size := by have := hb1.size; simp at this; omega
  have HB1 : Below w.heap.size w w1 := Bas.on (((Below.refl w.heap.size w).alloc (Nat.le_refl _) _).alloc (by simp) _) hb1
  clear hb1
  have cn1 : w1.cell? ⟨w.heap.size, 0, none⟩ = some (.int .u32 p) := by rw [hc1 _ _ (by simp <;> omega)]; simp
  have cf1 : w1.cell? ⟨w.heap.size + 1, 0, none⟩ = some (.int .u32 q) := by rw [hc1 _ _ (by simp <;> omega)]; simp
  clear hc1 hf1
  have l0 : w.heap.size < w1.heap.size := by omega
  have l1 : w.heap.size + 1 < w1.heap.size := by omega
  go_wp2_with (fail)
  generalize hW : (w1.alloc (.cells #[.int .i64 0] 3)).alloc (.cells #[.bool false] 4) = W
  have hWs : W.heap.size = w1.heap.size + 2 := by rw [← hW]; simp
  have HB : Below w.heap.size w W := by rw [← hW]; exact (HB1.alloc HB1.size _).alloc (by simp; omega) _
  have cA : W.cell? ⟨w1.heap.size, 0, none⟩ = some (.int .i64 0) := by rw [← hW]; simp [go_sem]
  have cO : W.cell? ⟨w1.heap.size + 1, 0, none⟩ = some (.bool false) := by rw [← hW]; simp [go_sem]
  have fA : W.frozen? ⟨w1.heap.size, 0, none⟩ = false := by rw [← hW]; simp [go_sem]
  have fO : W.frozen? ⟨w1.heap.size + 1, 0, none⟩ = false := by rw [← hW]; simp [go_sem]
  have cN : W.cell? ⟨w.heap.size, 0, none⟩ = some (.int .u32 p) := by
    rw [← hW, World.cell?_alloc_lt _ _ _ (by simp; omega), World.cell?_alloc_lt _ _ _ l0]; exact cn1
  have cF : W.cell? ⟨w.heap.size + 1, 0, none⟩ = some (.int .u32 q) := by
    rw [← hW, World.cell?_alloc_lt _ _ _ (by simp; omega), World.cell?_alloc_lt _ _ _ l1]; exact cf1
  clear hW cn1 cf1
  refine (first_any 35 #[.pointer (some ⟨w1.heap.size, 0, none⟩), .pointer (some ⟨w1.heap.size + 1, 0, none⟩), .pointer (some ⟨w.heap.size, 0, none⟩), .pointer (some ⟨w.heap.size + 1, 0, none⟩)]
    (FR w w1.heap.size (w1.heap.size + 1) w.heap.size (w.heap.size + 1) p q) p W (by omega) HCF.out (fun lo hi w2 hlt hhn hR => first1 w _ _ _ _ p q lo hi w2 (by omega) (by omega) hlt hhn hR (by omega) (by omega) (by omega) (by omega) (by omega) (by omega) (by omega)) ⟨HB, by omega, ⟨0, cA, by rw [Nat.zero_add, Nat.sub_zero]; exact Nat.le_refl _⟩, cO, cN, cF, fA, fO, by omega, .inl rfl⟩).mono ?_
  rintro e w2 ⟨k, hkp, rfl, hb2, hbig2, ⟨m, dA, hm⟩, dO, dN, dF, -, -, hlo, hhi⟩
  rw [Nat.sub_self, bl_zero] at hm
  have hbl : Lib.bitLen p ≤ 32 := Lib.bitLen_le p 32 (by omega) (by omega)
  have hmin : min (p : Int) (q : Int) = (k : Int) := by omega
  have e0 : ((k : Int) == (k : Int)) = true := by simp
  have e1 : decide (m ≤ Lib.bitLen p) = true := by simpa using hm
  have e2 : decide ((m : Int) ≤ (Lib.bitLen p : Int)) = true := by simp; omega
  have L := fun w => Bas.len32_any (p : Int) w (by omega) (by omega)
  rw [Int.toNat_natCast] at L
  have HL := Bas.hid L
  clear cA cO cN cF fA fO hm hhi hlo L
  generalize Lib.bitLen p = B at *
  go_wp2_with (fail)
  go_quiet ((go_at_call 36; exact Bas.quiet_same (HL.out _)))
  go_wp2_with (fail)
  go_ret
  exact ⟨rfl, Bas.below_drewN hb2 _⟩
end Sk
end Go.Proofs.Ytgddghplhdmfdaa
