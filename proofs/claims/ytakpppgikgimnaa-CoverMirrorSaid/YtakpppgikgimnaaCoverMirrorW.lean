/- The walk of the law CoverMirror. -/
import Derived.Test.YtakpppgikgimnaaCoverMorxW
namespace Go.Proofs.Ytakpppgikgimnaa
open Go.RowKit
namespace Cov

set_option maxHeartbeats 4000000 in
theorem coverMirror_walk (x : Int) (w : World) (h0 : 0 ≤ x) (h1 : x ≤ 4294967295) :
    Calls Try.prog 5 #[.int .u32 x] w fun e w' => e = .returned (.bool true) ∧ Below w.heap.size w w' := by
  have t0 : ∀ b l, turnedM b l 0 = b := by intro b l; cases b <;> cases l <;> rfl
  have t1 : ∀ b l, turnedM b l 1 = (b != !l) := by intro b l; cases b <;> cases l <;> rfl
  have t2 : ∀ b l, turnedM b l 2 = b := by intro b l; cases b <;> cases l <;> rfl
  have k0 : ∀ b, turnedK b 0 = b := by intro b; cases b <;> rfl
  have k1 : ∀ b, turnedK b 1 = !b := by intro b; cases b <;> rfl
  have f0 : ∀ v, fits v 0 = !v := by intro v; cases v <;> rfl
  have f1 : ∀ v, fits v 1 = !v := by intro v; cases v <;> rfl
  have f2 : ∀ v, fits v 2 = v := by intro v; cases v <;> rfl
  have r0 : ∀ v b, runsM v b 0 = (!v || b) := by intro v b; cases v <;> cases b <;> rfl
  have r1 : ∀ v b, runsM v b 1 = (!v || b) := by intro v b; cases v <;> cases b <;> rfl
  have r2 : ∀ v b, runsM v b 2 = (v || b) := by intro v b; cases v <;> cases b <;> rfl
  have q0 : ∀ v b, runsK v b 0 = (!v && !b) := by intro v b; cases v <;> cases b <;> rfl
  have q1 : ∀ v b, runsK v b 1 = (!v && !b) := by intro v b; cases v <;> cases b <;> rfl
  have q2 : ∀ v b, runsK v b 2 = (v && !b) := by intro v b; cases v <;> cases b <;> rfl
  have om := ofMorx_any x
  have ok := ofKerx_any x
  generalize bitB x 31 = b31 at om ok
  generalize bitB x 30 = b30 at om ok
  generalize bitB x 29 = b29 at om ok
  generalize bitB x 28 = b28 at om ok
  generalize x % 256 = kind at om ok
  have OM := Bas.hid om
  have OK := Bas.hid ok
  clear om ok
  go_enter Try.func5, Try.ntmps5
  go_wp2_with (fail)
  refine (speaks_any _).mono ?_
  rintro e w1 ⟨rfl, hb1⟩
  go_wp2_with (fail)
  refine (OM.out _ h0 h1).mono ?_
  rintro e w2 ⟨rfl, hb2⟩
  have HB2 := Bas.on hb1 hb2
  clear hb1 hb2
  go_wp2_with (fail)
  refine (OK.out _ h0 h1).mono ?_
  rintro e w3 ⟨rfl, hb3⟩
  have HB3 := Bas.on HB2 hb3
  clear HB2 hb3
  go_wp2_with (fail)
  generalize hW0 : (w3.alloc (.cells #[.int .i64 kind, .bool b31, .bool b30, .bool b29, .bool b28] 27)).alloc (.cells #[.int .i64 kind, .bool b31, .bool b28, .bool b30, .bool b29] 35) = W0
  have hz0 : W0.heap.size = w3.heap.size + 2 := by rw [← hW0]; simp
  have hl0 : w3.heap.size < W0.heap.size := by omega
  have hl1 : w3.heap.size + 1 < W0.heap.size := by omega
  have c0 : W0.cell? ⟨w3.heap.size, 0, none⟩ = some (.int .i64 kind) := by rw [← hW0]; simp
  have c1 : W0.cell? ⟨w3.heap.size, 1, none⟩ = some (.bool b31) := by rw [← hW0]; simp
  have c2 : W0.cell? ⟨w3.heap.size, 2, none⟩ = some (.bool b30) := by rw [← hW0]; simp
  have c3 : W0.cell? ⟨w3.heap.size, 3, none⟩ = some (.bool b29) := by rw [← hW0]; simp
  have c4 : W0.cell? ⟨w3.heap.size, 4, none⟩ = some (.bool b28) := by rw [← hW0]; simp
  have d0 : W0.cell? ⟨w3.heap.size + 1, 0, none⟩ = some (.int .i64 kind) := by rw [← hW0]; simp
  have d1 : W0.cell? ⟨w3.heap.size + 1, 1, none⟩ = some (.bool b31) := by rw [← hW0]; simp
  have d2 : W0.cell? ⟨w3.heap.size + 1, 2, none⟩ = some (.bool b28) := by rw [← hW0]; simp
  have d3 : W0.cell? ⟨w3.heap.size + 1, 3, none⟩ = some (.bool b30) := by rw [← hW0]; simp
  have d4 : W0.cell? ⟨w3.heap.size + 1, 4, none⟩ = some (.bool b29) := by rw [← hW0]; simp
  have HB4 : Below w.heap.size w W0 := by rw [← hW0]; exact (HB3.alloc HB3.size _).alloc (by have := HB3.size; simp; omega) _
  clear hW0 hz0 HB3 OM OK
  have g1 : (turnedM b30 b28 0 == turnedM b30 b28 1) = b28 := by cases b30 <;> cases b28 <;> rfl
  have g2 : (turnedK b28 0 == turnedK b28 1) = false := by cases b28 <;> rfl
  have g3 : (turnedM b30 b28 0 == turnedM b30 b28 2) = true := by cases b30 <;> cases b28 <;> rfl
  clear t0 t1 t2 k0 k1
  cases b31 <;> cases b29
  all_goals
    obtain ⟨I, F, hI, HF⟩ := Bas.fam W0.heap.size W0
    have hB0 : W0.heap.size ≤ W0.heap.size := Nat.le_refl _
    have hst := HF.1 _ ((Below.refl _ _).drew)
    replace c0 := fun i => Bas.cell_fam HF hl0 c0 i
    replace c1 := fun i => Bas.cell_fam HF hl0 c1 i
    replace c2 := fun i => Bas.cell_fam HF hl0 c2 i
    replace c3 := fun i => Bas.cell_fam HF hl0 c3 i
    replace c4 := fun i => Bas.cell_fam HF hl0 c4 i
    replace d0 := fun i => Bas.cell_fam HF hl1 d0 i
    replace d1 := fun i => Bas.cell_fam HF hl1 d1 i
    replace d2 := fun i => Bas.cell_fam HF hl1 d2 i
    replace d3 := fun i => Bas.cell_fam HF hl1 d3 i
    replace d4 := fun i => Bas.cell_fam HF hl1 d4 i
    refine Bas.region_fam (by kernel_rfl) (by kernel_rfl) hst ?_
    clear hst
    repeat (go_big_quiet_step ((first | (go_at_call 21; exact Bas.call_fam HF hB0 (mturned_any _ _ _ _ _ _ _)) | (go_at_call 28; exact Bas.call_fam HF hB0 (kturned_any _ _ _ _ _ _ _)))))
    refine wpQuiet_nil ?_
    intro i0
    go_wp2_with (fail)
    go_loopw [34] (fun i wr => ∃ k : Nat, k ≤ 3 ∧ i = .int .i64 k ∧ ∃ j, wr = F j) (fun i _ => 3 - (intOf i).toNat)
    case atStart => exact ⟨0, by omega, rfl, i0, rfl⟩
    case round =>
      obtain ⟨k, hk, rfl, j, rfl⟩ := hrel
      have hst := HF.1 _ ((HF.2 j).drew)
      rcases (by omega : k = 0 ∨ k = 1 ∨ k = 2 ∨ k = 3) with rfl | rfl | rfl | rfl
      · go_wp2_with (fail)
        refine Bas.region_fam (by kernel_rfl) (by kernel_rfl) hst ?_
        clear hst
        repeat (go_big_quiet_step ((first | (go_at_call 21; refine Bas.call_fam HF hB0 (mturned_eq _ _ _ _ _ _ true ?_ _); rfl) | (go_at_call 21; refine Bas.call_fam HF hB0 (mturned_eq _ _ _ _ _ _ false ?_ _); rfl) | (go_at_call 28; refine Bas.call_fam HF hB0 (kturned_eq _ _ _ _ _ _ true ?_ _); rfl) | (go_at_call 28; refine Bas.call_fam HF hB0 (kturned_eq _ _ _ _ _ _ false ?_ _); rfl) | (go_at_call 19; refine Bas.call_fam HF hB0 (mruns_eq _ _ _ _ _ _ true ?_ _); rfl) | (go_at_call 19; refine Bas.call_fam HF hB0 (mruns_eq _ _ _ _ _ _ false ?_ _); rfl) | (go_at_call 26; refine Bas.call_fam HF hB0 (kruns_eq _ _ _ _ _ _ true ?_ _); rfl) | (go_at_call 26; refine Bas.call_fam HF hB0 (kruns_eq _ _ _ _ _ _ false ?_ _); rfl) | (go_at_call 30; refine Bas.call_fam HF hB0 (fits_eq _ _ _ _ true ?_ _); rfl) | (go_at_call 30; refine Bas.call_fam HF hB0 (fits_eq _ _ _ _ false ?_ _); rfl))))
        refine wpQuiet_nil ?_
        intro i1
        go_wp2_with (fail)
        go_roundw
        case rel => exact ⟨1, by omega, by go_num, i1, rfl⟩
        case measure => simp [intOf]
      · go_wp2_with (fail)
        refine Bas.region_fam (by kernel_rfl) (by kernel_rfl) hst ?_
        clear hst
        repeat (go_big_quiet_step ((first | (go_at_call 21; refine Bas.call_fam HF hB0 (mturned_eq _ _ _ _ _ _ true ?_ _); rfl) | (go_at_call 21; refine Bas.call_fam HF hB0 (mturned_eq _ _ _ _ _ _ false ?_ _); rfl) | (go_at_call 28; refine Bas.call_fam HF hB0 (kturned_eq _ _ _ _ _ _ true ?_ _); rfl) | (go_at_call 28; refine Bas.call_fam HF hB0 (kturned_eq _ _ _ _ _ _ false ?_ _); rfl) | (go_at_call 19; refine Bas.call_fam HF hB0 (mruns_eq _ _ _ _ _ _ true ?_ _); rfl) | (go_at_call 19; refine Bas.call_fam HF hB0 (mruns_eq _ _ _ _ _ _ false ?_ _); rfl) | (go_at_call 26; refine Bas.call_fam HF hB0 (kruns_eq _ _ _ _ _ _ true ?_ _); rfl) | (go_at_call 26; refine Bas.call_fam HF hB0 (kruns_eq _ _ _ _ _ _ false ?_ _); rfl) | (go_at_call 30; refine Bas.call_fam HF hB0 (fits_eq _ _ _ _ true ?_ _); rfl) | (go_at_call 30; refine Bas.call_fam HF hB0 (fits_eq _ _ _ _ false ?_ _); rfl))))
        refine wpQuiet_nil ?_
        intro i1
        go_wp2_with (fail)
        go_roundw
        case rel => exact ⟨2, by omega, by go_num, i1, rfl⟩
        case measure => simp [intOf]
      · go_wp2_with (fail)
        refine Bas.region_fam (by kernel_rfl) (by kernel_rfl) hst ?_
        clear hst
        repeat (go_big_quiet_step ((first | (go_at_call 21; refine Bas.call_fam HF hB0 (mturned_eq _ _ _ _ _ _ true ?_ _); rfl) | (go_at_call 21; refine Bas.call_fam HF hB0 (mturned_eq _ _ _ _ _ _ false ?_ _); rfl) | (go_at_call 28; refine Bas.call_fam HF hB0 (kturned_eq _ _ _ _ _ _ true ?_ _); rfl) | (go_at_call 28; refine Bas.call_fam HF hB0 (kturned_eq _ _ _ _ _ _ false ?_ _); rfl) | (go_at_call 19; refine Bas.call_fam HF hB0 (mruns_eq _ _ _ _ _ _ true ?_ _); rfl) | (go_at_call 19; refine Bas.call_fam HF hB0 (mruns_eq _ _ _ _ _ _ false ?_ _); rfl) | (go_at_call 26; refine Bas.call_fam HF hB0 (kruns_eq _ _ _ _ _ _ true ?_ _); rfl) | (go_at_call 26; refine Bas.call_fam HF hB0 (kruns_eq _ _ _ _ _ _ false ?_ _); rfl) | (go_at_call 30; refine Bas.call_fam HF hB0 (fits_eq _ _ _ _ true ?_ _); rfl) | (go_at_call 30; refine Bas.call_fam HF hB0 (fits_eq _ _ _ _ false ?_ _); rfl))))
        refine wpQuiet_nil ?_
        intro i1
        go_wp2_with (fail)
        go_roundw
        case rel => exact ⟨3, by omega, by go_num, i1, rfl⟩
        case measure => simp [intOf]
      · go_wp2_with (fail)
        refine Bas.region_fam (by kernel_rfl) (by kernel_rfl) hst ?_
        clear hst
        repeat (go_big_quiet_step ((first | (go_at_call 21; refine Bas.call_fam HF hB0 (mturned_eq _ _ _ _ _ _ true ?_ _); rfl) | (go_at_call 21; refine Bas.call_fam HF hB0 (mturned_eq _ _ _ _ _ _ false ?_ _); rfl) | (go_at_call 28; refine Bas.call_fam HF hB0 (kturned_eq _ _ _ _ _ _ true ?_ _); rfl) | (go_at_call 28; refine Bas.call_fam HF hB0 (kturned_eq _ _ _ _ _ _ false ?_ _); rfl) | (go_at_call 19; refine Bas.call_fam HF hB0 (mruns_eq _ _ _ _ _ _ true ?_ _); rfl) | (go_at_call 19; refine Bas.call_fam HF hB0 (mruns_eq _ _ _ _ _ _ false ?_ _); rfl) | (go_at_call 26; refine Bas.call_fam HF hB0 (kruns_eq _ _ _ _ _ _ true ?_ _); rfl) | (go_at_call 26; refine Bas.call_fam HF hB0 (kruns_eq _ _ _ _ _ _ false ?_ _); rfl) | (go_at_call 30; refine Bas.call_fam HF hB0 (fits_eq _ _ _ _ true ?_ _); rfl) | (go_at_call 30; refine Bas.call_fam HF hB0 (fits_eq _ _ _ _ false ?_ _); rfl))))
        refine wpQuiet_nil ?_
        intro i1
        go_wp2_with (fail)
        go_ret
        exact ⟨rfl, HB4.trans ((HF.2 i1).mono HB4.size)⟩

theorem coverMirror_law (x : Int) (w : World) (wx : (Lit.int .u32 x).wf = true) :
    Calls Try.prog 5 #[.int .u32 x] w fun e w' => e = .returned (.bool true) ∧ Below w.heap.size w w' :=
  coverMirror_walk x w (Bas.wf_u32 wx).1 (Bas.wf_u32 wx).2
end Cov
end Go.Proofs.Ytakpppgikgimnaa
