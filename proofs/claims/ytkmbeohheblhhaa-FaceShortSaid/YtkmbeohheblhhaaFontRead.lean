/- Layer 3 (face): Read. -/
import Derived.Test.YtkmbeohheblhhaaFontFace
import Derived.Test.YtkmbeohheblhhaaTry
namespace Go.Proofs.Ytkmbeohheblhhaa
open Go.RowKit
namespace Fo
open Vw Wr

set_option maxHeartbeats 2000000 in
theorem ftake_t1 (a : Option Addr) (len cap : Nat) (w : World)
    (hN : ∀ w', Below w.heap.size w w' → Calls Try.prog 29 #[.slice a len cap, .string sMaxp] w' fun e w'' => e = .panicked short ∧ Below w'.heap.size w' w'') :
    Calls Try.prog 15 #[.slice a len cap] w fun e w' => e = .panicked short ∧ Below w.heap.size w w' := by
  have HN := Bas.hid hN
  have HB0 := Bas.hid ((Below.refl w.heap.size w).alloc (Nat.le_refl _) (.cells #[.int .i64 0, .int .i64 0, .int .i64 0] 29))
  clear hN
  go_enter Try.func15, Try.ntmps15
  go_wp2_with (fail)
  generalize w.alloc (.cells #[.int .i64 0, .int .i64 0, .int .i64 0] 29) = W0 at *
  refine (HN.out _ HB0.out).mono ?_
  rintro e X ⟨rfl, hbx⟩
  have HBX := Bas.hid (HB0.out.trans (hbx.mono HB0.out.size))
  clear hbx
  go_wp2_with (fail)
  exact ⟨rfl, rfl, HBX.out⟩

set_option maxHeartbeats 2000000 in
theorem ftake_t2 (a : Option Addr) (len cap : Nat) (w : World)
    (x0 : Option Addr) (l0 : Nat) (hT0 : ∀ w', Below w.heap.size w w' → Calls Try.prog 29 #[.slice a len cap, .string sMaxp] w' fun e w'' => e = .returned (.agg #[.slice x0 l0 l0]) ∧ Below w'.heap.size w' w'')
    (hN : ∀ w', Below w.heap.size w w' → Calls Try.prog 29 #[.slice a len cap, .string sHead] w' fun e w'' => e = .panicked short ∧ Below w'.heap.size w' w'') :
    Calls Try.prog 15 #[.slice a len cap] w fun e w' => e = .panicked short ∧ Below w.heap.size w w' := by
  have HT0 := Bas.hid hT0
  have HN := Bas.hid hN
  have HB0 := Bas.hid ((Below.refl w.heap.size w).alloc (Nat.le_refl _) (.cells #[.int .i64 0, .int .i64 0, .int .i64 0] 29))
  clear hN hT0
  go_enter Try.func15, Try.ntmps15
  go_wp2_with (fail)
  generalize w.alloc (.cells #[.int .i64 0, .int .i64 0, .int .i64 0] 29) = W0 at *
  refine (HT0.out _ HB0.out).mono ?_
  rintro e W1 ⟨rfl, hb1⟩
  have HB1 := Bas.hid (HB0.out.trans (hb1.mono HB0.out.size))
  clear hb1
  go_wp2_with (fail)
  refine (HN.out _ HB1.out).mono ?_
  rintro e X ⟨rfl, hbx⟩
  have HBX := Bas.hid (HB1.out.trans (hbx.mono HB1.out.size))
  clear hbx
  go_wp2_with (fail)
  exact ⟨rfl, rfl, HBX.out⟩

set_option maxHeartbeats 2000000 in
theorem ftake_t3 (a : Option Addr) (len cap : Nat) (w : World)
    (x0 : Option Addr) (l0 : Nat) (hT0 : ∀ w', Below w.heap.size w w' → Calls Try.prog 29 #[.slice a len cap, .string sMaxp] w' fun e w'' => e = .returned (.agg #[.slice x0 l0 l0]) ∧ Below w'.heap.size w' w'')
    (x1 : Option Addr) (l1 : Nat) (hT1 : ∀ w', Below w.heap.size w w' → Calls Try.prog 29 #[.slice a len cap, .string sHead] w' fun e w'' => e = .returned (.agg #[.slice x1 l1 l1]) ∧ Below w'.heap.size w' w'')
    (hN : ∀ w', Below w.heap.size w w' → Calls Try.prog 29 #[.slice a len cap, .string sHhea] w' fun e w'' => e = .panicked short ∧ Below w'.heap.size w' w'') :
    Calls Try.prog 15 #[.slice a len cap] w fun e w' => e = .panicked short ∧ Below w.heap.size w w' := by
  have HT0 := Bas.hid hT0
  have HT1 := Bas.hid hT1
  have HN := Bas.hid hN
  have HB0 := Bas.hid ((Below.refl w.heap.size w).alloc (Nat.le_refl _) (.cells #[.int .i64 0, .int .i64 0, .int .i64 0] 29))
  clear hN hT0 hT1
  go_enter Try.func15, Try.ntmps15
  go_wp2_with (fail)
  generalize w.alloc (.cells #[.int .i64 0, .int .i64 0, .int .i64 0] 29) = W0 at *
  refine (HT0.out _ HB0.out).mono ?_
  rintro e W1 ⟨rfl, hb1⟩
  have HB1 := Bas.hid (HB0.out.trans (hb1.mono HB0.out.size))
  clear hb1
  go_wp2_with (fail)
  refine (HT1.out _ HB1.out).mono ?_
  rintro e W2 ⟨rfl, hb2⟩
  have HB2 := Bas.hid (HB1.out.trans (hb2.mono HB1.out.size))
  clear hb2
  go_wp2_with (fail)
  refine (HN.out _ HB2.out).mono ?_
  rintro e X ⟨rfl, hbx⟩
  have HBX := Bas.hid (HB2.out.trans (hbx.mono HB2.out.size))
  clear hbx
  go_wp2_with (fail)
  exact ⟨rfl, rfl, HBX.out⟩

/-- What take answers: three numbers, or it is thrown. -/
def TakeF (X : Option (Int × Int × Int)) (w : World) (e : Ending) (w' : World) : Prop :=
  Below w.heap.size w w' ∧ e = match X with
    | none => .panicked short
    | some x => .returned (.agg #[.int .i64 x.1, .int .i64 x.2.1, .int .i64 x.2.2])

def FR (W : World) (bo : Nat) (X : Option (Int × Int × Int)) (ok : Bool) (w2 : World) : Prop :=
  W.grownBy w2 (some bo) ∧ ok = X.isSome ∧ w2.heap[bo]? = some (.cells #[.int .i64 (X.getD (0, 0, 0)).1, .int .i64 (X.getD (0, 0, 0)).2.1, .int .i64 (X.getD (0, 0, 0)).2.2] 29 (0, 0))

set_option maxHeartbeats 4000000 in
theorem fread1_any (a : Option Addr) (len cap : Nat) (X : Option (Int × Int × Int)) (bb bo bt : Nat) (W : World) (hT : ∀ w, Below W.heap.size W w → Calls Try.prog 15 #[.slice a len cap] w (TakeF X w))
    (h1 : W.cell? ⟨bb, 0, none⟩ = some (.slice a len cap)) (h5 : W.heap[bo]? = some (.cells #[.int .i64 0, .int .i64 0, .int .i64 0] 29 (0, 0))) (hne : bt ≠ bo) (hk : W.heap[bt]? = some (.cells #[.bool false] 4 (0, 0))) :
    Calls Try.prog 14 #[.pointer (some ⟨bb, 0, none⟩), .pointer (some ⟨bo, 0, none⟩)] W (TryPost bt (FR W bo X)) := by
  have l5 := heap_lt h5
  have lt := heap_lt hk
  have HT := Bas.hid hT
  clear hT
  go_enter Try.func14, Try.ntmps14
  go_wp2_with (fail)
  refine (HT.out _ (Below.refl _ _)).mono ?_
  rintro e w2 ⟨hb, he⟩
  cases X with
  | none =>
    simp only at he
    subst he
    have HP : Hid (TryPost bt (FR W bo none) (.panicked short) w2) := ⟨(hb.block bt lt).trans hk, .inr ⟨rfl, Bas.gbelow (Bas.grefl _ _) hb, rfl, (hb.block bo l5).trans h5⟩⟩
    clear HT hb
    go_wp2_with (fail)
    exact ⟨rfl, HP.out⟩
  | some x =>
    simp only at he
    subst he
    have k5 := (hb.block bo l5).trans h5
    have HP : Hid (TryPost bt (FR W bo (some x)) (.returned (.tuple #[])) (((w2.setCell ⟨bo, 0, none⟩ (.int .i64 x.1)).setCell ⟨bo, 1, none⟩ (.int .i64 x.2.1)).setCell ⟨bo, 2, none⟩ (.int .i64 x.2.2))) := by
      refine ⟨((Below.heap_setCell _ _ _ _ hne).trans ((Below.heap_setCell _ _ _ _ hne).trans (Below.heap_setCell _ _ _ _ hne))).trans ((hb.block bt lt).trans hk), .inl ⟨rfl, ?_, rfl, ?_⟩⟩
      · exact Bas.gset (Bas.gset (Bas.gset (Bas.gbelow (Bas.grefl _ _) hb) _ _) _ _) _ _
      · exact heap_set (i := 2) (heap_set (i := 1) (heap_set (i := 0) k5 _) _) _
    have c0 := cell_of_heap (i := 0) (v := .int .i64 0) k5 rfl
    have c1 := cell_of_heap (i := 1) (v := .int .i64 0) k5 rfl
    have c2 := cell_of_heap (i := 2) (v := .int .i64 0) k5 rfl
    have f0 := fun i => free_of_heap (i := i) k5
    clear HT hb h5 h1 hk k5
    go_wp2_with (fail)
    exact bodyPost_ret (v := .tuple #[]) (by simp [results, Try.results14, go_sem]) rfl HP.out

def ReadF (X : Option (Int × Int × Int)) (w : World) (e : Ending) (w' : World) : Prop :=
  Below w.heap.size w w' ∧ e = .returned (.tuple #[.agg #[.int .i64 (X.getD (0, 0, 0)).1, .int .i64 (X.getD (0, 0, 0)).2.1, .int .i64 (X.getD (0, 0, 0)).2.2], .int .i64 (if X.isSome then 0 else 2)])

set_option maxHeartbeats 4000000 in
theorem fread_any (a : Option Addr) (len cap : Nat) (X : Option (Int × Int × Int)) (w : World) (hT : ∀ w', Below w.heap.size w w' → Calls Try.prog 15 #[.slice a len cap] w' (TakeF X w')) :
    Calls Try.prog 7 #[.slice a len cap] w (ReadF X w) := by
  have hmf : ∀ (fn : Fn) (first cap : Array Value) (w : World), (Instr.makeFunc fn first cap).run Try.prog w = .ok (.func fn first cap) w := fun _ _ _ _ => rfl
  have hcf : ∀ (caps : Array Value) w, (callFunc 14 caps).run Try.prog w = .ok (.enter 14 caps) w := fun caps w => by simp [go_sem]
  have HCF := Bas.hid hcf
  have HT := Bas.hid hT
  clear hcf hT
  go_enter Try.func7, Try.ntmps7
  go_wp2_with (fail)
  have kb : ((w.alloc (.cells #[.slice a len cap] 22)).alloc (.cells #[.int .i64 0, .int .i64 0, .int .i64 0] 29)).heap[w.heap.size]? = some (.cells #[.slice a len cap] 22 (0, 0)) := by
    rw [Below.heap_alloc _ _ _ (by simp)]; exact Bas.heap_new _ _
  have ko := Bas.heap_new2 w (.cells #[.slice a len cap] 22) (.cells #[.int .i64 0, .int .i64 0, .int .i64 0] 29)
  have hWs : ((w.alloc (.cells #[.slice a len cap] 22)).alloc (.cells #[.int .i64 0, .int .i64 0, .int .i64 0] 29)).heap.size = w.heap.size + 2 := by simp
  have HB : Below w.heap.size w ((w.alloc (.cells #[.slice a len cap] 22)).alloc (.cells #[.int .i64 0, .int .i64 0, .int .i64 0] 29)) := ((Below.refl w.heap.size w).alloc (Nat.le_refl _) _).alloc (by simp) _
  generalize (w.alloc (.cells #[.slice a len cap] 22)).alloc (.cells #[.int .i64 0, .int .i64 0, .int .i64 0] 29) = W at *
  have HC := fread1_any a len cap X w.heap.size (w.heap.size + 1) W.heap.size (W.alloc (.cells #[.bool false] 4)) (fun w' hb => HT.out w' ((HB.alloc HB.size _).trans (hb.mono (by simp; omega))))
    (cell_of_heap (i := 0) ((Below.heap_alloc W _ _ (by omega)).trans kb) rfl) ((Below.heap_alloc W _ _ (by omega)).trans ko) (by omega) (Bas.heap_new _ _)
  refine (try_any 14 _ W _ (HCF.out _) HC).mono ?_
  clear HC HCF HT
  rintro e w5 ⟨ok, w2, rfl, ⟨hg2, hok, ho2⟩, hlt2, hg5⟩
  subst hok
  have hs2 := hg2.size
  simp only [World.size_alloc] at hs2
  have hs5 := hg5.size
  have ko5 := (hg5.block (w.heap.size + 1) (by omega) (by simp; omega)).trans ho2
  have HB5 := Bas.hid (Bas.below_g (Bas.below_g (HB.alloc HB.size _) hg2 (by simp; omega) (by omega)) hg5 (by omega) (by omega))
  clear hg2 hg5 ho2 kb ko
  have c0 := cell_of_heap (i := 0) ko5 rfl
  have c1 := cell_of_heap (i := 1) ko5 rfl
  have c2 := cell_of_heap (i := 2) ko5 rfl
  have f0 := fun i => free_of_heap (i := i) ko5
  clear ko5
  cases X with
  | none =>
    simp only [Option.isSome_none, Option.getD_none] at c0 c1 c2 ⊢
    go_wp2_with (fail)
    exact bodyPost_ret (v := .tuple #[.agg #[.int .i64 0, .int .i64 0, .int .i64 0], .int .i64 2]) (by simp [results, Try.results7, go_sem, c0, c1, c2]) rfl ⟨by first | exact HB5.out | exact ((HB5.out.setCell (p := ⟨w.heap.size + 1, 0, none⟩) (by simp) _).setCell (p := ⟨w.heap.size + 1, 1, none⟩) (by simp) _).setCell (p := ⟨w.heap.size + 1, 2, none⟩) (by simp) _, rfl⟩
  | some x =>
    obtain ⟨x1, x2, x3⟩ := x
    simp only [Option.isSome_some, Option.getD_some] at c0 c1 c2 ⊢
    go_wp2_with (fail)
    exact bodyPost_ret (v := .tuple #[.agg #[.int .i64 x1, .int .i64 x2, .int .i64 x3], .int .i64 0]) (by simp [results, Try.results7, go_sem, c0, c1, c2]) rfl ⟨by first | exact HB5.out | exact ((HB5.out.setCell (p := ⟨w.heap.size + 1, 0, none⟩) (by simp) _).setCell (p := ⟨w.heap.size + 1, 1, none⟩) (by simp) _).setCell (p := ⟨w.heap.size + 1, 2, none⟩) (by simp) _, rfl⟩
end Fo
end Go.Proofs.Ytkmbeohheblhhaa
