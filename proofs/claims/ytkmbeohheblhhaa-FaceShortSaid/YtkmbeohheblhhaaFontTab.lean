/- Layer 3 (face): table, take, of a font. -/
import Derived.Test.YtkmbeohheblhhaaFontLook
import Derived.Test.YtkmbeohheblhhaaFontPlain
namespace Go.Proofs.Ytkmbeohheblhhaa
open Go.RowKit
namespace Fo
open Vw Wr

set_option maxHeartbeats 2000000 in
theorem bs_none (t : ByteArray) (w : World) :
    Calls Try.prog 37 #[.slice none 0 0, .string t, .func (.func 38) #[] #[]] w fun e w' => e = .returned (.tuple #[.int .i64 0, .bool false]) ∧ Below w.heap.size w w' := by
  have HB0 := Bas.hid (Below.refl w.heap.size w)
  go_enter Try.func37, Try.ntmps37
  go_wp2_with (fail)
  go_loopw [9, 10] (fun va vb wr => va = .int .i64 0 ∧ vb = .int .i64 0 ∧ wr = w) (fun _ _ _ => 0)
  case atStart => exact ⟨rfl, rfl, rfl⟩
  case round =>
    obtain ⟨rfl, rfl, rfl⟩ := hrel
    go_wp2_with (fail)
    refine bodyPost_ret (v := .tuple #[.int .i64 0, .bool false]) (by simp [results, Try.results37, go_sem]) rfl ⟨rfl, HB0.out⟩

set_option maxHeartbeats 2000000 in
theorem table_yes (a : Option Addr) (len cap : Nat) (bs : List Int) (P : List PartD) (s : ByteArray) (i : Nat) (p : PartD) (hp : P[i]? = some p) (hs : p.tag = s) (w : World) (hl : len ≤ cap) (hc : cap ≤ maxLen) (hv : VB w a bs) (hbl : bs.length = len) (hF : IsFont bs P) :
    Calls Try.prog 29 #[.slice a len cap, .string s] w fun e w' => e = .returned (.agg #[.slice (sub a (atM P i) p.data.length) p.data.length p.data.length]) ∧ Below w.heap.size w w' := by
  have HAL := Bas.hid ((Below.refl w.heap.size w).alloc (Nat.le_refl _) (.cells #[.slice none 0 0] 48))
  have k4 := Bas.heap_new w (.cells #[.slice none 0 0] 48)
  have HFI := Bas.hid (find_yes a len cap bs P s i p hp hs _ hl hc (hv.below HAL.out) hbl hF)
  clear hv hF hp hs
  go_enter Try.func29, Try.ntmps29
  go_wp2_with (fail)
  generalize w.alloc (.cells #[.slice none 0 0] 48) = W at *
  refine HFI.out.mono ?_
  rintro e w1 ⟨rfl, hb1⟩
  have j4 := (hb1.block _ (heap_lt k4)).trans k4
  have HB1 := Bas.hid (HAL.out.trans (hb1.mono HAL.out.size))
  have r0 := cell_of_heap (i := 0) (v := .slice none 0 0) j4 rfl
  have f0 := free_of_heap (i := 0) j4
  have l4 := heap_lt j4
  clear hb1 k4 HFI HAL
  go_wp2_with (go_at_call 31; refine (need_yesb _ _ rfl).mono ?_; rintro e w' ⟨rfl, rfl⟩)
  refine bodyPost_ret (v := .agg #[.slice (sub a (atM P i) p.data.length) p.data.length p.data.length]) (by simp [results, Try.results29, go_sem, r0, l4]) rfl ⟨rfl, by first | exact (HB1.out.alloc HB1.out.size _).setCell (p := ⟨w.heap.size, 0, none⟩) (Nat.le_refl _) _ | exact (HB1.out.setCell (p := ⟨w.heap.size, 0, none⟩) (Nat.le_refl _) _).alloc (by simp [World.setCell]; exact HB1.out.size) _⟩

set_option maxHeartbeats 2000000 in
theorem table_no (a : Option Addr) (len cap : Nat) (bs : List Int) (P : List PartD) (s : ByteArray) (hP : 1 ≤ P.length) (hs : ∀ p ∈ P, p.tag ≠ s) (w : World) (hl : len ≤ cap) (hc : cap ≤ maxLen) (hv : VB w a bs) (hbl : bs.length = len) (hF : IsFont bs P) :
    Calls Try.prog 29 #[.slice a len cap, .string s] w fun e w' => e = .panicked short ∧ Below w.heap.size w w' := by
  have HAL := Bas.hid ((Below.refl w.heap.size w).alloc (Nat.le_refl _) (.cells #[.slice none 0 0] 48))
  have HFI := Bas.hid (find_no a len cap bs P s hP hs _ hl hc (hv.below HAL.out) hbl hF)
  clear hv hF hs
  go_enter Try.func29, Try.ntmps29
  go_wp2_with (fail)
  generalize w.alloc (.cells #[.slice none 0 0] 48) = W at *
  refine HFI.out.mono ?_
  rintro e w1 ⟨rfl, hb1⟩
  have HB1 := Bas.hid (HAL.out.trans (hb1.mono HAL.out.size))
  have HB2 := Bas.hid (HB1.out.alloc HB1.out.size (.cells #[.slice none 0 0] 48))
  clear hb1 HFI HAL
  go_wp2_with (go_at_call 31; refine (need_nob _ _ rfl).mono ?_; rintro e w' ⟨rfl, rfl⟩)
  exact ⟨rfl, rfl, HB2.out⟩

set_option maxHeartbeats 2000000 in
theorem find_none (a : Option Addr) (cap : Nat) (s : ByteArray) (w : World) (hc : cap ≤ maxLen) :
    Calls Try.prog 19 #[.slice a 0 cap, .string s] w fun e w' => e = .returned (.tuple #[.agg #[.slice none 0 0], .bool false]) ∧ Below w.heap.size w w' := by
  have HAL := Bas.hid ((Below.refl w.heap.size w).alloc (Nat.le_refl _) (.cells #[.slice none 0 0] 48))
  have k4 := Bas.heap_new w (.cells #[.slice none 0 0] 48)
  have HT := Bas.hid (fun w' => tables_no a cap w' hc)
  have HBS := Bas.hid (fun w' => bs_none s w')
  go_enter Try.func19, Try.ntmps19
  go_wp2_with (fail)
  generalize w.alloc (.cells #[.slice none 0 0] 48) = W at *
  refine (HT.out _).mono ?_
  rintro e w1 ⟨hb1, rfl⟩
  have j4 := (hb1.block _ (heap_lt k4)).trans k4
  have HB1 := Bas.hid (HAL.out.trans (hb1.mono HAL.out.size))
  clear hb1 k4 HAL
  go_wp2_with (fail)
  refine (HBS.out _).mono ?_
  rintro e w2 ⟨rfl, hb2⟩
  have m4 := (hb2.block _ (heap_lt j4)).trans j4
  have HB2 := Bas.hid (HB1.out.trans (hb2.mono HB1.out.size))
  have r0 := cell_of_heap (i := 0) (v := .slice none 0 0) m4 rfl
  have f0 := free_of_heap (i := 0) m4
  clear hb2 j4 HB1
  go_wp2_with (fail)
  refine bodyPost_ret (v := .tuple #[.agg #[.slice none 0 0], .bool false]) (by simp [results, Try.results19, go_sem, r0]) rfl ⟨rfl, by first | exact HB2.out | exact HB2.out.setCell (p := ⟨w.heap.size, 0, none⟩) (Nat.le_refl _) _⟩

set_option maxHeartbeats 2000000 in
theorem table_none (a : Option Addr) (cap : Nat) (s : ByteArray) (w : World) (hc : cap ≤ maxLen) :
    Calls Try.prog 29 #[.slice a 0 cap, .string s] w fun e w' => e = .panicked short ∧ Below w.heap.size w w' := by
  have HAL := Bas.hid ((Below.refl w.heap.size w).alloc (Nat.le_refl _) (.cells #[.slice none 0 0] 48))
  have HFI := Bas.hid (fun w' => find_none a cap s w' hc)
  go_enter Try.func29, Try.ntmps29
  go_wp2_with (fail)
  generalize w.alloc (.cells #[.slice none 0 0] 48) = W at *
  refine (HFI.out _).mono ?_
  rintro e w1 ⟨rfl, hb1⟩
  have HB1 := Bas.hid (HAL.out.trans (hb1.mono HAL.out.size))
  have HB2 := Bas.hid (HB1.out.alloc HB1.out.size (.cells #[.slice none 0 0] 48))
  clear hb1 HFI HAL
  go_wp2_with (go_at_call 31; refine (need_nob _ _ rfl).mono ?_; rintro e w' ⟨rfl, rfl⟩)
  exact ⟨rfl, rfl, HB2.out⟩
end Fo
end Go.Proofs.Ytkmbeohheblhhaa
