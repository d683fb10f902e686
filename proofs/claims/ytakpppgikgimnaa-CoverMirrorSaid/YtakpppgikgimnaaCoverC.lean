/- Layer 10 (cover): what 'speaks' answers. -/
import Derived.Test.YtakpppgikgimnaaCoverB
namespace Go.Proofs.Ytakpppgikgimnaa
open Go.RowKit
namespace Cov

theorem ofMorx_c (w : World) :
    Calls Try.prog 16 #[.int .u32 1073741826] w fun e w' => e = .returned (.agg #[.int .i64 2, .bool false, .bool true, .bool false, .bool false]) ∧ Below w.heap.size w w' :=
  (ofMorx_any 1073741826 w (by omega) (by omega)).mono fun _ _ ⟨he, hb⟩ => ⟨he, hb⟩

theorem mruns_eq (kind : Int) (v back both logical : Bool) (d : Int) (b : Bool) (h : runsM v both d = b) (w : World) :
    Calls Try.prog 19 #[.agg #[.int .i64 kind, .bool v, .bool back, .bool both, .bool logical], .int .i64 d] w fun e w' => e = .returned (.bool b) ∧ Below w.heap.size w w' := h ▸ mruns_any kind v back both logical d w
theorem mturned_eq (kind : Int) (v back both logical : Bool) (d : Int) (b : Bool) (h : turnedM back logical d = b) (w : World) :
    Calls Try.prog 21 #[.agg #[.int .i64 kind, .bool v, .bool back, .bool both, .bool logical], .int .i64 d] w fun e w' => e = .returned (.bool b) ∧ Below w.heap.size w w' := h ▸ mturned_any kind v back both logical d w
theorem kruns_eq (kind : Int) (v back both logical : Bool) (d : Int) (b : Bool) (h : runsK v logical d = b) (w : World) :
    Calls Try.prog 26 #[.agg #[.int .i64 kind, .bool v, .bool back, .bool both, .bool logical], .int .i64 d] w fun e w' => e = .returned (.bool b) ∧ Below w.heap.size w w' := h ▸ kruns_any kind v back both logical d w
theorem kturned_eq (kind : Int) (v back both logical : Bool) (d : Int) (b : Bool) (h : turnedK back d = b) (w : World) :
    Calls Try.prog 28 #[.agg #[.int .i64 kind, .bool v, .bool back, .bool both, .bool logical], .int .i64 d] w fun e w' => e = .returned (.bool b) ∧ Below w.heap.size w w' := h ▸ kturned_any kind v back both logical d w

set_option maxHeartbeats 1000000 in
theorem speaks_any (w : World) : Calls Try.prog 15 #[] w fun e w' => e = .returned (.bool true) ∧ Below w.heap.size w w' := by
  have e1 : turnedM true false 0 = true := rfl
  have e2 : turnedM true false 1 = false := rfl
  have e3 : runsM false false 0 = true := rfl
  have e4 : runsM false false 2 = false := rfl
  have e5 : isDir 2 = true := rfl
  have e6 : isDir 3 = false := rfl
  go_enter Try.func15, Try.ntmps15
  go_wp2_with (fail)
  refine (ofMorx_c _).mono ?_
  rintro e w1 ⟨rfl, hb1⟩
  obtain ⟨hc1, hf1⟩ := Bas.bcell hb1
  go_wp2_with (fail)
  refine (mturned_eq _ _ _ _ _ _ _ e1 _).mono ?_
  rintro e w2 ⟨rfl, hb2⟩
  have HB2 := hb2
  obtain ⟨hc2, hf2⟩ := Bas.bcell HB2
  clear hb2
  go_wp2_with (fail)
  refine (mturned_eq _ _ _ _ _ _ _ e2 _).mono ?_
  rintro e w3 ⟨rfl, hb3⟩
  have HB3 := Bas.on HB2 hb3
  obtain ⟨hc3, hf3⟩ := Bas.bcell HB3
  clear hb3 hc2 hf2
  go_wp2_with (fail)
  refine (mruns_eq _ _ _ _ _ _ _ e3 _).mono ?_
  rintro e w4 ⟨rfl, hb4⟩
  have HB4 := Bas.on HB3 hb4
  obtain ⟨hc4, hf4⟩ := Bas.bcell HB4
  clear hb4 hc3 hf3
  go_wp2_with (fail)
  refine (mruns_eq _ _ _ _ _ _ _ e4 _).mono ?_
  rintro e w5 ⟨rfl, hb5⟩
  have HB5 := Bas.on HB4 hb5
  obtain ⟨hc5, hf5⟩ := Bas.bcell HB5
  clear hb5 hc4 hf4
  go_wp2_with (go_at_call 23; refine (is_any _ _).mono ?_; rintro e w' ⟨rfl, rfl⟩)
  go_ret
  exact ⟨rfl, ((hb1.alloc hb1.size _).trans (HB5.mono (by have := hb1.size; simp; omega)))⟩
end Cov
end Go.Proofs.Ytakpppgikgimnaa
