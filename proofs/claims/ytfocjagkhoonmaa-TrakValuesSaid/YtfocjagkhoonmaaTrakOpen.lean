/- Layer 27's plans: opened, and small ones. -/
import Derived.Test.YtfocjagkhoonmaaTrakSpeak
import Derived.Test.YtfocjagkhoonmaaOpen
namespace Go.Proofs.Ytfocjagkhoonmaa
open Go.RowKit Go.ChangeShapes Go.WideShapes Go.ChangeAt
namespace Tk
open Vw

instance : Inhabited PTrack := ⟨⟨0, []⟩⟩

theorem zip_self {α β : Type} (l : List (α × β)) : (l.map Prod.fst).zip (l.map Prod.snd) = l := by
  induction l with
  | nil => rfl
  | cons x l ih => simp [ih]
theorem list2 {c : List Value} (h : c.length = 2) {a b : Value} (h0 : c[0]? = some a) (h1 : c[1]? = some b) : c = [a, b] := by
  match c, h with
  | [x, y], _ => simp at h0 h1; subst h0 h1; rfl
theorem two_of {c : List Value} (h : c.length = 2) : ∃ a b, c = [a, b] := by
  match c, h with
  | [x, y], _ => exact ⟨x, y, rfl⟩
theorem four_of {c : List Value} (h : c.length = 4) : ∃ a b d e, c = [a, b, d, e] := by
  match c, h with
  | [x, y, z, u], _ => exact ⟨x, y, z, u, rfl⟩

section
variable {H : Type} {enc : TypeId × Value → H} {P : Program} {w : World} {base : Nat} {held : Bool}

/-- A slice of numbers, opened where it lies. -/
theorem open_nums {kd : IntKind} {t e : TypeId} {fuel : Nat} {v : Value} {x : DataW H × List MemPlace} (ht : P.underlying t = some (.slice e)) (he : P.underlying e = some (.int kd)) (hc : P.cellsOf e = 1) (h : DataW.trod enc P w base (fun _ => true) held fuel t [v] = some x) :
    ∃ l : List Int, Row.Leads w v l.length (l.flatMap fun s => [.int kd s]) ∧ ∀ s ∈ l, (Lit.int kd s).wf = true := by
  rcases Go.Deep.open_slice ht h with ⟨h0, _⟩ | ⟨a, len, cap, m, n, D, Pl, h0, _, hl, hm, hmm, _, hx⟩
  · cases h0
    exact ⟨[], .inl ⟨rfl, rfl, rfl⟩, fun r hr => by cases hr⟩
  · cases h0
    rw [hc] at hx
    obtain ⟨l, h1, h2, h3⟩ := Bas.open_elems (m := 1) (f := fun s : Int => [Value.int kd s]) (good := fun s => (Lit.int kd s).wf = true) (by omega) (fun _ => rfl) (w := w) (base := base) (a := a) (len := len) (cap := cap) (fun i hi => by
      obtain ⟨cs, e1, e2⟩ := hx i (by rw [hmm]; simp; omega)
      refine ⟨cs, e1, ?_⟩
      obtain ⟨s, e3, _, hw⟩ := DataW.trod_int he e2
      exact ⟨s, e3, hw⟩)
    subst h1
    exact ⟨l, h2, h3⟩

theorem open_sizes {fuel : Nat} {v : Value} {x : DataW H × List MemPlace} (h : DataW.trod enc Try.prog w base (fun _ => true) held fuel 22 [v] = some x) : ∃ l : List Int, PSizes w v l ∧ rgSizes l := by
  obtain ⟨l, h1, h2⟩ := open_nums (kd := .i32) Try.underlying22 Try.underlying21 (by kernel_rfl) h
  exact ⟨l, h1, fun s hs => Bas.wf_i32 (h2 s hs)⟩
theorem open_vals {fuel : Nat} {v : Value} {x : DataW H × List MemPlace} (h : DataW.trod enc Try.prog w base (fun _ => true) held fuel 46 [v] = some x) : ∃ l : List Int, Row.Leads w v l.length (l.flatMap wI16) ∧ ∀ s ∈ l, -32768 ≤ s ∧ s ≤ 32767 := by
  obtain ⟨l, h1, h2⟩ := open_nums (kd := .i16) Try.underlying46 Try.underlying49 (by kernel_rfl) h
  exact ⟨l, h1, fun s hs => Bas.wf_i16 (h2 s hs)⟩

theorem open_tracks {fuel : Nat} {v : Value} {x : DataW H × List MemPlace} (h : DataW.trod enc Try.prog w base (fun _ => true) held fuel 24 [v] = some x) :
    ∃ l : List PTrack, PTracks w v l ∧ ∀ c ∈ l, rgTrack c := by
  rcases Go.Deep.open_slice Try.underlying24 h with ⟨h0, _⟩ | ⟨a, len, cap, m, n, D, Pl, h0, _, hl, hm, hmm, _, hx⟩
  · cases h0
    exact ⟨[], ⟨[], rfl, .inl ⟨rfl, rfl, rfl⟩, fun j s d hs => by simp at hs⟩, fun r hr => by cases hr⟩
  · cases h0
    have hc3 : Try.prog.cellsOf 48 = 2 := by kernel_rfl
    rw [hc3] at hx
    obtain ⟨l, h1, h2, h3⟩ := Bas.open_elems (f := wTC) (good := fun x => Row.Leads w x.2 x.1.vals.length (x.1.vals.flatMap wI16) ∧ rgTrack x.1) (by omega) wTC_len (w := w) (base := base) (a := a) (len := len) (cap := cap) (fun i hi => by
      obtain ⟨cs, e1, e2⟩ := hx i (by rw [hmm]; simp; omega)
      refine ⟨cs, e1, ?_⟩
      obtain ⟨_, hlen, _⟩ := World.cells?_some e1
      obtain ⟨n0, f0, w0⟩ := Bas.open_field_int (kd := .i32) 0 _ Try.underlying48 e2 rfl (by kernel_rfl) (by rw [hc3]; decide) (by kernel_rfl)
      obtain ⟨_, v2, y2, m2, f2, t2⟩ := Bas.open_field 1 _ Try.underlying48 e2 rfl (by kernel_rfl) (by rw [hc3]; decide)
      obtain ⟨ls, hs1, hs2⟩ := open_vals t2
      exact ⟨(⟨n0, ls⟩, v2), list2 hlen f0 f2, hs1, Bas.wf_i32 w0, hs2⟩)
    subst h1
    refine ⟨l.map Prod.fst, ⟨l.map Prod.snd, by simp, by rw [zip_self, List.length_map]; exact h2, fun j s d hs hd => ?_⟩, fun s hs => ?_⟩
    · rw [List.getElem?_map] at hs hd
      cases hj : l[j]? with
      | none => rw [hj] at hs; cases hs
      | some y =>
        rw [hj] at hs hd
        cases hs; cases hd
        exact (h3 y (List.mem_of_getElem? hj)).1
    · obtain ⟨y, hy, rfl⟩ := List.mem_map.1 hs
      exact (h3 y hy).2

/-- Two cells of an array. -/
theorem open_pair {t e : TypeId} {fuel : Nat} {a b : Value} {x : DataW H × List MemPlace} (ht : P.underlying t = some (.array 2 e)) (hce : P.cellsOf e = 1) (h : DataW.trod enc P w base (fun _ => true) held fuel t [a, b] = some x) :
    ∃ y0 y1 n, DataW.trod enc P w base (fun _ => true) held n e [a] = some y0 ∧ DataW.trod enc P w base (fun _ => true) held n e [b] = some y1 := by
  obtain ⟨ys, m, rfl, hx, hlen, hyl, hel⟩ := DataW.trod_array ht h
  rw [hce] at hel
  have h0 := hel 0 (by simp)
  have h1 := hel 1 (by simp)
  rw [List.getElem?_eq_getElem (by omega)] at h0 h1
  exact ⟨_, _, m, by simpa using h0, by simpa using h1⟩
end

set_option maxRecDepth 100000 in
theorem open_plan {H : Type} {enc : TypeId × Value → H} (v : Value) (d : DataW H) (p : List MemPlace) (W : World) {base : Nat} (hv : Value.okWide Try.prog W .any base 27 v) (ht : DataW.Trod enc Try.prog W 0 (fun _ => true) true 27 v d p) :
    ∃ sa sb ta tb q, v = .agg #[sa, sb, ta, tb] ∧ PPlan W sa sb ta tb q ∧ rgPlan q := by
  obtain ⟨cs, rfl, hcs⟩ := okWide_struct Try.underlying27 hv
  have hc4 : Try.prog.cellsOf 27 = 4 := by kernel_rfl
  rw [hc4] at hcs
  obtain ⟨a, b, c, e, hl⟩ := four_of (c := cs.toList) (by simpa using hcs)
  obtain rfl : cs = #[a, b, c, e] := by cases cs; simp at hl; simp [hl]
  obtain ⟨fuel, hf⟩ := ht
  obtain ⟨y0, y1, n, _, _, h0, h1⟩ := trod_struct2 Try.underlying27 hf
  have hp2 : Try.prog.cellsOf 23 = 2 := by kernel_rfl
  have hp3 : Try.prog.cellsOf 25 = 2 := by kernel_rfl
  simp only [hp2, hp3] at h0 h1
  have h0' : DataW.trod enc Try.prog W 0 (fun _ => true) true n 23 [a, b] = some y0 := h0
  have h1' : DataW.trod enc Try.prog W 0 (fun _ => true) true n 25 [c, e] = some y1 := h1
  obtain ⟨_, _, _, u0, u1⟩ := open_pair Try.underlying23 (by kernel_rfl) h0'
  obtain ⟨_, _, _, u2, u3⟩ := open_pair Try.underlying25 (by kernel_rfl) h1'
  obtain ⟨l0, g0, r0⟩ := open_sizes u0
  obtain ⟨l1, g1, r1⟩ := open_sizes u1
  obtain ⟨l2, g2, r2⟩ := open_tracks u2
  obtain ⟨l3, g3, r3⟩ := open_tracks u3
  exact ⟨a, b, c, e, ⟨l0, l1, l2, l3⟩, rfl, ⟨g0, g1, g2, g3⟩, ⟨r0, r2⟩, r1, r3⟩

def smallB (m0 n0 m1 n1 : Nat) : Bool := (!(decide (20 < m0) || decide (10 < n0))) && !(decide (20 < m1) || decide (10 < n1))
theorem smallB_iff (p : WPlanT) : smallB p.s0.length p.t0.length p.s1.length p.t1.length = true ↔ smallP p := by
  unfold smallB smallP
  simp

set_option maxRecDepth 100000 in
set_option maxHeartbeats 8000000 in
theorem small_any (a0 a1 a2 a3 : Option Addr) (m0 m1 n0 n1 c0 c1 c2 c3 : Nat) (w : World) :
    Calls Try.prog 15 #[.agg #[.slice a0 m0 c0, .slice a1 m1 c1, .slice a2 n0 c2, .slice a3 n1 c3]] w fun e w' => e = .returned (.bool (smallB m0 n0 m1 n1)) ∧ Below w.heap.size w w' := by
  go_enter Try.func15, Try.ntmps15
  go_wp2_with (fail)
  have k1 := Bas.heap_new w (.cells #[.slice a0 m0 c0, .slice a1 m1 c1, .slice a2 n0 c2, .slice a3 n1 c3] 27)
  have HB := Bas.hid ((Below.refl w.heap.size w).alloc (Nat.le_refl _) (.cells #[.slice a0 m0 c0, .slice a1 m1 c1, .slice a2 n0 c2, .slice a3 n1 c3] 27))
  generalize w.alloc (.cells #[.slice a0 m0 c0, .slice a1 m1 c1, .slice a2 n0 c2, .slice a3 n1 c3] 27) = W at *
  have q0 := cell_of_heap (i := 0) (v := .slice a0 m0 c0) k1 rfl
  have q1 := cell_of_heap (i := 1) (v := .slice a1 m1 c1) k1 rfl
  have q2 := cell_of_heap (i := 2) (v := .slice a2 n0 c2) k1 rfl
  have q3 := cell_of_heap (i := 3) (v := .slice a3 n1 c3) k1 rfl
  clear k1
  go_loopw [4] (fun vi wr => ∃ k : Nat, k ≤ 2 ∧ vi = .int .i64 k ∧ wr = W ∧ (0 < k → ¬ 20 < m0 ∧ ¬ 10 < n0) ∧ (1 < k → ¬ 20 < m1 ∧ ¬ 10 < n1)) (fun vi _ => 2 - (intOf vi).toNat)
  case atStart => exact ⟨0, by omega, rfl, rfl, fun h => by omega, fun h => by omega⟩
  case round =>
    obtain ⟨k, hk, rfl, rfl, hs0, hs1⟩ := hrel
    have HS0 := Bas.hid hs0
    have HS1 := Bas.hid hs1
    clear hs0 hs1
    rcases (by omega : k = 0 ∨ k = 1 ∨ k = 2) with rfl | rfl | rfl
    · by_cases h1 : 20 < m0
      · have HR : Hid (smallB m0 n0 m1 n1 = false) := by unfold Hid smallB; simp [h1]
        have d1 : decide ((20 : Int) < (m0 : Int)) = true := by simp; omega
        have d2 : decide (20 < m0) = true := by simp; omega
        clear h1
        go_wp2_with (fail)
        go_ret
        exact ⟨by rw [HR.out]; rfl, HB.out⟩
      · have d1 : decide ((20 : Int) < (m0 : Int)) = false := by simp; omega
        have d2 : decide (20 < m0) = false := by simp; omega
        by_cases h2 : 10 < n0
        · have HR : Hid (smallB m0 n0 m1 n1 = false) := by unfold Hid smallB; simp [h2]
          have d3 : decide ((10 : Int) < (n0 : Int)) = true := by simp; omega
          have d4 : decide (10 < n0) = true := by simp; omega
          clear h1 h2
          go_wp2_with (fail)
          go_ret
          exact ⟨by rw [HR.out]; rfl, HB.out⟩
        · have d3 : decide ((10 : Int) < (n0 : Int)) = false := by simp; omega
          have d4 : decide (10 < n0) = false := by simp; omega
          have HH : Hid (¬ 20 < m0 ∧ ¬ 10 < n0) := ⟨h1, h2⟩
          clear h1 h2
          go_wp2_with (fail)
          go_roundw
          case rel => exact ⟨1, by omega, by go_num, trivial, fun _ => HH.out, fun h => by omega⟩
          case measure => simp [intOf]
    · by_cases h1 : 20 < m1
      · have HR : Hid (smallB m0 n0 m1 n1 = false) := by unfold Hid smallB; simp [h1]
        have d1 : decide ((20 : Int) < (m1 : Int)) = true := by simp; omega
        have d2 : decide (20 < m1) = true := by simp; omega
        clear h1
        go_wp2_with (fail)
        go_ret
        exact ⟨by rw [HR.out]; rfl, HB.out⟩
      · have d1 : decide ((20 : Int) < (m1 : Int)) = false := by simp; omega
        have d2 : decide (20 < m1) = false := by simp; omega
        by_cases h2 : 10 < n1
        · have HR : Hid (smallB m0 n0 m1 n1 = false) := by unfold Hid smallB; simp [h2]
          have d3 : decide ((10 : Int) < (n1 : Int)) = true := by simp; omega
          have d4 : decide (10 < n1) = true := by simp; omega
          clear h1 h2
          go_wp2_with (fail)
          go_ret
          exact ⟨by rw [HR.out]; rfl, HB.out⟩
        · have d3 : decide ((10 : Int) < (n1 : Int)) = false := by simp; omega
          have d4 : decide (10 < n1) = false := by simp; omega
          have HH : Hid (¬ 20 < m1 ∧ ¬ 10 < n1) := ⟨h1, h2⟩
          clear h1 h2
          go_wp2_with (fail)
          go_roundw
          case rel => exact ⟨2, by omega, by go_num, trivial, fun _ => HS0.out (by omega), fun _ => HH.out⟩
          case measure => simp [intOf]
    · have HR : Hid (smallB m0 n0 m1 n1 = true) := by
        have h0 := HS0.out (by omega)
        have h1 := HS1.out (by omega)
        unfold Hid smallB; simp; omega
      clear HS0 HS1
      go_wp2_with (fail)
      go_ret
      exact ⟨by rw [HR.out]; rfl, HB.out⟩
end Tk
end Go.Proofs.Ytfocjagkhoonmaa
