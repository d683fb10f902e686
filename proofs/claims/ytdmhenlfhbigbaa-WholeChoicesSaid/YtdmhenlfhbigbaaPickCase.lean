/- Layer 9's cases: opened. -/
import Derived.Test.YtdmhenlfhbigbaaPickSpeak
import Derived.Test.YtdmhenlfhbigbaaOpen
import Derived.Deep.Grids
namespace Go.Proofs.Ytdmhenlfhbigbaa
open Go.RowKit Go.ChangeShapes Go.WideShapes Go.ChangeAt
namespace Pk
open Vw

/-- What a case leads to. -/
structure CaseOk (w : World) (a : Option Addr) (n c : Nat) (ka : Option Addr) (kn kc : Nat) (ba : Option Addr) (bn bc : Nat) (l : List (Int × Int)) (K : Nat → Int) (B : Nat → Bool) : Prop where
  leads : Row.Leads w (.slice a n c) n (l.flatMap setC)
  len : l.length = n
  wf : ∀ s ∈ l, wf64 s
  kinds : ∀ i, i < kn → (∃ b o, ka = some ⟨b, o, none⟩ ∧ w.cell? ⟨b, o + i, none⟩ = some (.int .u8 (K i))) ∧ 0 ≤ K i ∧ K i ≤ 255
  excl : ∀ i, i < bn → ∃ b o, ba = some ⟨b, o, none⟩ ∧ w.cell? ⟨b, o + i, none⟩ = some (.bool (B i))
  n63 : n ≤ 9223372036854775807
  k63 : kn ≤ 9223372036854775807
  b63 : bn ≤ 9223372036854775807

theorem three_of {c : List Value} (h : c.length = 3) : ∃ a b d, c = [a, b, d] := by
  match c, h with
  | [x, y, z], _ => exact ⟨x, y, z, rfl⟩
theorem list2 {c : List Value} (h : c.length = 2) {a b : Value} (h0 : c[0]? = some a) (h1 : c[1]? = some b) : c = [a, b] := by
  match c, h with
  | [x, y], _ => simp at h0 h1; subst h0 h1; rfl
theorem list4 {c : List Value} (h : c.length = 4) {a b d e : Value} (h0 : c[0]? = some a) (h1 : c[1]? = some b) (h2 : c[2]? = some d) (h3 : c[3]? = some e) : c = [a, b, d, e] := by
  match c, h with
  | [x, y, z, u], _ => simp at h0 h1 h2 h3; subst h0 h1 h2 h3; rfl
instance : Inhabited RuleD := ⟨⟨0, 0, 0, 0⟩⟩

section
variable {H : Type} {enc : TypeId × Value → H} {w : World} {base : Nat} {held : Bool}

theorem open_settings {fuel : Nat} {v : Value} {x : DataW H × List MemPlace} (h : DataW.trod enc Try.prog w base (fun _ => true) held fuel 23 [v] = some x) :
    ∃ (a : Option Addr) (n c : Nat) (l : List (Int × Int)), v = .slice a n c ∧ n ≤ 9223372036854775807 ∧ l.length = n ∧ Row.Leads w (.slice a n c) n (l.flatMap setC) ∧ ∀ s ∈ l, wf64 s := by
  rcases Go.Deep.open_slice Try.underlying23 h with ⟨h0, _⟩ | ⟨a, len, cap, m, n, D, Pl, h0, _, hl, hm, hmm, _, hx⟩
  · cases h0
    exact ⟨none, 0, 0, [], rfl, by omega, rfl, .inl ⟨rfl, rfl, rfl⟩, fun r hr => by cases hr⟩
  · cases h0
    have hc2 : Try.prog.cellsOf 27 = 2 := by kernel_rfl
    rw [hc2] at hx
    obtain ⟨l, h1, h2, h3⟩ := Bas.open_elems (f := setC) (good := wf64) (by omega) setC_len (w := w) (base := base) (a := a) (len := len) (cap := cap) (fun i hi => by
      obtain ⟨cs, e1, e2⟩ := hx i (by rw [hmm]; simp; omega)
      refine ⟨cs, e1, ?_⟩
      obtain ⟨_, hlen, _⟩ := World.cells?_some e1
      obtain ⟨n0, f0, w0⟩ := Bas.open_field_int (kd := .i64) 0 _ Try.underlying27 e2 rfl (by kernel_rfl) (by rw [hc2]; decide) (by kernel_rfl)
      obtain ⟨n1, f1, w1⟩ := Bas.open_field_int (kd := .i64) 1 _ Try.underlying27 e2 rfl (by kernel_rfl) (by rw [hc2]; decide) (by kernel_rfl)
      exact ⟨(n0, n1), list2 hlen f0 f1, w0, w1⟩)
    exact ⟨_, len, cap, l, rfl, by unfold maxLen at hm; omega, h1, h2, h3⟩
theorem open_bls {fuel : Nat} {v : Value} {x : DataW H × List MemPlace} (h : DataW.trod enc Try.prog w base (fun _ => true) held fuel 47 [v] = some x) :
    ∃ a len cap B, v = .slice a len cap ∧ Bas.IsBools w a len cap B := by
  rcases Go.Deep.open_bools Try.underlying47 Try.underlying4 (by kernel_rfl) h with ⟨hcs, _⟩ | ⟨x, l, c, B, hcs, _, hl, hm, _, hcell⟩
  · cases hcs
    exact ⟨none, 0, 0, fun _ => false, rfl, Nat.le_refl _, Nat.zero_le _, fun i hi => by omega⟩
  · cases hcs
    exact ⟨_, l, c, B, rfl, hl, hm, fun i hi => ⟨_, _, congrArg some (Bas.spot_add ⟨_, hcell 0 (by omega)⟩ (hcell i (by omega))).1, (Bas.spot_add ⟨_, hcell 0 (by omega)⟩ (hcell i (by omega))).2⟩⟩
theorem open_rules {fuel : Nat} {v : Value} {x : DataW H × List MemPlace} (h : DataW.trod enc Try.prog w base (fun _ => true) held fuel 41 [v] = some x) :
    ∃ (a : Option Addr) (n c : Nat) (l : List RuleD), v = .slice a n c ∧ n ≤ 9223372036854775807 ∧ l.length = n ∧ Row.Leads w (.slice a n c) n (l.flatMap ruC) ∧ ∀ r ∈ l, wf64 (r.ty, r.val) := by
  rcases Go.Deep.open_slice Try.underlying41 h with ⟨h0, _⟩ | ⟨a, len, cap, m, n, D, Pl, h0, _, hl, hm, hmm, _, hx⟩
  · cases h0
    exact ⟨none, 0, 0, [], rfl, by omega, rfl, .inl ⟨rfl, rfl, rfl⟩, fun r hr => by cases hr⟩
  · cases h0
    have hc4 : Try.prog.cellsOf 44 = 4 := by kernel_rfl
    rw [hc4] at hx
    obtain ⟨l, h1, h2, h3⟩ := Bas.open_elems (f := ruC) (good := fun r => wf64 (r.ty, r.val)) (by omega) ruC_len (w := w) (base := base) (a := a) (len := len) (cap := cap) (fun i hi => by
      obtain ⟨cs, e1, e2⟩ := hx i (by rw [hmm]; simp; omega)
      refine ⟨cs, e1, ?_⟩
      obtain ⟨_, hlen, _⟩ := World.cells?_some e1
      obtain ⟨n0, f0, w0⟩ := Bas.open_field_int (kd := .i64) 0 _ Try.underlying44 e2 rfl (by kernel_rfl) (by rw [hc4]; decide) (by kernel_rfl)
      obtain ⟨n1, f1, w1⟩ := Bas.open_field_int (kd := .i64) 1 _ Try.underlying44 e2 rfl (by kernel_rfl) (by rw [hc4]; decide) (by kernel_rfl)
      obtain ⟨n2, f2, w2⟩ := Bas.open_field_int (kd := .u32) 2 _ Try.underlying44 e2 rfl (by kernel_rfl) (by rw [hc4]; decide) (by kernel_rfl)
      obtain ⟨n3, f3, w3⟩ := Bas.open_field_int (kd := .u32) 3 _ Try.underlying44 e2 rfl (by kernel_rfl) (by rw [hc4]; decide) (by kernel_rfl)
      exact ⟨⟨n0, n1, n2, n3⟩, list4 hlen f0 f1 f2 f3, w0, w1⟩)
    exact ⟨_, len, cap, l, rfl, by unfold maxLen at hm; omega, h1, h2, h3⟩
end

set_option maxRecDepth 100000 in
theorem open_case {H : Type} {enc : TypeId × Value → H} (v : Value) (d : DataW H) (p : List MemPlace) (W : World) {base : Nat} (hv : Value.okWide Try.prog W .any base 49 v) (ht : DataW.Trod enc Try.prog W 0 (fun _ => true) true 49 v d p) :
    ∃ a n c ka kn kc ba bn bc l K B, v = .agg #[.slice a n c, .slice ka kn kc, .slice ba bn bc] ∧ CaseOk W a n c ka kn kc ba bn bc l K B := by
  obtain ⟨cs, rfl, hcs⟩ := okWide_struct Try.underlying49 hv
  have hc3 : Try.prog.cellsOf 49 = 3 := by kernel_rfl
  rw [hc3] at hcs
  obtain ⟨a, b, c, hl⟩ := three_of (c := cs.toList) (by simpa using hcs)
  obtain rfl : cs = #[a, b, c] := by cases cs; simp at hl; simp [hl]
  obtain ⟨fuel, hf⟩ := ht
  obtain ⟨_, v0, y0, m0, f0, t0⟩ := Bas.open_field 0 _ Try.underlying49 hf rfl (by kernel_rfl) (by rw [hc3]; decide)
  obtain ⟨_, v1, y1, m1, f1, t1⟩ := Bas.open_field 1 _ Try.underlying49 hf rfl (by kernel_rfl) (by rw [hc3]; decide)
  obtain ⟨_, v2, y2, m2, f2, t2⟩ := Bas.open_field 2 _ Try.underlying49 hf rfl (by kernel_rfl) (by rw [hc3]; decide)
  obtain rfl : a = v0 := by simpa [Value.cells] using f0
  obtain rfl : b = v1 := by simpa [Value.cells] using f1
  obtain rfl : c = v2 := by simpa [Value.cells] using f2
  obtain ⟨sa, n, sc, l, rfl, hn, hln, hld, hwf⟩ := open_settings t0
  obtain ⟨ka, kn, kc, zs, rfl, hz⟩ := Bas.open_bytes Try.underlying24 Try.underlying5 (by kernel_rfl) t1
  obtain ⟨ba, bn, bc, B, rfl, hb⟩ := open_bls t2
  refine ⟨_, _, _, _, _, _, _, _, _, l, fun i => zs.getD i 0, B, rfl, hld, hln, hwf, fun i hi => ?_, hb.2.2, hn, ?_, by have := hb.1; have := hb.2.1; unfold maxLen at *; omega⟩
  · rcases hz with ⟨_, h0, _, _⟩ | ⟨x, rfl, hl, hm, hlz, hcell, hw⟩
    · omega
    · have hiz : i < zs.length := by omega
      have h := Bas.spot_add ⟨_, hcell 0 (by omega)⟩ (hcell i hiz)
      refine ⟨⟨_, _, congrArg some h.1, h.2⟩, ?_⟩
      have := Bas.wf_u8 (hw (zs[i]) (List.getElem_mem hiz))
      simp only [List.getD_eq_getElem?_getD, List.getElem?_eq_getElem hiz, Option.getD_some]
      exact this
  · rcases hz with ⟨_, h0, _, _⟩ | ⟨x, rfl, hl, hm, hlz, hcell, hw⟩
    · omega
    · unfold maxLen at hm; omega
set_option maxRecDepth 100000 in
theorem open_one {H : Type} {enc : TypeId × Value → H} (v : Value) (d : DataW H) (p : List MemPlace) (W : World) {base : Nat} (hv : Value.okWide Try.prog W .any base 27 v) (ht : DataW.Trod enc Try.prog W 0 (fun _ => true) true 27 v d p) :
    ∃ x y, v = .agg #[.int .i64 x, .int .i64 y] ∧ wf64 (x, y) := by
  obtain ⟨cs, rfl, hcs⟩ := okWide_struct Try.underlying27 hv
  have hc2 : Try.prog.cellsOf 27 = 2 := by kernel_rfl
  rw [hc2] at hcs
  obtain ⟨fuel, hf⟩ := ht
  obtain ⟨n0, f0, w0⟩ := Bas.open_field_int (kd := .i64) 0 _ Try.underlying27 hf rfl (by kernel_rfl) (by rw [hc2]; decide) (by kernel_rfl)
  obtain ⟨n1, f1, w1⟩ := Bas.open_field_int (kd := .i64) 1 _ Try.underlying27 hf rfl (by kernel_rfl) (by rw [hc2]; decide) (by kernel_rfl)
  have hl := list2 (c := cs.toList) (by simpa using hcs) f0 f1
  obtain rfl : cs = #[.int .i64 n0, .int .i64 n1] := by cases cs; simp at hl; simp [hl]
  exact ⟨n0, n1, rfl, w0, w1⟩
end Pk
end Go.Proofs.Ytdmhenlfhbigbaa
