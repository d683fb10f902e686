/- feat.Exclusive. -/
import Derived.Test.YtdmhenlfhbigbaaFeatReadB
namespace Go.Proofs.Ytdmhenlfhbigbaa
open Go.RowKit
namespace Ft
open Vw Ch

def exclF (kind : Int) (f : FeatD) : Bool := decide (f.type = kind) && f.excl
def exclL (fs : List FeatD) (kind : Int) : Bool := fs.any (exclF kind)

set_option maxHeartbeats 2000000 in
theorem clo_any (ty dflt : Int) (ex : Bool) (s : Value) (hs : ∃ a n c, s = .slice a n c) (kind : Int) (bk : Nat) (w : World) (hk : w.cell? ⟨bk, 0, none⟩ = some (.int .i64 kind)) :
    Calls Try.prog 36 #[.agg #[.int .i64 ty, .bool ex, .int .i64 dflt, s], .pointer (some ⟨bk, 0, none⟩)] w fun e w' => e = .returned (.bool (decide (ty = kind) && ex)) ∧ Below w.heap.size w w' := by
  obtain ⟨a, n, c, rfl⟩ := hs
  have lk : bk < w.heap.size := World.block_lt_of_cell? _ _ hk
  by_cases h : ty = kind
  · subst h
    cases ex
    all_goals
      go_enter Try.func36, Try.ntmps36
      go_wp2_with (fail)
      go_ret
      exact ⟨by simp, (Below.refl _ _).alloc (Nat.le_refl _) _⟩
  · have e1 : (ty == kind) = false := by simpa using h
    have e2 : decide (ty = kind) = false := by simpa using h
    rw [e2]
    go_enter Try.func36, Try.ntmps36
    go_wp2_with (fail)
    go_ret
    exact ⟨by simp, (Below.refl _ _).alloc (Nat.le_refl _) _⟩

def IdxPost (w : World) (b : Bool) (e : Ending) (w' : World) : Prop := ∃ r : Int, e = .returned (.int .i64 r) ∧ decide (0 ≤ r) = b ∧ Below w.heap.size w w' ∧ -1 ≤ r

set_option maxRecDepth 100000 in
set_option maxHeartbeats 4000000 in
theorem index_any (v : Value) (fs : List FeatD) (ss : List Value) (base : Nat) (kind : Int) (bk : Nat) (w : World) (hr : FRow w base v fs ss) (hk : w.cell? ⟨bk, 0, none⟩ = some (.int .i64 kind)) (hlen : fs.length ≤ 1000000000) :
    Calls Try.prog 49 #[v, .func (.func 36) #[] #[.pointer (some ⟨bk, 0, none⟩)]] w (IdxPost w (exclL fs kind)) := by
  have hcf : ∀ (args : Array Value) w, (callFunc 36 args).run Try.prog w = .ok (.enter 36 args) w := fun args w => by simp [go_sem]
  obtain ⟨ad, cp, rfl⟩ := own_slice hr.own
  obtain ⟨n, hn⟩ : ∃ n, n = fs.length := ⟨_, rfl⟩
  rw [← hn] at hlen ⊢
  have HN := Bas.hid hn
  have HR := Bas.hid hr
  have lk : bk < w.heap.size := World.block_lt_of_cell? _ _ hk
  have HK := Bas.hid hk
  clear hr hn hk
  go_enter Try.func49, Try.ntmps49
  go_wp2_with (fail)
  go_loopw [5, 8] (fun _ vi wr => ∃ i : Nat, i ≤ n ∧ vi = .int .i64 i ∧ (∀ f ∈ fs.take i, exclF kind f = false) ∧ Below w.heap.size w wr) (fun _ vi _ => n - (intOf vi).toNat)
  case atStart => exact ⟨0, Nat.zero_le _, rfl, fun f hf => by simp at hf, Below.refl _ _⟩
  case round =>
    obtain ⟨i, hi, rfl, hno, hb⟩ := hrel
    have HNO := Bas.hid hno
    have HB := Bas.hid hb
    by_cases hin : i < n
    · have hlen2 := HN.out
      obtain ⟨f, hf⟩ : ∃ f, fs[i]? = some f := ⟨_, List.getElem?_eq_getElem (by omega)⟩
      obtain ⟨s, hs⟩ : ∃ s, ss[i]? = some s := ⟨_, List.getElem?_eq_getElem (by rw [HR.out.len]; omega)⟩
      have hz : (fs.zip ss)[i]? = some (f, s) := List.getElem?_zip_eq_some.2 ⟨hf, hs⟩
      obtain ⟨G, C, hvG, -, hG, -, hcl⟩ := Row.elem_cells fC_len HR.out.own hz (by omega) (by rw [List.length_zip, HR.out.len, Nat.min_self])
      obtain ⟨sa, sc, rfl⟩ := own_slice (HR.out.sets i f s hf hs)
      rw [← hlen2] at hvG
      cases hvG
      have q0 := (hb.cell (p := ⟨G, i * 4, none⟩) hG).trans (hcl 0 _ rfl)
      have q1 := (hb.cell (p := ⟨G, i * 4 + 1, none⟩) hG).trans (hcl 1 _ rfl)
      have q2 := (hb.cell (p := ⟨G, i * 4 + 2, none⟩) hG).trans (hcl 2 _ rfl)
      have q3 := (hb.cell (p := ⟨G, i * 4 + 3, none⟩) hG).trans (hcl 3 _ rfl)
      have CL := clo_any f.type f.dflt f.excl (.slice sa f.sets.length sc) ⟨_, _, _, rfl⟩ kind bk wr ((hb.cell (p := ⟨bk, 0, none⟩) lk).trans HK.out)
      have HCL := Bas.hid CL
      have HF := Bas.hid hf
      obtain ⟨x, hx⟩ : ∃ x, x = (decide (f.type = kind) && f.excl) := ⟨_, rfl⟩
      rw [← hx] at HCL
      have HX := Bas.hid hx
      clear hcl hz hf hs hlen2 hb hno CL hx
      go_wp2_with (fail)
      refine HCL.out.mono ?_
      rintro e w2 ⟨rfl, hb2⟩
      have HB2 := Bas.hid (HB.out.trans (hb2.mono HB.out.size))
      clear hb2 q0 q1 q2 q3
      cases x with
      | true =>
        have hany : exclL fs kind = true := by
          unfold exclL
          rw [List.any_eq_true]
          exact ⟨f, List.mem_of_getElem? HF.out, HX.out.symm⟩
        have HANY := Bas.hid hany
        clear hany
        go_wp2_with (fail)
        exact bodyPost_ret (v := .int .i64 i) (by simp [results, Try.results49, go_sem]) rfl ⟨i, rfl, by rw [HANY.out]; simp, HB2.out, by omega⟩
      | false =>
        go_wp2_with (fail)
        go_roundw
        case rel => exact ⟨i + 1, by omega, by go_num, fun y hy => by
          rw [List.take_add_one, HF.out] at hy
          rcases List.mem_append.1 hy with h | h
          · exact HNO.out y h
          · simp at h; subst h; exact HX.out.symm, HB2.out⟩
        case measure => simp [intOf]; omega
    · have hin2 : i = n := by omega
      have hany : exclL fs kind = false := by
        unfold exclL
        rw [List.any_eq_false]
        intro f hf
        have h := HNO.out f
        rw [hin2, HN.out, List.take_length] at h
        rw [h hf]; decide
      have HANY := Bas.hid hany
      clear hany hb hno
      go_wp2_with (fail)
      exact bodyPost_ret (v := .int .i64 (-1)) (by simp [results, Try.results49, go_sem]) rfl ⟨-1, rfl, by rw [HANY.out]; simp, HB.out, by omega⟩

set_option maxHeartbeats 2000000 in
theorem contains_any (v : Value) (fs : List FeatD) (ss : List Value) (base : Nat) (kind : Int) (bk : Nat) (w : World) (hr : FRow w base v fs ss) (hk : w.cell? ⟨bk, 0, none⟩ = some (.int .i64 kind)) (hlen : fs.length ≤ 1000000000) :
    Calls Try.prog 35 #[v, .func (.func 36) #[] #[.pointer (some ⟨bk, 0, none⟩)]] w fun e w' => e = .returned (.bool (exclL fs kind)) ∧ Below w.heap.size w w' := by
  have H := Bas.hid (index_any v fs ss base kind bk w hr hk hlen)
  clear hr hk
  go_enter Try.func35, Try.ntmps35
  go_wp2_with (fail)
  refine H.out.mono ?_
  rintro e w1 ⟨r, rfl, hr, hb, hm⟩
  have HB := Bas.hid hb
  clear hb H
  go_wp2_with (fail)
  go_ret
  exact ⟨rfl, HB.out⟩

set_option maxHeartbeats 2000000 in
theorem excl_any (v : Value) (fs : List FeatD) (ss : List Value) (base : Nat) (kind : Int) (w : World) (hr : FRow w base v fs ss) (hlen : fs.length ≤ 1000000000) :
    Calls Try.prog 23 #[v, .int .i64 kind] w fun e w' => e = .returned (.bool (exclL fs kind)) ∧ Below w.heap.size w w' := by
  have hmf : ∀ (fn : Fn) (first cap : Array Value) (w : World), (Instr.makeFunc fn first cap).run Try.prog w = .ok (.func fn first cap) w := fun _ _ _ _ => rfl
  have hb0 := (Below.refl w.heap.size w).alloc (Nat.le_refl _) (.cells #[.int .i64 kind] 3)
  have H := Bas.hid (contains_any v fs ss base kind w.heap.size (w.alloc (.cells #[.int .i64 kind] 3)) (fRow_below hr hb0) (cell_of_heap (i := 0) (Bas.heap_new _ _) rfl) hlen)
  have HB0 := Bas.hid hb0
  obtain ⟨ad, cp, rfl⟩ := own_slice hr.own
  clear hr hb0
  go_enter Try.func23, Try.ntmps23
  go_wp2_with (fail)
  refine H.out.mono ?_
  rintro e w1 ⟨rfl, hb⟩
  have HB := Bas.hid (Bas.on HB0.out hb)
  clear hb H
  go_wp2_with (fail)
  go_ret
  exact ⟨rfl, HB.out⟩
end Ft
end Go.Proofs.Ytdmhenlfhbigbaa
