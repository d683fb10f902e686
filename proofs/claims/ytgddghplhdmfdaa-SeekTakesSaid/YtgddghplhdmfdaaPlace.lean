/- Layer 5 (seek): Place. -/
import Derived.Test.YtgddghplhdmfdaaFirst
namespace Go.Proofs.Ytgddghplhdmfdaa
open Go.RowKit
namespace Sk

/-- The slice (a, len, cap) reads the integers l. -/
structure IntsAt (w : World) (a : Option Addr) (len cap : Nat) (l : List Int) : Prop where
  hlen : l.length = len
  hle : len ≤ cap
  hcap : cap ≤ maxLen
  hcell : ∀ i, i < len → ∃ b o, a = some ⟨b, o, none⟩ ∧ w.cell? ⟨b, o + i, none⟩ = some (.int .i64 (l.getD i 0))

theorem IntsAt.below {w w' : World} {a : Option Addr} {len cap : Nat} {l : List Int} (h : IntsAt w a len cap l) (hb : Below w.heap.size w w') : IntsAt w' a len cap l :=
  ⟨h.hlen, h.hle, h.hcap, fun i hi => by
    obtain ⟨b, o, ha, hc⟩ := h.hcell i hi
    exact ⟨b, o, ha, (hb.cell (p := ⟨b, o + i, none⟩) (World.block_lt_of_cell? _ _ hc)).trans hc⟩⟩

set_option maxHeartbeats 400000 in
theorem place1 (bl bx : Nat) (a : Option Addr) (len cap : Nat) (l : List Int) (x : Int) (i : Nat) (w : World) (h1 : w.cell? ⟨bl, 0, none⟩ = some (.slice a len cap)) (h2 : w.cell? ⟨bx, 0, none⟩ = some (.int .i64 x)) (hl : IntsAt w a len cap l) (hi : i < len) (_hm : len ≤ 4294967296) :
    Calls Try.prog 54 #[.int .i64 i, .pointer (some ⟨bl, 0, none⟩), .pointer (some ⟨bx, 0, none⟩)] w fun e w' => e = .returned (.bool (decide (x ≤ l.getD i 0))) ∧ Below w.heap.size w w' := by
  obtain ⟨b, o, rfl, hc⟩ := hl.hcell i hi
  have hil : ((i : Int)) < (len : Int) := by omega
  clear hl
  generalize l.getD i 0 = y at hc ⊢
  go_enter Try.func54, Try.ntmps54
  go_wp2_with (fail)
  go_quiet (fail)
  go_wp2_with (fail)
  go_ret
  exact ⟨rfl, Bas.below_drewN (Below.refl _ _) _⟩

/-- Where x stands in a rising list. -/
def placeP (l : List Int) (x : Int) (k : Nat) : Prop := k ≤ l.length ∧ (∀ i, i < k → l.getD i 0 < x) ∧ ∀ i, k ≤ i → i < l.length → x ≤ l.getD i 0

def PlacePost (w : World) (l : List Int) (x : Int) (e : Ending) (w' : World) : Prop :=
  Below w.heap.size w w' ∧ ∃ k, placeP l x k ∧ ((k < l.length ∧ l.getD k 0 = x ∧ e = .returned (.tuple #[.int .i64 k, .bool true])) ∨ ((k < l.length → l.getD k 0 ≠ x) ∧ e = .returned (.tuple #[.int .i64 0, .bool false])))

set_option maxHeartbeats 1000000 in
theorem place_any (a : Option Addr) (len cap : Nat) (l : List Int) (x : Int) (w : World) (hl : IntsAt w a len cap l) (hm : len ≤ 4294967296) (hmono : ∀ i j, i ≤ j → j < l.length → l.getD i 0 ≤ l.getD j 0) :
    Calls Try.prog 31 #[.slice a len cap, .int .i64 x] w (PlacePost w l x) := by
  have hmf : ∀ (fn : Fn) (first cap : Array Value) (w : World), (Instr.makeFunc fn first cap).run Try.prog w = .ok (.func fn first cap) w := fun _ _ _ _ => rfl
  have hcf : ∀ (caps : Array Value) w, (callFunc 54 caps).run Try.prog w = .ok (.enter 54 caps) w := fun caps w => by simp [go_sem]
  have HCF := Bas.hid hcf
  have hlen := hl.hlen
  have HL := Bas.hid hl
  have HM := Bas.hid hmono
  clear hcf hl hmono
  go_enter Try.func31, Try.ntmps31
  go_wp2_with (fail)
  generalize hW : (w.alloc (.cells #[.slice a len cap] 70)).alloc (.cells #[.int .i64 x] 3) = W
  have hWs : W.heap.size = w.heap.size + 2 := by rw [← hW]; simp
  have HB : Below w.heap.size w W := by rw [← hW]; exact ((Below.refl w.heap.size w).alloc (Nat.le_refl _) _).alloc (by simp) _
  have c0 : W.cell? ⟨w.heap.size, 0, none⟩ = some (.slice a len cap) := by rw [← hW]; simp [go_sem]
  have cx : W.cell? ⟨w.heap.size + 1, 0, none⟩ = some (.int .i64 x) := by rw [← hW]; simp [go_sem]
  have hlW := HL.out.below HB
  clear hW
  refine (first_any 54 #[.pointer (some ⟨w.heap.size, 0, none⟩), .pointer (some ⟨w.heap.size + 1, 0, none⟩)]
    (fun lo hi w' => Below W.heap.size W w' ∧ (∀ i, i < lo → l.getD i 0 < x) ∧ ∀ i, hi ≤ i → i < l.length → x ≤ l.getD i 0) len W (by omega) HCF.out ?_ ⟨Below.refl _ _, by omega, fun i hi hi' => by omega⟩).mono ?_
  · rintro lo hi w1 hlt hhl ⟨hb1, hlo, hhi⟩
    have d0 := (hb1.cell (p := ⟨w.heap.size, 0, none⟩) (by show w.heap.size < _; omega)).trans c0
    have dx := (hb1.cell (p := ⟨w.heap.size + 1, 0, none⟩) (by show w.heap.size + 1 < _; omega)).trans cx
    refine (place1 _ _ a len cap l x (lo + (hi - lo) / 2) w1 d0 dx (hlW.below hb1) (by omega) hm).mono ?_
    rintro e w2 ⟨rfl, hb2⟩
    have HB2 : Below W.heap.size W w2 := Bas.on hb1 hb2
    by_cases hx : x ≤ l.getD (lo + (hi - lo) / 2) 0
    · exact ⟨true, by rw [decide_eq_true hx], .inl ⟨rfl, HB2, hlo, fun i h1 h2 => by have := HM.out (lo + (hi - lo) / 2) i h1 h2; omega⟩⟩
    · exact ⟨false, by rw [decide_eq_false hx], .inr ⟨rfl, HB2, fun i h1 => by have := HM.out i (lo + (hi - lo) / 2) (by omega) (by omega); omega, hhi⟩⟩
  rintro e w2 ⟨k, hk, rfl, hb2, hlo, hhi⟩
  have d0 := (hb2.cell (p := ⟨w.heap.size, 0, none⟩) (by show w.heap.size < _; omega)).trans c0
  have dx := (hb2.cell (p := ⟨w.heap.size + 1, 0, none⟩) (by show w.heap.size + 1 < _; omega)).trans cx
  have HB2 : Below w.heap.size w w2 := HB.trans (hb2.mono HB.size)
  have hl2 := hlW.below hb2
  have HP : Hid (placeP l x k) := ⟨by omega, hlo, fun i h1 h2 => hhi i h1 h2⟩
  by_cases hkl : k < len
  · obtain ⟨b, o, rfl, hc⟩ := hl2.hcell k hkl
    have q1 : ((k : Int) == (len : Int)) = false := by simp; omega
    clear hl2 hlW hlo hhi c0 cx
    by_cases hx : l.getD k 0 = x
    · rw [hx] at hc
      have HX := Bas.hid hx
      clear hx
      go_wp2_with (fail)
      go_quiet (fail)
      go_wp2_with (fail)
      go_ret2
      exact ⟨Bas.below_drewN HB2 _, k, HP.out, .inl ⟨by omega, HX.out, rfl⟩⟩
    · have HX := Bas.hid hx
      have q2 : (l.getD k 0 == x) = false := by simpa using hx
      clear hx
      generalize hy : l.getD k 0 = y at hc q2
      have HY := Bas.hid hy
      clear hy
      go_wp2_with (fail)
      go_quiet (fail)
      go_wp2_with (fail)
      go_ret2
      exact ⟨Bas.below_drewN HB2 _, k, HP.out, .inr ⟨fun _ => HX.out, rfl⟩⟩
  · have q1 : ((k : Int) == (len : Int)) = true := by simp; omega
    clear hl2 hlW hlo hhi c0 cx
    go_wp2_with (fail)
    go_quiet (fail)
    go_wp2_with (fail)
    go_ret2
    exact ⟨Bas.below_drewN HB2 _, k, HP.out, .inr ⟨fun h => by omega, rfl⟩⟩
end Sk
end Go.Proofs.Ytgddghplhdmfdaa
