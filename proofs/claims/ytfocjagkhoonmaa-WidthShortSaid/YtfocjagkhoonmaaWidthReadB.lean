/- Layer 4 (width): Read. -/
import Derived.Test.YtfocjagkhoonmaaWidthRead
import Derived.Test.YtfocjagkhoonmaaFaceSpeak
namespace Go.Proofs.Ytfocjagkhoonmaa
open Go.RowKit
namespace Fo
open Vw Wr

/-- A font that was read: its numbers, and a table of its own. -/
def IsW (w : World) (base p g m : Nat) (d : List Int) : Prop :=
  base ≤ p ∧ ∃ gb cb, base ≤ gb ∧ gb ≠ p ∧ w.heap[p]? = some (.cells #[.int .i64 (g : Nat), .int .i64 1000, .int .i64 (m : Nat), .slice (some ⟨gb, 0, none⟩) d.length cb] 107 (0, 0)) ∧ d.length ≤ cb ∧ cb ≤ maxLen ∧ VB w (some ⟨gb, 0, none⟩) d

/-- What Read answers: a font, or none. -/
def WReadF (good : Bool) (g m : Nat) (d : List Int) (w : World) (e : Ending) (w' : World) : Prop :=
  Below w.heap.size w w' ∧ match good with
    | true => ∃ p, e = .returned (.tuple #[.pointer (some ⟨p, 0, none⟩), .int .i64 0]) ∧ IsW w' w.heap.size p g m d
    | false => e = .returned (.tuple #[.pointer none, .int .i64 2])

set_option maxRecDepth 100000 in
set_option maxHeartbeats 4000000 in
theorem wread_any (a : Option Addr) (cap : Nat) (bs : List Int) (g m L : Nat) (d : List Int) (w : World) (hl : bs.length ≤ cap) (hc : cap ≤ maxLen) (hv : VB w a bs) (hF : IsFont bs (widthP (g : Nat) (m : Nat) d)) (hm1 : 1 ≤ m) (hmg : m ≤ g) (hgb : g ≤ 65535) (hL : 4 * m + 2 * (g - m) = L) :
    Calls Try.prog 30 #[.slice a bs.length cap] w (WReadF (decide (L ≤ d.length)) g m (d.take L) w) := by
  have hmf : ∀ (fn : Fn) (first cap : Array Value) (w : World), (Instr.makeFunc fn first cap).run Try.prog w = .ok (.func fn first cap) w := fun _ _ _ _ => rfl
  have hcf : ∀ (caps : Array Value) w, (callFunc 56 caps).run Try.prog w = .ok (.enter 56 caps) w := fun caps w => by simp [go_sem]
  have HCF := Bas.hid hcf
  have HFACE := Bas.hid (fread_font a cap bs _ w hl hc hv hF 3 0 1 _ _ _ rfl rfl rfl (fun _ => maxp_kind (g : Nat)) (fun _ => head_kind 1000))
  have HFIND := Bas.hid (fun w' (hb : Below w.heap.size w w') => find_yes a bs.length cap bs _ sHmtx 2 ⟨sHmtx, d⟩ rfl rfl w' hl hc (hv.below hb) rfl hF)
  have hfl : faceL (maxpL (g : Nat)) (headL 1000) (hheaL (m : Nat)) = some ((g : Int), 1000, (m : Int)) := by rw [plain_face _ _ _ (by omega) (by omega) (by omega), if_pos (by omega)]
  have HFL := Bas.hid hfl
  obtain ⟨n, hn⟩ : ∃ n, bs.length = n := ⟨_, rfl⟩
  obtain ⟨e2, b2⟩ := hF.data 2 ⟨sHmtx, d⟩ rfl
  have hfew := hF.few
  simp only at e2 b2
  have HX := Bas.hid (fun w' (hb : Below w.heap.size w w') => e2 ▸ (hv.below hb).sub (atM (widthP (g : Nat) (m : Nat) d) 2) d.length (by omega))
  have hdn : d.length ≤ 1000000 := by omega
  generalize hX : sub a (atM (widthP (g : Nat) (m : Nat) d) 2) d.length = X at *
  obtain ⟨dn, hdl⟩ : ∃ dn, d.length = dn := ⟨_, rfl⟩
  simp only at HFIND
  rw [hdl] at HFIND
  rw [hdl] at hdn ⊢
  have HDL := Bas.hid hdl
  rw [hn] at HFACE HFIND ⊢
  have HL := Bas.hid hL
  have hL1 : 1 ≤ L := by omega
  obtain ⟨good, hgd⟩ : ∃ good, decide (L ≤ dn) = good := ⟨_, rfl⟩
  rw [hgd]
  have HGD := Bas.hid hgd
  clear hgd
  clear hcf hfl hF hv hl hc b2 e2 hfew hn hX hdl hL
  go_enter Try.func30, Try.ntmps30
  go_wp2_with (fail)
  refine HFACE.out.mono ?_
  rintro e w1 ⟨hb1, rfl⟩
  rw [HFL.out]
  simp only [Option.getD_some, Option.isSome_some, if_true]
  have HB1 := Bas.hid hb1
  clear hb1 HFACE HFL
  go_wp2_with (fail)
  have k4 := Bas.heap_new w1 (.cells #[.int .i64 (g : Nat), .int .i64 1000, .int .i64 (m : Nat)] 63)
  have HB4 := Bas.hid (HB1.out.alloc HB1.out.size (.cells #[.int .i64 (g : Nat), .int .i64 1000, .int .i64 (m : Nat)] 63))
  have hs4 : w.heap.size ≤ w1.heap.size := HB1.out.size
  generalize w1.alloc (.cells #[.int .i64 (g : Nat), .int .i64 1000, .int .i64 (m : Nat)] 63) = W4 at *
  generalize w1.heap.size = T4 at *
  clear HB1
  refine (HFIND.out _ HB4.out).mono ?_
  rintro e w5 ⟨rfl, hb5⟩
  have k45 := (hb5.block _ (heap_lt k4)).trans k4
  have HB5 := Bas.hid (HB4.out.trans (hb5.mono HB4.out.size))
  clear hb5 HFIND HB4 k4
  go_wp2_with (fail)
  have k6 := Bas.heap_new w5 (.cells #[.slice X dn dn] 58)
  have k46 := (Below.heap_alloc w5 (.cells #[.slice X dn dn] 58) _ (heap_lt k45)).trans k45
  have HB6 := Bas.hid (HB5.out.alloc HB5.out.size (.cells #[.slice X dn dn] 58))
  have l45 := heap_lt k45
  have hs5 : w.heap.size ≤ w5.heap.size := HB5.out.size
  have hlt6 : w5.heap.size < (w5.alloc (.cells #[.slice X dn dn] 58)).heap.size := by simp
  generalize w5.alloc (.cells #[.slice X dn dn] 58) = W6 at *
  generalize w5.heap.size = T6 at *
  have hb7 := HB6.out.alloc HB6.out.size (.cells #[.bool false] 4)
  have HC := wread1_any X dn g m L 1000 d T4 T6 W6.heap.size (W6.alloc (.cells #[.bool false] 4)) (HX.out _ hb7) HDL.out hdn HL.out hm1 hmg hgb
    ((Below.heap_alloc W6 _ _ hlt6).trans k6) ((Below.heap_alloc W6 _ _ (by omega)).trans k46) (by omega) (Bas.heap_new _ _)
  refine (try_any 56 _ W6 _ (HCF.out _) HC).mono ?_
  clear HC HCF HX
  rintro e w8 ⟨ok, w2, rfl, ⟨hg2, hok, ho2⟩, hlt2, hg5⟩
  have hs2 := hg2.size
  simp only [World.size_alloc] at hs2
  have hs8 := hg5.size
  have HB8 := Bas.hid (Bas.below_g (Bas.below_g hb7 hg2 (by simp; omega) (by omega)) hg5 (by omega) (by omega))
  have k48 := (hg5.block T4 (by omega) (by simp; omega)).trans ((hg2.block T4 (by simp; omega) (by simp; omega)).trans ((Below.heap_alloc W6 _ _ (by omega)).trans k46))
  have hgood : decide (L ≤ dn) = ok := hok.symm
  have hgo : good = ok := HGD.out.symm.trans hgood
  subst hgo
  rw [hgood] at ho2
  cases good with
  | false =>
    have HBF := Bas.hid HB8.out
    clear ho2 hg2 hg5 hgood hok hb7 HB8 k48 k46 k45 k6
    go_wp2_with (fail)
    exact bodyPost_ret (v := .tuple #[.pointer none, .int .i64 2]) (by simp [results, Try.results30, go_sem]) rfl ⟨HBF.out, rfl⟩
  | true =>
    obtain ⟨gb, cb, hgB, k62, hcb, hcm, hvb⟩ := ho2 rfl
    simp only [World.size_alloc] at hgB
    have k68 := (hg5.block T6 (by omega) (by simp; omega)).trans k62
    have hvb8 := vb_grown hvb hg5 (by omega)
    have c0 := cell_of_heap (i := 0) (v := .int .i64 (g : Nat)) k48 rfl
    have c1 := cell_of_heap (i := 1) (v := .int .i64 1000) k48 rfl
    have c2 := cell_of_heap (i := 2) (v := .int .i64 (m : Nat)) k48 rfl
    have c3 := cell_of_heap (i := 0) (v := .slice (some ⟨gb, 0, none⟩) (d.take L).length cb) k68 rfl
    have hgb8 : gb < w8.heap.size := by
      obtain ⟨b, o, ha, hcl⟩ := hvb8.cell 0 (by rw [List.length_take, HDL.out]; have := of_decide_eq_true hgood; omega)
      cases ha
      exact World.block_lt_of_cell? _ _ hcl
    have HE : Hid (WReadF true g m (d.take L) w (.returned (.tuple #[.pointer (some ⟨w8.heap.size, 0, none⟩), .int .i64 0])) (w8.alloc (.cells #[.int .i64 (g : Nat), .int .i64 1000, .int .i64 (m : Nat), .slice (some ⟨gb, 0, none⟩) (d.take L).length cb] 107))) :=
      ⟨HB8.out.alloc HB8.out.size _, w8.heap.size, rfl, HB8.out.size, gb, cb, by have := HB6.out.size; omega, by omega, Bas.heap_new _ _, hcb, hcm, hvb8.below ((Below.refl w8.heap.size w8).alloc (Nat.le_refl _) _)⟩
    clear ho2 hg2 hg5 hgood hok hb7 HB8 k48 k46 k45 k6 k62 k68 hvb hvb8 hcb hcm
    generalize (d.take L).length = L' at *
    go_wp2_with (fail)
    exact bodyPost_ret (v := .tuple #[.pointer (some ⟨w8.heap.size, 0, none⟩), .int .i64 0]) (by simp [results, Try.results30, go_sem]) rfl HE.out
end Fo
end Go.Proofs.Ytfocjagkhoonmaa
