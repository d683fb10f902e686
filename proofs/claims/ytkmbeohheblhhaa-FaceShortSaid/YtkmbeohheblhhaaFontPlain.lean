/- Layer 3's law: Plain. -/
import Derived.Test.YtkmbeohheblhhaaFontMk
namespace Go.Proofs.Ytkmbeohheblhhaa
open Go.RowKit
namespace Fo
open Vw Wr

def sMaxp : ByteArray := ⟨#[109, 97, 120, 112]⟩
def sHead : ByteArray := ⟨#[104, 101, 97, 100]⟩
def sHhea : ByteArray := ⟨#[104, 104, 101, 97]⟩
def zs (n : Nat) : List Int := List.replicate n 0
def maxpL (g : Int) : List Int := putB 65536 4 ++ putB g 2
def headL (u : Int) : List Int := zs 12 ++ putB 1594834165 4 ++ [0, 0] ++ putB u 2 ++ zs 34
def hheaL (m : Int) : List Int := zs 34 ++ putB m 2
theorem zs_len (n : Nat) : (zs n).length = n := by simp [zs]

theorem made_u8 (n : Nat) : madeCells (Value.int .u8 0).cells n = ((zs n).map (Value.int .u8)).toArray := by
  apply Array.ext
  · simp [madeCells, zs]
  · intro i h1 h2
    simp [madeCells, Value.cells, zs, Nat.mod_one]
theorem mk_u8 (w : World) (n : Nat) (hn : n ≤ 1000000) : (Instr.makeSlice 22 (.int .i64 n) (.int .i64 n)).run Try.prog w = .ok (.slice (some ⟨w.heap.size, 0, none⟩) n n) (w.alloc (.cells ((zs n).map (Value.int .u8)).toArray 5)) := by
  obtain ⟨i8, hi, hz, hs, hb⟩ := info_parts info8
  have h := run_make (P := Try.prog) w 22 5 i8 (.int .u8 0) Try.underlying22 hi hz .i64 .i64 n n (by omega) (Int.le_refl _) (by rw [hb]; omega) (by omega)
  rw [hs, Nat.mul_one, made_u8] at h
  simpa using h
theorem owned_alloc (w : World) (base : Nat) (xs : List Int) (hb : base ≤ w.heap.size) (hl : xs.length ≤ maxLen) : (w.alloc (.cells (xs.map (Value.int .u8)).toArray 5)).ownsRow base 5 1 (.slice (some ⟨w.heap.size, 0, none⟩) xs.length xs.length) xs.length (xs.map (Value.int .u8)) :=
  ⟨by simp, .inr ⟨w.heap.size, xs.length, _, rfl, hb, Bas.heap_new _ _, Nat.le_refl _, hl, by simp, by simp only; exact List.take_of_length_le (by rw [List.length_map]; omega)⟩⟩

/-- A row of bytes, kept where another one is written. -/
theorem keep_row {w w' : World} {base base' : Nat} {v u u' : Value} {xs ys : List Int} (h : w.ownsRow base 5 1 v xs.length (xs.map (Value.int .u8))) (g : Grown w base' u ys u' w') (ha : ∀ b, v.ownBlock = some b → u.ownBlock ≠ some b) :
    w'.ownsRow base 5 1 v xs.length (xs.map (Value.int .u8)) := Row.owned_keep h fun b hb => g.grow.block b (Row.own_block h hb).2 (fun e => ha b hb e.symm)
theorem keep_apart {w w' : World} {base base' : Nat} {v u u' : Value} {xs ys : List Int} (h : w.ownsRow base 5 1 v xs.length (xs.map (Value.int .u8))) (g : Grown w base' u ys u' w') (ha : ∀ b, v.ownBlock = some b → u.ownBlock ≠ some b) :
    ∀ b, v.ownBlock = some b → u'.ownBlock ≠ some b := by
  intro b hb e
  rcases g.at' with h1 | ⟨c, h1, h2⟩
  · exact ha b hb (h1 ▸ e)
  · rw [h1] at e; cases e
    exact absurd (Row.own_block h hb).2 (Nat.not_lt.2 h2)

/-- Parts of the call's own: the row, and the rows of bytes. -/
def Own3 (w : World) (base G : Nat) (t0 t1 t2 : ByteArray) (r0 r1 r2 : Value) (d0 d1 d2 : List Int) : Prop :=
  base ≤ G ∧ w.heap[G]? = some (.cells #[.string t0, r0, .string t1, r1, .string t2, r2] 27 (0, 0)) ∧
  w.ownsRow base 5 1 r0 d0.length (d0.map (Value.int .u8)) ∧ w.ownsRow base 5 1 r1 d1.length (d1.map (Value.int .u8)) ∧ w.ownsRow base 5 1 r2 d2.length (d2.map (Value.int .u8)) ∧
  (∀ b, r0.ownBlock = some b → r1.ownBlock ≠ some b) ∧ (∀ b, r0.ownBlock = some b → r2.ownBlock ≠ some b) ∧ ∀ b, r1.ownBlock = some b → r2.ownBlock ≠ some b

set_option maxRecDepth 100000 in
set_option maxHeartbeats 4000000 in
theorem plain_any (g u m : Int) (w : World) (hg : 0 ≤ g ∧ g ≤ 9223372036854775807) (hu : 0 ≤ u ∧ u ≤ 9223372036854775807) (hm : 0 ≤ m ∧ m ≤ 9223372036854775807) :
    Calls Try.prog 6 #[.int .i64 g, .int .i64 u, .int .i64 m] w fun e w' => ∃ G r0 r1 r2, e = .returned (.slice (some ⟨G, 0, none⟩) 3 3) ∧ Own3 w' w.heap.size G sMaxp sHead sHhea r0 r1 r2 (maxpL g) (headL u) (hheaL m) ∧ Below w.heap.size w w' := by
  obtain ⟨g0, g1⟩ := hg
  obtain ⟨u0, u1⟩ := hu
  obtain ⟨m0, m1⟩ := hm
  have mk12 := fun w => mk_u8 w 12 (by omega)
  have mk34 := fun w => mk_u8 w 34 (by omega)
  have c12 : ((12 : Nat) : Int) = 12 := rfl
  have c34 : ((34 : Nat) : Int) = 34 := rfl
  rw [c12] at mk12
  rw [c34] at mk34
  clear c12 c34
  go_enter Try.func6, Try.ntmps6
  go_wp2_with (fail)
  refine (put_any 65536 4 w.heap.size _ [] w (by omega) (by omega) (by omega) (by simp [putB_len, zs]) (Nat.le_refl _) (Row.owned_nil _ _ _ _)).mono ?_
  rintro e x1 ⟨v1, rfl, gg1⟩
  go_wp2_with (fail)
  refine (put_any g 2 w.heap.size _ _ x1 (by omega) (by omega) (by omega) (by simp [putB_len, zs]) gg1.grow.size gg1.own).mono ?_
  rintro e x2 ⟨v2, rfl, gg2⟩
  go_wp2_with (fail)
  have g2 := gg1.trans gg2
  have HB2 := Bas.hid (g2.below (Below.refl w.heap.size w) (Nat.le_refl _) (fun g h => by cases h))
  have hr0 : x2.ownsRow w.heap.size 5 1 v2 (maxpL g).length ((maxpL g).map (Value.int .u8)) := by
    have h := g2.own
    simp only [List.nil_append] at h
    exact h
  have hbM := (Below.refl x2.heap.size x2).alloc (Nat.le_refl _) (.cells ((zs 12).map (Value.int .u8)).toArray 5)
  have T3 : TwoRows (x2.alloc (.cells ((zs 12).map (Value.int .u8)).toArray 5)) w.heap.size v2 (maxpL g) (.slice (some ⟨x2.heap.size, 0, none⟩) 12 12) (zs 12) :=
    ⟨Row.owned_below hr0 hbM, owned_alloc x2 w.heap.size (zs 12) HB2.out.size (by rw [zs_len]; unfold maxLen; omega), fun b hb e => by cases e; exact Nat.lt_irrefl _ (Row.own_block hr0 hb).2⟩
  have HB3 := Bas.hid (Bas.on HB2.out hbM)
  have HT3 := Bas.hid T3
  generalize x2.alloc (.cells ((zs 12).map (Value.int .u8)).toArray 5) = X3 at *
  clear gg1 gg2 g2 hr0 hbM T3 HB2
  refine (put_any 1594834165 4 w.heap.size _ (zs 12) X3 (by omega) (by omega) (by omega) (by rw [zs_len]; omega) HB3.out.size HT3.out.r).mono ?_
  rintro e x4 ⟨v4, rfl, g4⟩
  have HT4 := Bas.hid (HT3.out.growR g4)
  have HB4 := Bas.hid (g4.below HB3.out HB3.out.size (fun g h => (Row.own_block HT3.out.r h).1))
  clear g4 HT3 HB3
  have hl4 : (zs 12 ++ putB 1594834165 4).length = 16 := by rw [List.length_append, zs_len, putB_len]
  obtain ⟨ad4, cp4, hv4⟩ := row_slice HT4.out.r
  rw [hl4] at hv4
  subst hv4
  go_wp2_with (at_builtin; refine Row.fence ?_)
  refine Row.unfence ?_
  have hb5 := (Below.refl x4.heap.size x4).alloc (Nat.le_refl _) (.cells #[.int .u8 0, .int .u8 0] 5)
  have k5 := Bas.heap_new x4 (.cells #[.int .u8 0, .int .u8 0] 5)
  have HT5 := Bas.hid (HT4.out.below hb5)
  have HB5 := Bas.hid (Bas.on HB4.out hb5)
  generalize x4.alloc (.cells #[.int .u8 0, .int .u8 0] 5) = X5 at *
  refine (Row.append_at rfl _ _ 22 5 rfl (.int .u8 0) 1 1 Try.underlying22 info8 rfl (by decide) w.heap.size (.slice ad4 16 cp4) 16 _ rfl (hl4 ▸ HT5.out.r) (.slice (some ⟨x4.heap.size, 0, none⟩) 2 2) 2 [.int .u8 0, .int .u8 0] rfl (leads_heap k5) rfl (by simp; rfl) (by unfold maxLen; omega) (by omega) HB5.out.size ?_)
  intro v6 x6 h61 h62 _ h63
  have g6 : Grown X5 w.heap.size (.slice ad4 16 cp4) (zs 12 ++ putB 1594834165 4 ++ [0, 0]) v6 x6 := ⟨by rw [List.map_append, List.length_append, hl4]; exact h61, h62, h63.imp id fun h => ⟨_, h, Nat.le_refl _⟩⟩
  have HT6 := Bas.hid (HT5.out.growR g6)
  have HB6 := Bas.hid (g6.below HB5.out HB5.out.size (fun g h => (Row.own_block HT5.out.r h).1))
  clear h61 h62 h63 g6 k5 hb5 HT4 HT5 HB4 HB5 hl4
  go_wp2_with (fail)
  refine (put_any u 2 w.heap.size _ _ x6 (by omega) (by omega) (by omega) (by simp [putB_len, zs_len]) HB6.out.size HT6.out.r).mono ?_
  rintro e x7 ⟨v7, rfl, g7⟩
  have HT7 := Bas.hid (HT6.out.growR g7)
  have HB7 := Bas.hid (g7.below HB6.out HB6.out.size (fun g h => (Row.own_block HT6.out.r h).1))
  clear g7 HT6 HB6
  have hl7 : (zs 12 ++ putB 1594834165 4 ++ [0, 0] ++ putB u 2).length = 20 := by simp [zs_len, putB_len]
  obtain ⟨ad7, cp7, hv7⟩ := row_slice HT7.out.r
  rw [hl7] at hv7
  subst hv7
  go_wp2_with (at_builtin; refine Row.fence ?_)
  refine Row.unfence ?_
  refine (Row.append_zeros rfl _ _ 22 3 5 rfl (.int .u8 0) 1 .i64 .i64 Try.underlying22 Try.underlying3 info8 rfl rfl w.heap.size (.slice ad7 20 cp7) 20 _ rfl (hl7 ▸ HT7.out.r) 34 rfl (by unfold maxLen; omega) (by omega) HB7.out.size ?_)
  intro v8 x8 h81 h82 _ h83
  have g8 : Grown x7 w.heap.size (.slice ad7 20 cp7) (headL u) v8 x8 := ⟨by
    have hzr : (zs 34).map (Value.int .u8) = List.replicate 34 (.int .u8 0) := by simp [zs]
    rw [headL, List.map_append, List.length_append, hl7, hzr, zs_len]; exact h81, h82, h83.imp id fun h => ⟨_, h, Nat.le_refl _⟩⟩
  have HT8 := Bas.hid (HT7.out.growR g8)
  have HB8 := Bas.hid (g8.below HB7.out HB7.out.size (fun g h => (Row.own_block HT7.out.r h).1))
  clear h81 h82 h83 g8 HT7 HB7 hl7
  go_wp2_with (fail)
  have hbN := (Below.refl x8.heap.size x8).alloc (Nat.le_refl _) (.cells ((zs 34).map (Value.int .u8)).toArray 5)
  have HT9 := Bas.hid (HT8.out.below hbN)
  have HB9 := Bas.hid (Bas.on HB8.out hbN)
  have HR9 : Hid ((x8.alloc (.cells ((zs 34).map (Value.int .u8)).toArray 5)).ownsRow w.heap.size 5 1 (.slice (some ⟨x8.heap.size, 0, none⟩) 34 34) (zs 34).length ((zs 34).map (Value.int .u8))) :=
    owned_alloc x8 w.heap.size (zs 34) HB8.out.size (by rw [zs_len]; unfold maxLen; omega)
  have ha0 : ∀ b, v2.ownBlock = some b → Value.ownBlock (.slice (some ⟨x8.heap.size, 0, none⟩) 34 34) ≠ some b := fun b hb e => by cases e; exact Nat.lt_irrefl _ (Row.own_block HT8.out.l hb).2
  have ha1 : ∀ b, v8.ownBlock = some b → Value.ownBlock (.slice (some ⟨x8.heap.size, 0, none⟩) 34 34) ≠ some b := fun b hb e => by cases e; exact Nat.lt_irrefl _ (Row.own_block HT8.out.r hb).2
  have HA0 := Bas.hid ha0
  have HA1 := Bas.hid ha1
  generalize x8.alloc (.cells ((zs 34).map (Value.int .u8)).toArray 5) = X9 at *
  clear hbN HT8 HB8 ha0 ha1
  refine (put_any m 2 w.heap.size _ (zs 34) X9 (by omega) (by omega) (by omega) (by rw [zs_len]; omega) HB9.out.size HR9.out).mono ?_
  rintro e x10 ⟨v10, rfl, g10⟩
  have HB10 := Bas.hid (g10.below HB9.out HB9.out.size (fun g h => (Row.own_block HR9.out h).1))
  have HR0 := Bas.hid (keep_row HT9.out.l g10 HA0.out)
  have HR1 := Bas.hid (keep_row HT9.out.r g10 HA1.out)
  have HR2 : Hid (x10.ownsRow w.heap.size 5 1 v10 (hheaL m).length ((hheaL m).map (Value.int .u8))) := g10.own
  have HA02 := Bas.hid (keep_apart HT9.out.l g10 HA0.out)
  have HA12 := Bas.hid (keep_apart HT9.out.r g10 HA1.out)
  have HA01 := Bas.hid HT9.out.apart
  obtain ⟨b0, p0, hv0⟩ := row_slice HR0.out
  obtain ⟨b1, p1, hv1⟩ := row_slice HR1.out
  obtain ⟨b2, p2, hv2⟩ := row_slice HR2.out
  subst hv0 hv1 hv2
  clear g10 HT9 HB9 HR9 HA0 HA1 mk12 mk34
  go_wp2_with (fail)
  go_ret
  have hbX := (Below.refl x10.heap.size x10).alloc (Nat.le_refl _) (.cells #[.string sMaxp, .slice b0 (maxpL g).length p0, .string sHead, .slice b1 (headL u).length p1, .string sHhea, .slice b2 (hheaL m).length p2] 27)
  exact ⟨x10.heap.size, _, _, _, rfl, ⟨HB10.out.size, Bas.heap_new _ _, Row.owned_below HR0.out hbX, Row.owned_below HR1.out hbX, Row.owned_below HR2.out hbX, HA01.out, HA02.out, HA12.out⟩, Bas.on HB10.out hbX⟩
end Fo
end Go.Proofs.Ytkmbeohheblhhaa
