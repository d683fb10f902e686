/- Layer 3 (face): Read, of fonts; what the law asks first. -/
import Derived.Test.YtkmbeohheblhhaaFaceL
namespace Go.Proofs.Ytkmbeohheblhhaa
open Go.RowKit
namespace Fo
open Vw Wr

theorem fread_font (a : Option Addr) (cap : Nat) (bs : List Int) (P : List PartD) (w : World) (hl : bs.length ≤ cap) (hc : cap ≤ maxLen) (hv : VB w a bs) (hF : IsFont bs P)
    (i0 i1 i2 : Nat) (d0 d1 d2 : List Int) (h0 : P[i0]? = some ⟨sMaxp, d0⟩) (h1 : P[i1]? = some ⟨sHead, d1⟩) (h2 : P[i2]? = some ⟨sHhea, d2⟩) (hkd : 4 ≤ d0.length → be d0 0 4 = 65536) (hmg : 54 ≤ d1.length → be d1 12 4 = 1594834165) :
    Calls Try.prog 7 #[.slice a bs.length cap] w (ReadF (faceL d0 d1 d2) w) := by
  obtain ⟨e0, b0⟩ := hF.data i0 _ h0
  obtain ⟨e1, b1⟩ := hF.data i1 _ h1
  obtain ⟨e2, b2⟩ := hF.data i2 _ h2
  have hfew := hF.few
  simp only at e0 e1 e2 b0 b1 b2
  refine fread_any a bs.length cap (faceL d0 d1 d2) w fun w' hb => ?_
  have V := fun w'' (hb'' : Below w'.heap.size w' w'') => hv.below (hb.trans (hb''.mono hb.size))
  have v0 := (hv.below hb).sub (atM P i0) d0.length (by omega)
  have v1 := (hv.below hb).sub (atM P i1) d1.length (by omega)
  have v2 := (hv.below hb).sub (atM P i2) d2.length (by omega)
  rw [e0] at v0
  rw [e1] at v1
  rw [e2] at v2
  exact ftake_any a bs.length cap _ _ _ d0.length d1.length d2.length d0 d1 d2 w'
    (fun w'' hb'' => table_yes a bs.length cap bs P sMaxp i0 ⟨sMaxp, d0⟩ h0 rfl w'' hl hc (V w'' hb'') rfl hF)
    (fun w'' hb'' => table_yes a bs.length cap bs P sHead i1 ⟨sHead, d1⟩ h1 rfl w'' hl hc (V w'' hb'') rfl hF)
    (fun w'' hb'' => table_yes a bs.length cap bs P sHhea i2 ⟨sHhea, d2⟩ h2 rfl w'' hl hc (V w'' hb'') rfl hF)
    v0 v1 v2 rfl rfl rfl (by omega) (by omega) (by omega) hkd hmg

theorem fread_t1 (a : Option Addr) (cap : Nat) (bs : List Int) (P : List PartD) (w : World) (hl : bs.length ≤ cap) (hc : cap ≤ maxLen) (hv : VB w a bs) (hF : IsFont bs P) (hP : 1 ≤ P.length) (hn : ∀ p ∈ P, p.tag ≠ sMaxp) :
    Calls Try.prog 7 #[.slice a bs.length cap] w (ReadF none w) :=
  fread_any a bs.length cap none w fun w' hb => (ftake_t1 a bs.length cap w' (fun w'' hb'' => table_no a bs.length cap bs P sMaxp hP hn w'' hl hc (hv.below (hb.trans (hb''.mono hb.size))) rfl hF)).mono fun _ _ ⟨he, hb⟩ => ⟨hb, he⟩
theorem fread_t2 (a : Option Addr) (cap : Nat) (bs : List Int) (P : List PartD) (w : World) (hl : bs.length ≤ cap) (hc : cap ≤ maxLen) (hv : VB w a bs) (hF : IsFont bs P) (i0 : Nat) (d0 : List Int) (h0 : P[i0]? = some ⟨sMaxp, d0⟩) (hn : ∀ p ∈ P, p.tag ≠ sHead) :
    Calls Try.prog 7 #[.slice a bs.length cap] w (ReadF none w) :=
  fread_any a bs.length cap none w fun w' hb => (ftake_t2 a bs.length cap w' _ _
    (fun w'' hb'' => table_yes a bs.length cap bs P sMaxp i0 ⟨sMaxp, d0⟩ h0 rfl w'' hl hc (hv.below (hb.trans (hb''.mono hb.size))) rfl hF)
    (fun w'' hb'' => table_no a bs.length cap bs P sHead (by have := (List.getElem?_eq_some_iff.1 h0).1; omega) hn w'' hl hc (hv.below (hb.trans (hb''.mono hb.size))) rfl hF)).mono fun _ _ ⟨he, hb⟩ => ⟨hb, he⟩
theorem fread_t3 (a : Option Addr) (cap : Nat) (bs : List Int) (P : List PartD) (w : World) (hl : bs.length ≤ cap) (hc : cap ≤ maxLen) (hv : VB w a bs) (hF : IsFont bs P) (i0 i1 : Nat) (d0 d1 : List Int) (h0 : P[i0]? = some ⟨sMaxp, d0⟩) (h1 : P[i1]? = some ⟨sHead, d1⟩) (hn : ∀ p ∈ P, p.tag ≠ sHhea) :
    Calls Try.prog 7 #[.slice a bs.length cap] w (ReadF none w) :=
  fread_any a bs.length cap none w fun w' hb => (ftake_t3 a bs.length cap w' _ _
    (fun w'' hb'' => table_yes a bs.length cap bs P sMaxp i0 ⟨sMaxp, d0⟩ h0 rfl w'' hl hc (hv.below (hb.trans (hb''.mono hb.size))) rfl hF) _ _
    (fun w'' hb'' => table_yes a bs.length cap bs P sHead i1 ⟨sHead, d1⟩ h1 rfl w'' hl hc (hv.below (hb.trans (hb''.mono hb.size))) rfl hF)
    (fun w'' hb'' => table_no a bs.length cap bs P sHhea (by have := (List.getElem?_eq_some_iff.1 h0).1; omega) hn w'' hl hc (hv.below (hb.trans (hb''.mono hb.size))) rfl hF)).mono fun _ _ ⟨he, hb⟩ => ⟨hb, he⟩
theorem fread_nil (w : World) : Calls Try.prog 7 #[.slice none 0 0] w (ReadF none w) :=
  fread_any none 0 0 none w fun w' _ => (ftake_t1 none 0 0 w' (fun w'' _ => table_none none 0 sMaxp w'' (by omega))).mono fun _ _ ⟨he, hb⟩ => ⟨hb, he⟩

/-- The parts of a plain font, in order. -/
def plainP (g u m : Int) : List PartD := [⟨sHead, headL u⟩, ⟨sHhea, hheaL m⟩, ⟨sMaxp, maxpL g⟩]
def plainL (g u m : Int) : List PartD := [⟨sMaxp, maxpL g⟩, ⟨sHead, headL u⟩, ⟨sHhea, hheaL m⟩]
theorem rise3 (d0 d1 d2 : List Int) : ∀ (i j : Nat) p q, i < j → [(⟨sHead, d0⟩ : PartD), ⟨sHhea, d1⟩, ⟨sMaxp, d2⟩][i]? = some p → [(⟨sHead, d0⟩ : PartD), ⟨sHhea, d1⟩, ⟨sMaxp, d2⟩][j]? = some q → ltS p.tag q.tag = true := by
  intro i j p q hij hp hq
  have hj : j < 3 := (List.getElem?_eq_some_iff.1 hq).1
  rcases (by omega : (i = 0 ∧ j = 1) ∨ (i = 0 ∧ j = 2) ∨ (i = 1 ∧ j = 2)) with ⟨rfl, rfl⟩ | ⟨rfl, rfl⟩ | ⟨rfl, rfl⟩
  · cases hp; cases hq; simp [sHead, sHhea, bl_data, Op.bytesLess]
  · cases hp; cases hq; simp [sHead, sMaxp, bl_data, Op.bytesLess]
  · cases hp; cases hq; simp [sHhea, sMaxp, bl_data, Op.bytesLess]
theorem at3 (d0 d1 d2 : List Int) (h0 : d0.length ≤ 100000) (h1 : d1.length ≤ 100000) (h2 : d2.length ≤ 100000) (t0 t1 t2 : ByteArray) : atM [⟨t0, d0⟩, ⟨t1, d1⟩, ⟨t2, d2⟩] 3 ≤ 1000000 := by
  have p0 := pad4_le d0.length
  have p1 := pad4_le d1.length
  have p2 := pad4_le d2.length
  simp only [atM, List.length_cons, List.length_nil, List.take_succ_cons, List.take_zero, List.flatMap_cons, List.flatMap_nil, List.length_append, bodyM_len, List.length_nil]
  omega

/-- Make of three parts that stand as Plain lays them. -/
theorem make3 (v : Value) (d0 d1 d2 : List Int) (w : World) (hin : PParts w v [⟨sMaxp, d0⟩, ⟨sHead, d1⟩, ⟨sHhea, d2⟩]) (h0 : d0.length ≤ 100000) (h1 : d1.length ≤ 100000) (h2 : d2.length ≤ 100000) (b0 : ∀ x ∈ d0, 0 ≤ x ∧ x ≤ 255) (b1 : ∀ x ∈ d1, 0 ≤ x ∧ x ≤ 255) (b2 : ∀ x ∈ d2, 0 ≤ x ∧ x ≤ 255) :
    Calls Try.prog 8 #[v] w fun e w' => ∃ g cap bs, e = .returned (.slice (some ⟨g, 0, none⟩) bs.length cap) ∧ bs.length ≤ cap ∧ cap ≤ maxLen ∧ VB w' (some ⟨g, 0, none⟩) bs ∧ IsFont bs [⟨sHead, d1⟩, ⟨sHhea, d2⟩, ⟨sMaxp, d0⟩] ∧ w'.ownsRow w.heap.size 5 1 (.slice (some ⟨g, 0, none⟩) bs.length cap) bs.length (bs.map (Value.int .u8)) ∧ Below w.heap.size w w' :=
  make_font v _ [1, 2, 0] w hin (by simp) (by simp) rfl ord3 _ rfl (at3 d1 d2 d0 h1 h2 h0 _ _ _) (fun p hp => by
    simp only [List.mem_cons, List.not_mem_nil, or_false] at hp
    rcases hp with rfl | rfl | rfl
    · exact b0
    · exact b1
    · exact b2) (rise3 d1 d2 d0)

theorem plain_face (g u m : Int) (hg : 0 ≤ g ∧ g ≤ 65535) (hu : 0 ≤ u ∧ u ≤ 65535) (hm : 0 ≤ m ∧ m ≤ 65535) : faceL (maxpL g) (headL u) (hheaL m) = if 1 ≤ g ∧ 16 ≤ u ∧ u ≤ 16384 ∧ 1 ≤ m ∧ m ≤ g then some (g, u, m) else none := by
  unfold faceL
  rw [maxp_g g hg, head_u u hu, hhea_m m hm, headL_len, hheaL_len, maxpL_len]
  by_cases h : 1 ≤ g ∧ 16 ≤ u ∧ u ≤ 16384 ∧ 1 ≤ m ∧ m ≤ g
  · rw [if_pos h, if_pos ⟨by omega, by omega, by omega, h⟩]
  · rw [if_neg h, if_neg (fun k => h k.2.2.2)]

/-- A plain font, made and read. -/
theorem plain_made (g u m : Int) (G : Nat) (r0 r1 r2 : Value) (base : Nat) (w : World) (ho : Own3 w base G sMaxp sHead sHhea r0 r1 r2 (maxpL g) (headL u) (hheaL m)) :
    Calls Try.prog 8 #[.slice (some ⟨G, 0, none⟩) 3 3] w fun e w' => ∃ c cap bs, e = .returned (.slice (some ⟨c, 0, none⟩) bs.length cap) ∧ bs.length ≤ cap ∧ cap ≤ maxLen ∧ VB w' (some ⟨c, 0, none⟩) bs ∧ IsFont bs (plainP g u m) ∧ w'.ownsRow w.heap.size 5 1 (.slice (some ⟨c, 0, none⟩) bs.length cap) bs.length (bs.map (Value.int .u8)) ∧ Below w.heap.size w w' :=
  make3 _ _ _ _ w (own3_parts ho) (by rw [maxpL_len]; omega) (by rw [headL_len]; omega) (by rw [hheaL_len]; omega) (maxpL_byte g) (headL_byte u) (hheaL_byte m)
theorem plain_read (g u m : Int) (a : Option Addr) (cap : Nat) (bs : List Int) (w : World) (hl : bs.length ≤ cap) (hc : cap ≤ maxLen) (hv : VB w a bs) (hF : IsFont bs (plainP g u m)) : Calls Try.prog 7 #[.slice a bs.length cap] w (ReadF (faceL (maxpL g) (headL u) (hheaL m)) w) :=
  fread_font a cap bs _ w hl hc hv hF 2 0 1 _ _ _ rfl rfl rfl (fun _ => maxp_kind g) (fun _ => head_kind u)

set_option maxRecDepth 100000 in
set_option maxHeartbeats 4000000 in
theorem fspeaks_any (w : World) : Calls Try.prog 5 #[] w fun e w' => e = .returned (.bool true) ∧ Below w.heap.size w w' := by
  have hfl : faceL (maxpL 3) (headL 1000) (hheaL 2) = some (3, 1000, 2) := by rw [plain_face 3 1000 2 (by omega) (by omega) (by omega), if_pos (by omega)]
  have HFL := Bas.hid hfl
  have HP := Bas.hid (plain_any 3 1000 2 w (by omega) (by omega) (by omega))
  clear hfl
  go_enter Try.func5, Try.ntmps5
  go_wp2_with (fail)
  refine HP.out.mono ?_
  rintro e w1 ⟨G, r0, r1, r2, rfl, ho, hb1⟩
  have HM := Bas.hid (plain_made 3 1000 2 G r0 r1 r2 _ w1 ho)
  have HB1 := Bas.hid hb1
  clear hb1 ho HP
  go_wp2_with (fail)
  refine HM.out.mono ?_
  rintro e w2 ⟨c, cap, bs, rfl, h1, h2, hv, hF, -, hb2⟩
  have HR := Bas.hid (plain_read 3 1000 2 (some ⟨c, 0, none⟩) cap bs w2 h1 h2 hv hF)
  have HB2 := Bas.hid (HB1.out.trans (hb2.mono HB1.out.size))
  clear hb2 hv hF HM HB1 h1 h2
  go_wp2_with (fail)
  refine HR.out.mono ?_
  rintro e w3 ⟨hb3, rfl⟩
  rw [HFL.out]
  simp only [Option.getD_some, Option.isSome_some, if_true]
  have HB3 := Bas.hid (HB2.out.trans (hb3.mono HB2.out.size))
  clear hb3 HR HB2
  go_wp2_with (fail)
  have k4 := Bas.heap_new w3 (.cells #[.int .i64 3, .int .i64 1000, .int .i64 2] 29)
  have HB4 := Bas.hid (HB3.out.alloc HB3.out.size (.cells #[.int .i64 3, .int .i64 1000, .int .i64 2] 29))
  generalize w3.alloc (.cells #[.int .i64 3, .int .i64 1000, .int .i64 2] 29) = W4 at *
  generalize w3.heap.size = T4 at *
  refine (fread_nil W4).mono ?_
  rintro e w5 ⟨hb5, rfl⟩
  simp only [Option.getD_none, Option.isSome_none, Bool.false_eq_true, if_false]
  have k5 := (hb5.block _ (heap_lt k4)).trans k4
  have HB5 := Bas.hid (HB4.out.trans (hb5.mono HB4.out.size))
  clear hb5 k4 HB4 HB3
  have c0 := cell_of_heap (i := 0) (v := .int .i64 3) k5 rfl
  have c1 := cell_of_heap (i := 1) (v := .int .i64 1000) k5 rfl
  have c2 := cell_of_heap (i := 2) (v := .int .i64 2) k5 rfl
  have l5 := heap_lt k5
  have HB6 := Bas.hid (HB5.out.alloc HB5.out.size (.cells #[.int .i64 0, .int .i64 0, .int .i64 0] 29))
  go_wp2_with (fail)
  go_ret
  exact ⟨rfl, HB6.out⟩
end Fo
end Go.Proofs.Ytkmbeohheblhhaa
