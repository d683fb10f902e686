/- Parts of a proof: texts RegV, Own, Mod, LnD, LkD, ShPlain, ShTop, ShSpeak, ShChecksW. -/
import Derived.Test.YtceihjjjmcgmaaaGreatMP05
import Derived.Laws.AppendOwnNone
namespace Go.Proofs.YtceihjjjmcgmaaaGreat
open Go.RowKit
namespace Pl
section
variable {P : Program} {ops : Array Oper} {Q : Exit → Act → World → Prop} {B : Nat} {W : World}
theorem Fam.bel {w : World} {I : Type} {F : I → World} (hF : Fam w F) (i : I) : Below w.heap.size w (F i) := hF.2 i
end
end Pl
namespace Vw
theorem VB.block {w : World} {b o : Nat} {bs : List Int} {u : World} (h : VB w (some ⟨b, o, none⟩) bs) (hh : u.heap[b]? = w.heap[b]?) : VB u (some ⟨b, o, none⟩) bs :=
 ⟨h.len, h.byte, fun i hi => by
  obtain ⟨b', o', hab, hc⟩ := h.cell i hi;simp only [Option.some.injEq, Addr.mk.injEq, and_true] at hab;obtain ⟨rfl, rfl⟩ := hab;exact ⟨b, o, rfl, (World.cell?_of_block (w := w) hh).trans hc⟩⟩
theorem OwnB.block {w u : World} {g n : Nat} (h : OwnB w g n) (hh : u.heap[g]? = w.heap[g]?) : OwnB u g n := by
 obtain ⟨cur, h1, h2⟩ := h;exact ⟨cur, hh.trans h1, h2⟩
end Vw
namespace Mod
theorem mono {S T : Nat → Prop} {a b : World} (h : Mod S a b) (hT : ∀ i, S i → i < a.heap.size → T i) : Mod T a b := ⟨h.os, h.tape, h.output, h.size, fun i hi hs => h.block i hi (fun h' => hs (hT i h' hi))⟩
end Mod
namespace Ln
open Ch
theorem LineAt.base {w : World} {base base' g : Nat} {sv : Value} {xs : List Gl} (h : LineAt w base g sv xs) (hb : base' ≤ base) : LineAt w base' g sv xs :=
 ⟨h.head, Row.owned_base h.own hb, Nat.le_trans hb h.low⟩
end Ln
namespace Lk
open Vw Sk Ch
theorem Lives.mono {a a' : Nat} {P : World → Prop} {w : World} (h : Lives a P w) (ha : a' ≤ a) : Lives a' P w := fun u hu => h u fun k h1 h2 => hu k (Nat.le_trans ha h1) h2
end Lk
namespace Sh
open Fo Vw Wr Ln Pc
def SetP (v : Value) (u : World) : Prop := ∃ ons : List (Int × Int), ons.length ≤ 100000 ∧ ons.Pairwise (fun x y => Pk.ltP x y = true) ∧ Row.Leads u v ons.length (ons.flatMap Pk.setC)
theorem cleanL_le (xs : List Gl) : (cleanL xs).length ≤ xs.length := by unfold cleanL; exact List.length_filter_le _ _
theorem lnNew_len (ids : List Int) : (lnNew ids).length = ids.length := by unfold lnNew; exact lnPre_len _ _
set_option maxRecDepth 100000 in
set_option maxHeartbeats 4000000 in
theorem fshape_plain (gf gw g m : Nat) (dd : List Int) (s1 : Option Addr) (s2 s3 : Nat) (d z : Int) (a : Option Addr) (n cap : Nat) (ids : List Int) (l : List (Int × Int)) (dn : Bool) (W w : World)
  (hO : OpenP W gf gw g m dd w) (hd : dd.length = 4 * m + 2 * (g - m)) (hm1 : 1 ≤ m) (hmg : m ≤ g) (hgb : g ≤ 65535)
  (hl : Row.Leads w (.slice a n cap) n (ids.map (Value.int .i64))) (hn : ids.length = n) (hck : checkN d ids = 0) (hn2 : n ≤ 65536) (hdn : (d == 2) = dn) (hd2 : 0 ≤ d ∧ d ≤ 2) (hz : -2147483648 ≤ z ∧ z ≤ 2147483647)
  (hs : Row.Leads w (.slice s1 s2 s3) s2 (l.flatMap Pk.setC)) (hsn : l.length = s2) (hs2 : s2 ≤ 100000) (hwf : ∀ s ∈ l, Pk.wf64 s) :
  Calls Tryz.prog 29 #[.pointer (some ⟨gf, 0, none⟩), .agg #[.slice s1 s2 s3, .int .i64 d, .int .i32 z, .slice a n cap]] w fun e w' => ∃ v, e = .returned (.tuple #[v, zeroV]) ∧ Below w.heap.size w w' ∧
   w'.ownsRow w.heap.size 82 5 v (cleanL (lnNew ids)).length (((cleanL (lnNew ids)).zip (alongN 0 (cleanL (lnNew ids)).length (plNew (advsOf g m dd dn (cleanL (lnNew ids)))))).flatMap outC) := by
 obtain ⟨gm, gk, ga, gt, h1, h2, h3, h4, h5, hw⟩ := hO;have hle : (cleanL (lnNew ids)).length ≤ n := by have := cleanL_le (lnNew ids); rw [lnNew_len, hn] at this; exact this
 refine shape_ok gf gw (.slice none 0 0) (.pointer (some ⟨gm, 0, none⟩)) (.pointer (some ⟨gk, 0, none⟩)) (.pointer (some ⟨ga, 0, none⟩)) (.pointer (some ⟨gt, 0, none⟩)) W.heap.size g m dd s1 s2 s3 d z a n cap ids (cleanL (lnNew ids)) (plNew (advsOf g m dd dn (cleanL (lnNew ids)))) 0 dn SetP w
  h1 hw hd hm1 hmg hgb hl hn hck hn2 hdn (by omega) (by rw [plNew_len]; simp [advsOf]) ?_ ?_ ?_ ?_ ?_
 ·rintro sv u u' ⟨ons, q1, q2, q3⟩ hb;exact ⟨ons, q1, q2, Row.leads_below q3 hb⟩
 ·intro u hb;refine (Pk.settle_any s1 s2 s3 l (.slice none 0 0) [] [] 0 u (Row.leads_below hs hb) hsn hs2 (Ft.fRow_nil _ _) (by simp) hwf).mono ?_
  rintro e u' ⟨v, ys, rfl, hy, ho, hb2⟩;have hlen := Pk.isSet_len hy;exact ⟨v, rfl, ⟨ys, by omega, hy.1, Row.leads_owned ho⟩, hb2⟩
 ·rintro u B lg lsv stv hb hB hL ⟨ons, q1, q2, q3⟩;exact morx_none gm stv ons d _ B lg lsv (lnNew ids) w u h2 q3 q2 q1 hb hB hL (by rw [lnNew_len, hn]; omega)
 ·intro u B lg lsv B2 pg psv hb hB hB2 hL hP;refine (krun_none gk _ _ _ _ u ((hb.block _ (heap_lt h3)).trans h3)).mono ?_;rintro e u' ⟨rfl, hb2⟩;exact ⟨rfl, hL.below hb2, hP.below hb2, Mod.of_below hb2⟩
 ·intro u hb;exact trak_none gt d z u ((hb.block _ (heap_lt h5)).trans h5) hz (by omega)
set_option maxRecDepth 100000 in
set_option maxHeartbeats 16000000 in
theorem shape_plain (x : Option Addr) (len xcap : Nat) (bs : List Int) (g m : Nat) (dd : List Int) (s1 : Option Addr) (s2 s3 : Nat) (d z : Int) (a : Option Addr) (n cap : Nat) (ids : List Int) (l : List (Int × Int)) (dn : Bool) (w : World)
  (hxl : len ≤ xcap) (hxc : xcap ≤ maxLen) (hv : VB w x bs) (hbl : bs.length = len) (hxn : x = none → xcap = 0) (hF : IsFont bs (widthP (g : Nat) (m : Nat) dd)) (hd : dd.length = 4 * m + 2 * (g - m)) (hm1 : 1 ≤ m) (hmg : m ≤ g) (hgb : g ≤ 65535)
  (hl : Row.Leads w (.slice a n cap) n (ids.map (Value.int .i64))) (hn : ids.length = n) (hck : checkN d ids = 0) (hn2 : n ≤ 65536) (hdn : (d == 2) = dn) (hd2 : 0 ≤ d ∧ d ≤ 2) (hz : -2147483648 ≤ z ∧ z ≤ 2147483647)
  (hs : Row.Leads w (.slice s1 s2 s3) s2 (l.flatMap Pk.setC)) (hsn : l.length = s2) (hs2 : s2 ≤ 100000) (hwf : ∀ s ∈ l, Pk.wf64 s) :
  Calls Tryz.prog 12 #[.slice x len xcap, .agg #[.slice s1 s2 s3, .int .i64 d, .int .i32 z, .slice a n cap]] w fun e w' => ∃ v, e = .returned (.tuple #[v, zeroV]) ∧ Below w.heap.size w w' ∧
   w'.ownsRow w.heap.size 82 5 v (cleanL (lnNew ids)).length (((cleanL (lnNew ids)).zip (alongN 0 (cleanL (lnNew ids)).length (plNew (advsOf g m dd dn (cleanL (lnNew ids)))))).flatMap outC) := by
 obtain ⟨T, hT0⟩ : ∃ T, w.heap.size = T := ⟨_, rfl⟩;have hbx : Bx w ((w.alloc (jobO s1 s2 s3 d z a n cap)).alloc fltO) T (jobO s1 s2 s3 d z a n cap) fltO := by
  have hb1 := ((Below.refl w.heap.size w).alloc (Nat.le_refl _) (jobO s1 s2 s3 d z a n cap));have hb2 := hb1.alloc hb1.size fltO;refine ⟨hT0 ▸ hb2, ?_, ?_⟩
  ·rw [← hT0];exact (Below.heap_alloc _ _ _ (by rw [World.size_alloc]; omega)).trans (Bas.heap_new _ _)
  ·rw [← hT0, ← World.size_alloc w (jobO s1 s2 s3 d z a n cap)];exact Bas.heap_new _ _
 have HT0 := Bas.hid hT0;have HCH := Bas.hid (fun u (hb : Below w.heap.size w u) => check_any s1 s2 s3 d z a n cap ids u (Row.leads_below hl hb) hn)
 rw [hck] at HCH;have HOP := Bas.hid (fun u (hb : Below w.heap.size w u) => open_any x len xcap bs g m dd u hxl hxc (hv.below hb) hbl hxn hF hd hm1 hmg hgb)
 have HSH := Bas.hid (fun gf gw W u (hb : Below w.heap.size w u) (hO : OpenP W gf gw g m dd u) => fshape_plain gf gw g m dd s1 s2 s3 d z a n cap ids l dn W u hO hd hm1 hmg hgb (Row.leads_below hl hb) hn hck hn2 hdn hd2 hz (Row.leads_below hs hb) hsn hs2 hwf)
 obtain ⟨R, hR⟩ : ∃ R, (cleanL (lnNew ids)).length = R := ⟨_, rfl⟩;obtain ⟨O, hO⟩ : ∃ O, (((cleanL (lnNew ids)).zip (alongN 0 (cleanL (lnNew ids)).length (plNew (advsOf g m dd dn (cleanL (lnNew ids)))))).flatMap outC) = O := ⟨_, rfl⟩;rw [hO, hR] at HSH ⊢;rw [hT0] at HCH HOP HSH ⊢;have HBX := Bas.hid hbx;clear hv hF hd hl hn hck hdn hs hsn hwf hbx hT0 hO hR hbl hxn hz hd2;go_enter Tryz.func12, Tryz.ntmps12
 go_wp2_with (fail);rw [HT0.out];generalize (w.alloc (jobO s1 s2 s3 d z a n cap)).alloc fltO = W2 at *;have j0 := cell_of_heap (i := 0) (v := .slice s1 s2 s3) HBX.out.job rfl;have j1 := cell_of_heap (i := 1) (v := .int .i64 d) HBX.out.job rfl;have j2 := cell_of_heap (i := 2) (v := .int .i32 z) HBX.out.job rfl;have j3 := cell_of_heap (i := 3) (v := .slice a n cap) HBX.out.job rfl;have lT := heap_lt HBX.out.job;go_wp2_with (fail);refine (HCH.out W2 HBX.out.bel).mono ?_;rintro e w3 ⟨rfl, hb3⟩;have HB3 := Bas.hid (HBX.out.on hb3);clear hb3 j0 j1 j2 j3 lT HCH HBX;go_wp2_with (fail);refine (HOP.out w3 HB3.out.bel).mono ?_;rintro e w4 ⟨hb4, gf, gw, rfl, ho4⟩;have HB4 := Bas.hid (HB3.out.on hb4);have HO4 := Bas.hid ho4;have j0 := cell_of_heap (i := 0) (v := .slice s1 s2 s3) HB4.out.job rfl;have j1 := cell_of_heap (i := 1) (v := .int .i64 d) HB4.out.job rfl;have j2 := cell_of_heap (i := 2) (v := .int .i32 z) HB4.out.job rfl;have j3 := cell_of_heap (i := 3) (v := .slice a n cap) HB4.out.job rfl;have lT := heap_lt HB4.out.job;clear hb4 ho4 HB3 HOP;go_wp2_with (fail);refine (HSH.out gf gw w3 w4 HB4.out.bel HO4.out).mono ?_;rintro e w5 ⟨v, rfl, hb5, ho5⟩;have HB5 := Bas.hid (HB4.out.on hb5);obtain ⟨aB, cB, rfl⟩ := own_slice ho5;have HO5 := Bas.hid (Row.owned_base ho5 HB4.out.lt);have y0 := free_of_heap (i := 0) HB5.out.flt;have y1 := free_of_heap (i := 1) HB5.out.flt;have y2 := free_of_heap (i := 2) HB5.out.flt;have z0 := cell_of_heap (i := 0) (v := .int .i64 0) HB5.out.flt rfl;have z1 := cell_of_heap (i := 1) (v := .int .i64 0) HB5.out.flt rfl;have z2 := cell_of_heap (i := 2) (v := .int .i64 0) HB5.out.flt rfl;have lb := heap_lt HB5.out.flt;clear hb5 ho5 j0 j1 j2 j3 lT HSH HB4 HO4;go_wp2_with (fail);have hfs := flt_set HB5.out.flt;have hbl : Below T w _ := hfs.2.below HB5.out.bel (fun k hk => by subst hk; omega) (by have := HB5.out.lt; omega)
 have hrw := hfs.2.owned HO5.out (fun k hk e => by have := (Row.own_block HO5.out hk).1; omega)
 have k0 := cell_of_heap (i := 0) (v := .int .i64 0) hfs.1 rfl;have k1 := cell_of_heap (i := 1) (v := .int .i64 0) hfs.1 rfl;have k2 := cell_of_heap (i := 2) (v := .int .i64 0) hfs.1 rfl;generalize ((w5.setCell ⟨T + 1, 0, none⟩ (.int .i64 0)).setCell ⟨T + 1, 1, none⟩ (.int .i64 0)).setCell ⟨T + 1, 2, none⟩ (.int .i64 0) = WE at *;refine bodyPost_ret (v := .tuple #[.slice aB R cB, zeroV]) (by simp [results, Tryz.results12, go_sem, k0, k1, k2]) rfl ⟨_, rfl, hbl, Row.owned_base hrw (by omega)⟩
theorem outs_known : ((cleanL (lnNew [1, 0])).zip (alongN 0 (cleanL (lnNew [1, 0])).length (plNew (advsOf 2 2 (hmtxL [500, 600] 0) false (cleanL (lnNew [1, 0])))))).flatMap outC = [.int .i64 1, .int .i64 0, .int .i32 600, .int .i32 0, .int .i32 0, .int .i64 0, .int .i64 1, .int .i32 500, .int .i32 0, .int .i32 0] := by kernel_rfl
theorem len_known : (cleanL (lnNew [1, 0])).length = 2 := by kernel_rfl
theorem hmtx_known : (hmtxL [500, 600] 0).length = 4 * 2 + 2 * (2 - 2) := by kernel_rfl
set_option maxRecDepth 100000 in
set_option maxHeartbeats 16000000 in
theorem speaks_any (w : World) : Calls Tryz.prog 5 #[] w fun e w' => e = .returned (.bool true) ∧ Below w.heap.size w w' := by
 have hb1 := (Below.refl w.heap.size w).alloc (Nat.le_refl _) (.cells #[.int .u16 500, .int .u16 600] 84);have HB1 := Bas.hid hb1;have HL1 := Bas.hid (leads_heap (n := 2) (c := 2) (Bas.heap_new w (.cells #[.int .u16 500, .int .u16 600] 84)));clear hb1;go_enter Tryz.func5, Tryz.ntmps5
 go_wp2_with (fail);generalize w.alloc (.cells #[.int .u16 500, .int .u16 600] 84) = w1 at *;refine write_bare (some ⟨w.heap.size, 0, none⟩) 2 2 0 [500, 600] w1 HL1.out (by decide) rfl (by omega) (by omega) (by omega) _ ?_
 intro g' cap bs w2 q1 q2 q3 q4 hb2;have HB2 := Bas.hid (HB1.out.trans (hb2.mono HB1.out.size));have hb3 := (Below.refl w2.heap.size w2).alloc (Nat.le_refl _) (.cells #[.int .i64 1, .int .i64 0] 3);have HB3 := Bas.hid (HB2.out.trans (hb3.mono HB2.out.size));have hsh := shape_plain (some ⟨g', 0, none⟩) bs.length cap bs 2 2 (hmtxL [500, 600] 0) none 0 0 0 0 (some ⟨w2.heap.size, 0, none⟩) 2 2 [1, 0] [] false (w2.alloc (.cells #[.int .i64 1, .int .i64 0] 3)) q1 q2 (q3.below hb3) rfl (fun h => by cases h) q4 hmtx_known (by omega) (by omega) (by omega) (leads_heap (Bas.heap_new w2 (.cells #[.int .i64 1, .int .i64 0] 3))) rfl (by decide) (by omega) rfl (by omega) (by omega) (.inl ⟨rfl, rfl, rfl⟩) rfl (by omega) (fun _ h => by cases h)
 rw [outs_known, len_known] at hsh;have HSH := Bas.hid hsh;clear hsh q1 q2 q3 q4 hb2 hb3 HB1 HL1;go_wp2_with (fail);generalize w2.alloc (.cells #[.int .i64 1, .int .i64 0] 3) = w3 at *;refine HSH.out.mono ?_;rintro e w4 ⟨v, rfl, hb4, ho4⟩;have HB4 := Bas.hid (HB3.out.trans (hb4.mono HB3.out.size));have hle := Row.leads_owned ho4;obtain ⟨aB, cB, rfl⟩ := own_slice ho4;have hcell : ∀ j u, [Value.int .i64 1, .int .i64 0, .int .i32 600, .int .i32 0, .int .i32 0, .int .i64 0, .int .i64 1, .int .i32 500, .int .i32 0, .int .i32 0][j]? = some u → ∃ b o, aB = some ⟨b, o, none⟩ ∧ w4.cell? ⟨b, o + j, none⟩ = some u := fun j u hu => by
  obtain ⟨b, o, c, hv, hc⟩ := St.leads_at hle hu;cases hv;exact ⟨b, o, rfl, hc⟩
 obtain ⟨b, o, rfl, d0⟩ := hcell 0 _ rfl;have lb : b < w4.heap.size := World.block_lt_of_cell? _ _ d0;have hb5 := (Below.refl w4.heap.size w4).alloc (Nat.le_refl _) fltO;have kF := Bas.heap_new w4 fltO;have k0 := cell_of_heap (i := 0) (v := .int .i64 0) kF rfl;have HB5 := Bas.hid (HB4.out.trans (hb5.mono HB4.out.size));have x0 := (hb5.cell (World.block_lt_of_cell? _ _ d0)).trans d0;obtain ⟨b1, o1, h1, d1⟩ := hcell 1 _ rfl;cases h1;have x1 := (hb5.cell (World.block_lt_of_cell? _ _ d1)).trans d1;obtain ⟨b2, o2, h2, d2⟩ := hcell 2 _ rfl;cases h2;have x2 := (hb5.cell (World.block_lt_of_cell? _ _ d2)).trans d2;obtain ⟨b3, o3, h3, d3⟩ := hcell 3 _ rfl;cases h3;have x3 := (hb5.cell (World.block_lt_of_cell? _ _ d3)).trans d3;obtain ⟨b4, o4, h4, d4⟩ := hcell 4 _ rfl;cases h4;have x4 := (hb5.cell (World.block_lt_of_cell? _ _ d4)).trans d4;obtain ⟨b5, o5, h5, d5⟩ := hcell 5 _ rfl;cases h5;have x5 := (hb5.cell (World.block_lt_of_cell? _ _ d5)).trans d5;obtain ⟨b6, o6, h6, d6⟩ := hcell 6 _ rfl;cases h6;have x6 := (hb5.cell (World.block_lt_of_cell? _ _ d6)).trans d6;obtain ⟨b7, o7, h7, d7⟩ := hcell 7 _ rfl;cases h7;have x7 := (hb5.cell (World.block_lt_of_cell? _ _ d7)).trans d7;obtain ⟨b8, o8, h8, d8⟩ := hcell 8 _ rfl;cases h8;have x8 := (hb5.cell (World.block_lt_of_cell? _ _ d8)).trans d8;obtain ⟨b9, o9, h9, d9⟩ := hcell 9 _ rfl;cases h9;have x9 := (hb5.cell (World.block_lt_of_cell? _ _ d9)).trans d9;have lb5 := Nat.lt_of_lt_of_le lb hb5.size;simp only [Nat.add_zero] at x0;clear lb d0 d1 d2 d3 d4 d5 d6 d7 d8 d9 hcell hle hb4 ho4 hb5 kF HSH HB3 HB2;go_wp2_with (fail);go_ret;exact ⟨rfl, HB5.out⟩
theorem made_int (n : Nat) : madeCells (Value.int .i64 0).cells n = Array.replicate n (Value.int .i64 0) := by
 apply Array.ext
 ·simp [madeCells]
 ·intro i h1 h2;simp [madeCells, Value.cells, Nat.mod_one]
theorem mk_int (w : World) (n : Nat) (hn : n ≤ 4294967296) : (Instr.makeSlice 24 (.int .i64 n) (.int .i64 n)).run Tryz.prog w = .ok (.slice (some ⟨w.heap.size, 0, none⟩) n n) (w.alloc (.cells (Array.replicate n (Value.int .i64 0)) 3)) := by
 obtain ⟨i8, hi, hz, hs, hb⟩ := info_parts infoI;have h := run_make (P := Tryz.prog) w 24 3 i8 (.int .i64 0) Tryz.underlying24 hi hz .i64 .i64 n n (by omega) (Int.le_refl _) (by rw [hb]; omega) (by omega)
 rw [hs, Nat.mul_one, made_int] at h;simpa using h
set_option maxRecDepth 100000 in
set_option maxHeartbeats 16000000 in
theorem checks_walk (dir id many : Int) (hmany : 0 ≤ many ∧ many ≤ 255) (w : World) : Calls Tryz.prog 3 #[.int .i64 dir, .int .i64 id, .int .u8 many] w fun e w' => e = .returned (.bool true) ∧ Below w.heap.size w w' := by
 obtain ⟨n, rfl⟩ := Int.eq_ofNat_of_zero_le hmany.1;have hn : n ≤ 255 := by omega
 go_enter Tryz.func3, Tryz.ntmps3
 go_wp2_with (fail);refine (speaks_any w).mono ?_;rintro e w1 ⟨rfl, hb1⟩;have HB1 := Bas.hid hb1;have hb2 := (Below.refl w1.heap.size w1).alloc (Nat.le_refl _) (.cells #[.slice none 0 0, .int .i64 dir, .int .i32 0, .slice none 0 0] 26);have HB2 := Bas.hid (hb1.trans (hb2.mono hb1.size));have HK2 := Bas.hid (Bas.heap_new w1 (.cells #[.slice none 0 0, .int .i64 dir, .int .i32 0, .slice none 0 0] 26));have hs1 : w.heap.size ≤ w1.heap.size := hb1.size;clear hb1 hb2 HB1 hmany;go_wp2_with (fail);generalize w1.alloc (.cells #[.slice none 0 0, .int .i64 dir, .int .i32 0, .slice none 0 0] 26) = w2 at *;generalize w1.heap.size = J at *;go_loopw [15] (fun vi wr => ∃ (i : Nat) (av : Option Addr) (cv : Nat), i ≤ n ∧ vi = .int .i64 i ∧ Below w.heap.size w wr ∧ wr.heap[J]? = some (.cells #[.slice none 0 0, .int .i64 dir, .int .i32 0, .slice av i cv] 26 (0, 0)) ∧ wr.ownsRow J 3 1 (.slice av i cv) i ((List.replicate i (5 : Int)).map (Value.int .i64))) (fun vi _ => n - (intOf vi).toNat)
 case atStart => exact ⟨0, none, 0, Nat.zero_le _, rfl, HB2.out, HK2.out, Row.owned_nil _ _ _ _⟩
 case round =>
  obtain ⟨i, av, cv, hi, rfl, hb, hk, ho⟩ := hrel;have HB := Bas.hid hb;have HK := Bas.hid hk;have HO := Bas.hid ho;have hsz : J ≤ wr.heap.size := Nat.le_of_lt (heap_lt hk);by_cases hin : i < n
  ·have e1 : decide ((i : Int) < (n : Int)) = true := by simp; omega
   have c3 := cell_of_heap (i := 3) (v := .slice av i cv) hk rfl;have lJ := heap_lt hk;clear hb hk ho HB2 HK2;go_wp2_with (at_builtin; refine Row.fence ?_);refine Row.unfence ?_;have hb3 := (Below.refl wr.heap.size wr).alloc (Nat.le_refl _) (.cells #[.int .i64 5] 3);have hl3 := leads_heap (n := 1) (c := 1) (Bas.heap_new wr (.cells #[.int .i64 5] 3));have HB3 := Bas.hid (HB.out.trans (hb3.mono HB.out.size));have HK3 := Bas.hid ((hb3.block _ (heap_lt HK.out)).trans HK.out);have HO3 := Bas.hid (Row.owned_below HO.out hb3);have HL3 := Bas.hid hl3;have hsz3 : J ≤ (wr.alloc (.cells #[.int .i64 5] 3)).heap.size := Nat.le_trans hsz hb3.size;clear hb3 hl3 HB HK HO;generalize wr.alloc (.cells #[.int .i64 5] 3) = w3 at *;refine Row.append_any rfl _ _ 24 3 rfl (.int .i64 0) 1 8 Tryz.underlying24 infoI rfl (by decide) J _ i _ rfl HO3.out _ 1 _ rfl HL3.out (by simp) (fun u hu => by simp at hu; subst hu; rfl) (by unfold maxLen; omega) (by omega) hsz3 ?_
   intro v8 w8 ho8 hg8 _;obtain ⟨a8, c8, rfl⟩ := own_slice ho8;have hk8 := (hg8.block _ (heap_lt HK3.out) (fun e => own_ty HO3.out HK3.out (by decide) e.symm)).trans HK3.out
   have HB8 := Bas.hid (HB3.out.grown hg8 HB3.out.size (fun g hg => Nat.le_trans hs1 (Row.own_block HO3.out hg).1))
   have c8' := cell_of_heap (i := 3) hk8 rfl;have f8 := free_of_heap (i := 3) hk8;have l8 := heap_lt hk8;have HB9 : Hid (Below w.heap.size w (w8.setCell ⟨J, 3, none⟩ (.slice a8 (i + 1) c8))) := HB8.out.setCell (p := ⟨J, 3, none⟩) hs1 _;have HK9 : Hid ((w8.setCell ⟨J, 3, none⟩ (.slice a8 (i + 1) c8)).heap[J]? = some (.cells #[.slice none 0 0, .int .i64 dir, .int .i32 0, .slice a8 (i + 1) c8] 26 (0, 0))) := by unfold Hid; have k := heap_set (i := 3) hk8 (.slice a8 (i + 1) c8); exact k
   have HO9 : Hid ((w8.setCell ⟨J, 3, none⟩ (.slice a8 (i + 1) c8)).ownsRow J 3 1 (.slice a8 (i + 1) c8) (i + 1) ((List.replicate i (5 : Int) ++ [5]).map (Value.int .i64))) := by
    unfold Hid;rw [List.map_append];exact Row.owned_keep ho8 fun k hk => Below.heap_setCell _ _ _ _ (fun e => own_ty ho8 hk8 (by decide) (by rw [hk, show k = J from e]))
   clear ho8 hg8 hk8 HB3 HK3 HO3 HL3 hsz3;go_wp2_with (fail);clear c8' f8 l8 HB8;generalize w8.setCell ⟨J, 3, none⟩ (.slice a8 (i + 1) c8) = w9 at *;go_roundw
   case rel => exact ⟨i + 1, a8, c8, by omega, by go_num, HB9.out, HK9.out, by rw [List.replicate_succ']; exact HO9.out⟩
   case measure => simp [intOf]; omega
  ·obtain rfl : n = i := by omega
   have e1 : decide ((n : Int) < (n : Int)) = false := by simp
   have c3 := cell_of_heap (i := 3) (v := .slice av n cv) hk rfl;have lJ := heap_lt hk;clear hb hk ho HB2 HK2;go_wp2_with (at_builtin; refine Row.fence ?_);refine Row.unfence ?_;have hb3 := (Below.refl wr.heap.size wr).alloc (Nat.le_refl _) (.cells #[.int .i64 id] 3);have hl3 := leads_heap (n := 1) (c := 1) (Bas.heap_new wr (.cells #[.int .i64 id] 3));have HB3 := Bas.hid (HB.out.trans (hb3.mono HB.out.size));have HK3 := Bas.hid ((hb3.block _ (heap_lt HK.out)).trans HK.out);have HO3 := Bas.hid (Row.owned_below HO.out hb3);have HL3 := Bas.hid hl3;have hsz3 : J ≤ (wr.alloc (.cells #[.int .i64 id] 3)).heap.size := Nat.le_trans hsz hb3.size;clear hb3 hl3 HB HK HO;generalize wr.alloc (.cells #[.int .i64 id] 3) = w3 at *;refine Row.append_any rfl _ _ 24 3 rfl (.int .i64 0) 1 8 Tryz.underlying24 infoI rfl (by decide) J _ n _ rfl HO3.out _ 1 _ rfl HL3.out (by simp) (fun u hu => by simp at hu; subst hu; rfl) (by unfold maxLen; omega) (by omega) hsz3 ?_
   intro v8 w8 ho8 hg8 _;obtain ⟨a8, c8, rfl⟩ := own_slice ho8;have hk8 := (hg8.block _ (heap_lt HK3.out) (fun e => own_ty HO3.out HK3.out (by decide) e.symm)).trans HK3.out
   have HB8 := Bas.hid (HB3.out.grown hg8 HB3.out.size (fun g hg => Nat.le_trans hs1 (Row.own_block HO3.out hg).1))
   have c8' := cell_of_heap (i := 3) hk8 rfl;have f8 := free_of_heap (i := 3) hk8;have l8 := heap_lt hk8;have HB9 : Hid (Below w.heap.size w (w8.setCell ⟨J, 3, none⟩ (.slice a8 (n + 1) c8))) := HB8.out.setCell (p := ⟨J, 3, none⟩) hs1 _;have HK9 : Hid ((w8.setCell ⟨J, 3, none⟩ (.slice a8 (n + 1) c8)).heap[J]? = some (.cells #[.slice none 0 0, .int .i64 dir, .int .i32 0, .slice a8 (n + 1) c8] 26 (0, 0))) := by unfold Hid; have k := heap_set (i := 3) hk8 (.slice a8 (n + 1) c8); exact k
   have HO9 : Hid ((w8.setCell ⟨J, 3, none⟩ (.slice a8 (n + 1) c8)).ownsRow J 3 1 (.slice a8 (n + 1) c8) (n + 1) ((List.replicate n (5 : Int) ++ [id]).map (Value.int .i64))) := by
    unfold Hid;rw [List.map_append];exact Row.owned_keep ho8 fun k hk => Below.heap_setCell _ _ _ _ (fun e => own_ty ho8 hk8 (by decide) (by rw [hk, show k = J from e]))
   clear ho8 hg8 hk8 HB3 HK3 HO3 HL3 hsz3;go_wp2_with (fail);clear c8' f8 l8 HB8;generalize w8.setCell ⟨J, 3, none⟩ (.slice a8 (n + 1) c8) = w9 at *;have HLD := Bas.hid (Row.leads_owned HO9.out);have HLEN : Hid ((List.replicate n (5 : Int) ++ [id]).length = n + 1) := by unfold Hid; simp
   obtain ⟨ids, hids⟩ : ∃ ids, List.replicate n (5 : Int) ++ [id] = ids := ⟨_, rfl⟩;rw [hids] at HLD HLEN HO9;clear hids;have j0 := cell_of_heap (i := 0) (v := .slice none 0 0) HK9.out rfl;have j1 := cell_of_heap (i := 1) (v := .int .i64 dir) HK9.out rfl;have j2 := cell_of_heap (i := 2) (v := .int .i32 0) HK9.out rfl;have j3 := cell_of_heap (i := 3) (v := .slice a8 (n + 1) c8) HK9.out rfl;have lJ9 := heap_lt HK9.out;go_wp2_with (fail);refine' Pl.region_v1 45 [] [0, 2] 1 30 [3, 4] _ (fun v _ => v = .int .i64 (checkN dir ids)) (by kernel_rfl) (by kernel_rfl) (by simp) (fun _ _ _ _ e h => ⟨e ▸ h.1, h.2⟩) ?_ ?_ ?_ ?_
   rotate_left
   ·intro I F hI hF;simp only [Pl.selN, List.nil_append, List.drop_succ_cons, List.drop_zero];have t0 := fun i => hF.cell lJ9 j0 i
    have t1 := fun i => hF.cell lJ9 j1 i
    have t2 := fun i => hF.cell lJ9 j2 i
    have t3 := fun i => hF.cell lJ9 j3 i
    repeat (go_big_quiet_step (fail))
    refine wpQuiet_nil ?_;rfl
   ·exact fun _ _ _ h _ _ => h
   ·simp only [Pl.selN, List.drop_succ_cons, List.drop_zero, List.mem_singleton, forall_eq];intro u hu
    go_simp
    simp only [Pl.valsAt];refine (check_any none 0 0 dir 0 a8 (n + 1) c8 ids u (Row.leads_below HLD.out hu) HLEN.out).mono ?_;rintro e w'' ⟨rfl, hb⟩;exact .inl ⟨_, rfl, hb, rfl⟩
   intro v u hu hv;subst hv;simp only [Pl.selN, List.drop_succ_cons, List.drop_zero, Act.put, List.setIfInBounds_toArray, List.set_cons_zero, List.set_cons_succ];have HBU := Bas.hid (HB9.out.trans (hu.mono HB9.out.size));have HRC := Bas.hid (rcheck_any none 0 0 dir 0 a8 (n + 1) c8 ids u (Row.leads_below HLD.out hu) HLEN.out);clear hu j0 j1 j2 j3 lJ9 HB9 HK9 HO9 HLD;go_wp2_with (fail);refine HRC.out.mono ?_;rintro e w10 ⟨rfl, hb10⟩;have HB10 := Bas.hid (HBU.out.trans (hb10.mono HBU.out.size));clear hb10 HRC HBU;obtain ⟨N, hN⟩ : ∃ N : Nat, (65536 : Int) + (n : Int) % 2 = (N : Int) := ⟨65536 + n % 2, by omega⟩
   have hN2 : N ≤ 70000 := by omega
   have hmk := mk_int w10 N (by omega)
   rw [← hN] at hmk;have HN := Bas.hid hN;have hb11 := (Below.refl w10.heap.size w10).alloc (Nat.le_refl _) (.cells (Array.replicate N (Value.int .i64 0)) 3);have hnew := Bas.heap_new w10 (.cells (Array.replicate N (Value.int .i64 0)) 3);rw [show Array.replicate N (Value.int .i64 0) = (List.replicate N (Value.int .i64 0)).toArray by simp] at hnew
   have hl11 : Row.Leads (w10.alloc (.cells (Array.replicate N (Value.int .i64 0)) 3)) (.slice (some ⟨w10.heap.size, 0, none⟩) N N) N ((List.replicate N (0 : Int)).map (Value.int .i64)) := by
    rw [List.map_replicate];refine leads_heap (n := N) (c := N) (t := 3) ?_;rw [← hnew];simp
   have hb12 := (Below.refl (w10.alloc (.cells (Array.replicate N (Value.int .i64 0)) 3)).heap.size (w10.alloc (.cells (Array.replicate N (Value.int .i64 0)) 3))).alloc (Nat.le_refl _) (.cells #[.slice none 0 0, .int .i64 0, .int .i32 0, .slice (some ⟨w10.heap.size, 0, none⟩) N N] 26);have HL12 := Bas.hid (Row.leads_below hl11 hb12);have HB12 := Bas.hid (HB10.out.trans ((hb11.trans (hb12.mono hb11.size)).mono HB10.out.size));have HK12 : Hid (((w10.alloc (.cells (Array.replicate N (Value.int .i64 0)) 3)).alloc (.cells #[.slice none 0 0, .int .i64 0, .int .i32 0, .slice (some ⟨w10.heap.size, 0, none⟩) N N] 26)).heap[w10.heap.size + 1]? = some (.cells #[.slice none 0 0, .int .i64 0, .int .i32 0, .slice (some ⟨w10.heap.size, 0, none⟩) N N] 26)) := Bas.heap_new2 _ _ _;have HRL : Hid ((List.replicate N (0 : Int)).length = N) := by unfold Hid; simp
   clear hN hb11 hb12 hl11 hnew;generalize List.replicate N (0 : Int) = zs at *;go_wp2_with (fail);generalize (w10.alloc (.cells (Array.replicate N (Value.int .i64 0)) 3)).alloc (.cells #[.slice none 0 0, .int .i64 0, .int .i32 0, .slice (some ⟨w10.heap.size, 0, none⟩) N N] 26) = w12 at *;generalize w10.heap.size = Z at *;have j0 := cell_of_heap (i := 0) (v := .slice none 0 0) HK12.out rfl;have j1 := cell_of_heap (i := 1) (v := .int .i64 0) HK12.out rfl;have j2 := cell_of_heap (i := 2) (v := .int .i32 0) HK12.out rfl;have j3 := cell_of_heap (i := 3) (v := .slice (some ⟨Z, 0, none⟩) N N) HK12.out rfl;have lJ9 := heap_lt HK12.out;clear hmk;refine' Pl.region_v1 45 [] [0, 2] 1 41 [3, 4, 5] _ (fun v _ => v = .int .i64 (checkN 0 zs)) (by kernel_rfl) (by kernel_rfl) (by simp) (fun _ _ _ _ e h => ⟨e ▸ h.1, h.2⟩) ?_ ?_ ?_ ?_
   rotate_left
   ·intro I F hI hF;simp only [Pl.selN, List.nil_append, List.drop_succ_cons, List.drop_zero];have t0 := fun i => hF.cell lJ9 j0 i
    have t1 := fun i => hF.cell lJ9 j1 i
    have t2 := fun i => hF.cell lJ9 j2 i
    have t3 := fun i => hF.cell lJ9 j3 i
    repeat (go_big_quiet_step (fail))
    refine wpQuiet_nil ?_;rfl
   ·exact fun _ _ _ h _ _ => h
   ·simp only [Pl.selN, List.drop_succ_cons, List.drop_zero, List.mem_singleton, forall_eq];intro u hu
    go_simp
    simp only [Pl.valsAt];refine (check_any none 0 0 0 0 (some ⟨Z, 0, none⟩) N N zs u (Row.leads_below HL12.out hu) HRL.out).mono ?_;rintro e w'' ⟨rfl, hb⟩;exact .inl ⟨_, rfl, hb, rfl⟩
   intro v u hu hv;subst hv;simp only [Pl.selN, List.drop_succ_cons, List.drop_zero, Act.put, List.setIfInBounds_toArray, List.set_cons_zero, List.set_cons_succ];have HBU := Bas.hid (HB12.out.trans (hu.mono HB12.out.size));have HRC := Bas.hid (rcheck_any none 0 0 0 0 (some ⟨Z, 0, none⟩) N N zs u (Row.leads_below HL12.out hu) HRL.out);clear hu j0 j1 j2 j3 lJ9 HB12 HK12 HL12;go_wp2_with (fail);refine HRC.out.mono ?_;rintro e w13 ⟨rfl, hb13⟩;have HB13 := Bas.hid (HBU.out.trans (hb13.mono HBU.out.size));clear hb13 HRC HBU;go_wp2_with (fail);go_ret;exact ⟨rfl, HB13.out⟩
theorem shapeChecks_walk (a0 a1 a2 : Int) (W : World) (_ : (Lit.int .i64 a0).wf = true) (_ : (Lit.int .i64 a1).wf = true) (w2 : (Lit.int .u8 a2).wf = true) :
  Calls Tryz.prog 3 #[.int .i64 a0, .int .i64 a1, .int .u8 a2] W fun e w' => e = .returned (.bool true) ∧ Below W.heap.size W w' := by
 have h : 0 ≤ a2 ∧ a2 ≤ 255 := Bas.wf_u8 w2;exact checks_walk a0 a1 a2 h W
end Sh
end Go.Proofs.YtceihjjjmcgmaaaGreat
