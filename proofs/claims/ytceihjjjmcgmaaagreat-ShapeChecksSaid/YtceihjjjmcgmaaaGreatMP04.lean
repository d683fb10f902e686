/- Parts of a proof: texts ShOpen, PickA, PickLay, PickSort, FeatOne, FeatTake, FeatExcl, PickMap, PickSettleD, PickSettle, PickOn, PickFlags, MxFlags, MxSub, MxSubT, MxRunD, MxRun, TrakD, TrakTake, TrakVal, TrakAt, TrakValue, ShNone, ShWr, FeatWrD, FeatWr, ChainWrD. -/
import Derived.Test.YtceihjjjmcgmaaaGreatMP03
import Derived.Sort.Grow
import Derived.Shelf.SlSortCmp.WholeK
import Derived.Maps.RangeWalk
import Derived.Maps.Ext
import Derived.DeepKeys4
import Derived.Shelf.SlSortCmp.NoneTotal
import Derived.Laws.EntriesVeiled
import Derived.Laws.ResultCell
namespace Go.Proofs.YtceihjjjmcgmaaaGreat
open Go.RowKit
namespace Sh
open Fo Vw Wr
theorem face_gl (a b c : Int) (w : World) : (Instr.field 196 (.agg #[.int .i64 a, .int .i64 b, .int .i64 c]) 0).run Tryz.prog w = .ok (.int .i64 a) w := by
 have h := run_underlying (P := Tryz.prog) Tryz.underlying196;simp [Instr.field, h, part, asAgg, go_sem]
theorem noTab_width (g m : Int) (d : List Int) : noTab (widthP g m d) := by
 intro p hp;simp only [widthP, List.mem_cons, List.not_mem_nil, or_false] at hp;rcases hp with rfl | rfl | rfl | rfl <;> dsimp only <;> decide
theorem isW_base {w : World} {base base' p g m : Nat} {d : List Int} (h : IsW w base p g m d) (hb : base' ≤ base) : IsW w base' p g m d := by
 obtain ⟨h1, gb, cb, h2, h3⟩ := h;exact ⟨Nat.le_trans hb h1, gb, cb, Nat.le_trans hb h2, h3⟩
def OpenP (w : World) (gf gw g m : Nat) (d : List Int) (u : World) : Prop := ∃ gm gk ga gt, u.heap[gf]? = some (.cells #[.pointer (some ⟨gw, 0, none⟩), .slice none 0 0, .pointer (some ⟨gm, 0, none⟩), .pointer (some ⟨gk, 0, none⟩), .pointer (some ⟨ga, 0, none⟩), .pointer (some ⟨gt, 0, none⟩)] 204 (0, 0)) ∧
 u.heap[gm]? = some (.cells #[.slice none 0 0] 214 (0, 0)) ∧ u.heap[gk]? = some (.cells #[.slice none 0 0] 220 (0, 0)) ∧ u.heap[ga]? = some (.cells #[.pointer none, .slice none 0 0] 226 (0, 0)) ∧ u.heap[gt]? = some (.cells #[.slice none 0 0, .slice none 0 0, .slice none 0 0, .slice none 0 0] 233 (0, 0)) ∧ IsW u w.heap.size gw g m d
set_option maxRecDepth 100000 in
set_option maxHeartbeats 16000000 in
theorem open_any (a : Option Addr) (len cap : Nat) (bs : List Int) (g m : Nat) (d : List Int) (w : World) (hl : len ≤ cap) (hc : cap ≤ maxLen) (hv : VB w a bs) (hbl : bs.length = len) (hn : a = none → cap = 0) (hF : IsFont bs (widthP (g : Nat) (m : Nat) d)) (hd : d.length = 4 * m + 2 * (g - m)) (hm1 : 1 ≤ m) (hmg : m ≤ g) (hgb : g ≤ 65535) :
  Calls Tryz.prog 28 #[.slice a len cap] w fun e w' => Below w.heap.size w w' ∧ ∃ gf gw, e = .returned (.tuple #[.pointer (some ⟨gf, 0, none⟩), .int .i64 0]) ∧ OpenP w gf gw g m d w' := by
 have hmf : ∀ (fn : Fn) (first cap : Array Value) (w : World), (Instr.makeFunc fn first cap).run Tryz.prog w = .ok (.func fn first cap) w := fun _ _ _ _ => rfl
 have hcf : ∀ (caps : Array Value) w, (callFunc 52 caps).run Tryz.prog w = .ok (.enter 52 caps) w := fun caps w => by simp [go_sem]
 have HCF := Bas.hid hcf;have HV := Bas.hid hv;have HF := Bas.hid hF;have HD := Bas.hid hd;have HBL := Bas.hid hbl;have hb1 := (Below.refl w.heap.size w).alloc (Nat.le_refl _) (.cells #[.slice a len cap] 47);have HB1 := Bas.hid hb1;have HKB1 := Bas.hid (Bas.heap_new w (.cells #[.slice a len cap] 47));have HOF := Bas.hid (of_any a len cap (w.alloc (.cells #[.slice a len cap] 47)));have HBY := Bas.hid (fun u (hb : Below w.heap.size w u) => bytes_any a len cap bs u hl hc (hv.below hb) hbl hn)
 clear hcf hv hF hd hbl hb1;go_enter Tryz.func28, Tryz.ntmps28
 go_wp2_with (fail);generalize w.alloc (.cells #[.slice a len cap] 47) = w1 at *;refine HOF.out.mono ?_;rintro e w2 ⟨rfl, hb2⟩;have HB2 := Bas.hid (HB1.out.trans (hb2.mono HB1.out.size));have HKB2 := Bas.hid ((hb2.block _ (heap_lt HKB1.out)).trans HKB1.out);clear hb2 HB1 HKB1 HOF;go_wp2_with (fail);refine (HBY.out w2 HB2.out).mono ?_;rintro e w3 ⟨v3, rfl, ho3, hne3, hb3⟩;obtain ⟨a3, c3, rfl⟩ := own_slice ho3;have HO3 := Bas.hid ho3;have HB3 := Bas.hid (HB2.out.trans (hb3.mono HB2.out.size));have hk3 := (hb3.block _ (heap_lt HKB2.out)).trans HKB2.out;have hT2 := heap_lt HKB2.out;rw [HBL.out] at HO3 ⊢;have c0 := cell_of_heap (i := 0) hk3 rfl;have f0 := free_of_heap (i := 0) hk3;have l0 := heap_lt hk3;have hlc : len ≤ c3 ∧ c3 ≤ maxLen := by
  rcases Row.owned_parts HO3.out with ⟨h1, h2, _⟩ | ⟨_, _, h1, _, _, h2, h3, _⟩
  ·cases h1; omega
  ·cases h1; exact ⟨h2, h3⟩
 have HB4 : Hid (Below w.heap.size w (w3.setCell ⟨w.heap.size, 0, none⟩ (.slice a3 len c3))) := HB3.out.setCell (Nat.le_refl _) _;have HKB4 : Hid ((w3.setCell ⟨w.heap.size, 0, none⟩ (.slice a3 len c3)).heap[w.heap.size]? = some (.cells #[.slice a3 len c3] 47 (0, 0))) := by unfold Hid; have k := heap_set (i := 0) hk3 (.slice a3 len c3); exact k
 have HO4 : Hid ((w3.setCell ⟨w.heap.size, 0, none⟩ (.slice a3 len c3)).ownsRow w2.heap.size 5 1 (.slice a3 len c3) len (bs.map (Value.int .u8))) := Row.owned_keep HO3.out fun k hk => Below.heap_setCell _ _ _ _ (fun e => by have h := (Row.own_block HO3.out hk).1; rw [show k = w.heap.size from e] at h; omega)
 clear hb3 ho3 hne3 HBY HB2 HKB2 hk3;go_wp2_with (fail);generalize w3.setCell ⟨w.heap.size, 0, none⟩ (.slice a3 len c3) = w4 at *;clear c0 f0 l0 HO3 HB3;have hvb4 : VB w4 a3 bs := Mx.vb_own HO4.out HV.out.len HV.out.byte;have HRD := wread_any a3 c3 bs g m _ d w4 (by rw [HBL.out]; exact hlc.1) hlc.2 hvb4 HF.out hm1 hmg hgb rfl
 rw [HD.out, HBL.out, decide_eq_true (Nat.le_refl _), List.take_of_length_le (by rw [HD.out]; exact Nat.le_refl _)] at HRD
 have HRD := Bas.hid HRD;have k0 := cell_of_heap (i := 0) (v := .slice a3 len c3) HKB4.out rfl;have l0 := heap_lt HKB4.out;clear hvb4;go_wp2_with (fail);refine HRD.out.mono ?_;rintro e w5 ⟨hb5, gw, rfl, hw5⟩;have HB5 := Bas.hid (HB4.out.trans (hb5.mono HB4.out.size));have HKB5 := Bas.hid ((hb5.block _ l0).trans HKB4.out);have HO5 := Bas.hid (Row.owned_below HO4.out hb5);have hs4 : w.heap.size ≤ w4.heap.size := HB4.out.size;have HW5 : Hid (IsW w5 w4.heap.size gw g m d) := hw5;have HFC5 := Bas.hid (wface_any w5 _ gw g m d hw5);have hgl := fun u => face_gl (g : Int) 1000 (m : Int) u
 have e1 : decide ((65535 : Int) < (g : Int)) = false := by simp; omega
 clear hb5 hw5 k0 l0 HRD HB4 HKB4 HO4;go_wp2_with (fail);refine HFC5.out.mono ?_;rintro e w6 ⟨rfl, hb6⟩;have HB6 := Bas.hid (HB5.out.trans (hb6.mono HB5.out.size));have HKB6 := Bas.hid ((hb6.block _ (heap_lt HKB5.out)).trans HKB5.out);have HO6 := Bas.hid (Row.owned_below HO5.out hb6);have HW6 := Bas.hid (isW_below HW5.out hb6);clear hb6 HFC5 HB5 HKB5 HO5 HW5;go_wp2_with (fail);have hb7 := ((Below.refl w6.heap.size w6).alloc (Nat.le_refl _) (.cells #[.pointer (some ⟨gw, 0, none⟩), .slice none 0 0, .pointer none, .pointer none, .pointer none, .pointer none] 204)).alloc (by simp) (.cells #[.pointer (some ⟨w6.heap.size, 0, none⟩)] 124)
 have kf7 := (Below.heap_alloc (w6.alloc (.cells #[.pointer (some ⟨gw, 0, none⟩), .slice none 0 0, .pointer none, .pointer none, .pointer none, .pointer none] 204)) (.cells #[.pointer (some ⟨w6.heap.size, 0, none⟩)] 124) w6.heap.size (by simp)).trans (Bas.heap_new w6 (.cells #[.pointer (some ⟨gw, 0, none⟩), .slice none 0 0, .pointer none, .pointer none, .pointer none, .pointer none] 204))
 have kp7 := Bas.heap_new2 w6 (.cells #[.pointer (some ⟨gw, 0, none⟩), .slice none 0 0, .pointer none, .pointer none, .pointer none, .pointer none] 204) (.cells #[.pointer (some ⟨w6.heap.size, 0, none⟩)] 124);generalize (w6.alloc (.cells #[.pointer (some ⟨gw, 0, none⟩), .slice none 0 0, .pointer none, .pointer none, .pointer none, .pointer none] 204)).alloc (.cells #[.pointer (some ⟨w6.heap.size, 0, none⟩)] 124) = w7 at *;have HFC7 := Bas.hid (wface_any w7 _ gw g m d (isW_below HW6.out hb7));have HB7 := Bas.hid hb7;have HKF7 := Bas.hid kf7;have HKP7 := Bas.hid kp7;clear hb7 kf7 kp7;refine HFC7.out.mono ?_;rintro e w8 ⟨rfl, hb8⟩;have HB8 := Bas.hid (HB7.out.trans (hb8.mono HB7.out.size));have HKF8 := Bas.hid ((hb8.block _ (heap_lt HKF7.out)).trans HKF7.out);have HKP8 := Bas.hid ((hb8.block _ (heap_lt HKP7.out)).trans HKP7.out);clear hb8 HB7 HKF7 HKP7 HFC7;go_wp2_with (fail);have hb9 := (Below.refl w8.heap.size w8).alloc (Nat.le_refl _) (.cells #[.int .i64 (g : Int)] 3);have hs9 : w8.heap.size < (w8.alloc (.cells #[.int .i64 (g : Int)] 3)).heap.size := by simp
 have HB9 := Bas.hid (HB8.out.trans (hb9.mono HB8.out.size));have HKF9 := Bas.hid ((hb9.block _ (heap_lt HKF8.out)).trans HKF8.out);have HKP9 := Bas.hid ((hb9.block _ (heap_lt HKP8.out)).trans HKP8.out);generalize w8.alloc (.cells #[.int .i64 (g : Int)] 3) = w9 at *;generalize w8.heap.size = BG at *;clear hb9 HB8 HKF8 HKP8;have hb10 := (Below.refl w9.heap.size w9).alloc (Nat.le_refl _) (.cells #[.bool false] 4);have kb10 := Bas.heap_new w9 (.cells #[.bool false] 4);have HBX := Bas.hid (HB9.out.trans (hb10.mono HB9.out.size));have HKFX := Bas.hid ((hb10.block _ (heap_lt HKF9.out)).trans HKF9.out);have HKPX := Bas.hid ((hb10.block _ (heap_lt HKP9.out)).trans HKP9.out);have HKBX := Bas.hid ((HBX.out.block _ (heap_lt HKB6.out)).trans HKB6.out);have HOX := Bas.hid (Row.owned_keep HO6.out fun k hk => HBX.out.block k (Row.own_block HO6.out hk).2)
 have lp9 := heap_lt HKP9.out;have hxs : (w9.alloc (.cells #[.bool false] 4)).heap.size = w9.heap.size + 1 := World.size_alloc _ _;have HC : Calls Tryz.prog 52 #[.pointer (some ⟨w.heap.size, 0, none⟩), .pointer (some ⟨w6.heap.size + 1, 0, none⟩), .pointer (some ⟨BG, 0, none⟩)] (w9.alloc (.cells #[.bool false] 4)) (TryPost w9.heap.size (fun ok u => ok = true ∧ OpenD (w9.alloc (.cells #[.bool false] 4)) w6.heap.size gw u)) := by
  refine (open1_any w.heap.size (w6.heap.size + 1) BG w6.heap.size gw a3 len c3 bs (widthP (g : Nat) (m : Nat) d) (w9.alloc (.cells #[.bool false] 4)) HKBX.out HKPX.out HKFX.out (by simp [widthP]) (noTab_width _ _ _) hlc.1 hlc.2 HBL.out HF.out (fun u hu => ?_)).mono ?_
  ·exact Mx.vb_own (Row.owned_keep HOX.out fun k hk => hu k (Row.own_block HOX.out hk).2 (fun e => own_ty HOX.out HKFX.out (by decide) (by rw [hk, e]))) HV.out.len HV.out.byte
  ·rintro e u ⟨rfl, hO⟩;have hO2 := hO;obtain ⟨gm, gk, ga, gt, _, _, _, _, _, _, _, _, _, hm⟩ := hO2;exact ⟨hm.heap kb10 (by omega), .inl ⟨rfl, rfl, hO⟩⟩
 have HCC := Bas.hid HC;clear HC kb10 hb10;go_wp2_with (fail);refine (try_any 52 _ w9 _ (HCF.out _) HCC.out).mono ?_;rintro e w11 ⟨ok, w10, rfl, ⟨rfl, gm, gk, ga, gt, j1, j2, j3, j4, j5, j6, j7, j8, j9, hm⟩, hlt, hg11⟩;have hb10 : Below w6.heap.size w6 w10 := hm.below HBX.out (fun i hi => by subst hi; omega) (by omega)
 have HB11 := Bas.hid (Bas.below_g hb10 hg11 hb10.size (by omega))
 have kp11 := (hg11.block _ (by have := hm.size; omega) (by simp; omega)).trans (hm.heap HKPX.out (by omega))
 have HP11 : Hid (OpenP w w6.heap.size gw g m d w11) := ⟨gm, gk, ga, gt, (hg11.block _ (heap_lt j1) (by simp; omega)).trans j1, (hg11.block _ (heap_lt j6) (by simp; omega)).trans j6, (hg11.block _ (heap_lt j7) (by simp; omega)).trans j7, (hg11.block _ (heap_lt j8) (by simp; omega)).trans j8, (hg11.block _ (heap_lt j9) (by simp; omega)).trans j9, isW_base (isW_below HW6.out HB11.out) hs4⟩
 have HBE := Bas.hid (HB6.out.trans (HB11.out.mono HB6.out.size));have c0 := cell_of_heap (i := 0) kp11 rfl;have l0 := heap_lt kp11;clear j1 j2 j3 j4 j5 j6 j7 j8 j9 hm hlt hg11 hb10 kp11 HCC HKFX HKPX HKBX HOX HBX;go_wp2_with (fail)
 go_ret2
 exact ⟨HBE.out, _, _, rfl, HP11.out⟩
end Sh
namespace Pk
open Ch
def setC (s : Int × Int) : List Value := [.int .i64 s.1, .int .i64 s.2]
def setV (s : Int × Int) : Value := .agg #[.int .i64 s.1, .int .i64 s.2]
def cmpI (a b : Int) : Int := if a < b then -1 else if b < a then 1 else 0
def cmpP (x y : Int × Int) : Int := if cmpI x.1 y.1 = 0 then cmpI x.2 y.2 else cmpI x.1 y.1
set_option maxHeartbeats 1000000 in
theorem nan_any (a : Int) (w : World) : Calls Tryz.prog 224 #[.int .i64 a] w fun e w' => e = .returned (.bool false) ∧ w' = w := by
 go_enter Tryz.func224, Tryz.ntmps224
 go_wp2_with (fail);go_ret;exact ⟨rfl, rfl⟩
set_option maxHeartbeats 1000000 in
theorem cmpint_any (a b : Int) (w : World) : Calls Tryz.prog 175 #[.int .i64 a, .int .i64 b] w fun e w' => e = .returned (.int .i64 (cmpI a b)) ∧ w' = w := by
 by_cases h1 : a < b
 ·have hr : cmpI a b = -1 := by simp [cmpI, h1]
  rw [hr];have e1 : decide (a < b) = true := decide_eq_true h1;clear hr;go_enter Tryz.func175, Tryz.ntmps175
  go_wp2_with (fail);refine (nan_any a w).mono ?_;rintro e w' ⟨rfl, rfl⟩;go_wp2_with (fail);refine (nan_any b w').mono ?_;rintro e w' ⟨rfl, rfl⟩;go_wp2_with (fail);go_ret;exact ⟨rfl, rfl⟩
 ·by_cases h2 : b < a
  ·have hr : cmpI a b = 1 := by simp [cmpI, h1, h2]
   rw [hr];have e1 : decide (a < b) = false := decide_eq_false h1;have e2 : decide (b < a) = true := decide_eq_true h2;have e3 : decide (a > b) = true := decide_eq_true h2;clear hr;go_enter Tryz.func175, Tryz.ntmps175
   go_wp2_with (fail);refine (nan_any a w).mono ?_;rintro e w' ⟨rfl, rfl⟩;go_wp2_with (fail);refine (nan_any b w').mono ?_;rintro e w' ⟨rfl, rfl⟩;go_wp2_with (fail);go_ret;exact ⟨rfl, rfl⟩
  ·have hr : cmpI a b = 0 := by simp [cmpI, h1, h2]
   rw [hr];have e1 : decide (a < b) = false := decide_eq_false h1;have e2 : decide (b < a) = false := decide_eq_false h2;have e3 : decide (a > b) = false := decide_eq_false h2;clear hr;go_enter Tryz.func175, Tryz.ntmps175
   go_wp2_with (fail);refine (nan_any a w).mono ?_;rintro e w' ⟨rfl, rfl⟩;go_wp2_with (fail);refine (nan_any b w').mono ?_;rintro e w' ⟨rfl, rfl⟩;go_wp2_with (fail);go_ret;exact ⟨rfl, rfl⟩
set_option maxHeartbeats 1000000 in
theorem or_any (g : Nat) (p q : Int) (w : World) (h : w.heap[g]? = some (.cells #[.int .i64 p, .int .i64 q] 3 (0, 0))) :
  Calls Tryz.prog 174 #[.slice (some ⟨g, 0, none⟩) 2 2] w fun e w' => e = .returned (.int .i64 (if p = 0 then q else p)) ∧ w' = w := by
 have c0 := cell_of_heap (i := 0) (v := .int .i64 p) h rfl;have c1 := cell_of_heap (i := 1) (v := .int .i64 q) h rfl;by_cases hp : p = 0
 ·subst hp;rw [if_pos rfl];by_cases hq : q = 0
  ·subst hq;go_enter Tryz.func174, Tryz.ntmps174
   go_wp2_with (fail);refine wp_loop_rounds 3 ?_;rw [rounds_succ];go_wp2_with (fail);rw [rounds_succ];go_wp2_with (fail);rw [rounds_succ];go_wp2_with (fail);go_ret;exact ⟨rfl, rfl⟩
  ·have e2 : (q == 0) = false := by simpa using hq
   have e3 : decide (q = 0) = false := by simpa using hq
   have e4 : (q != 0) = true := by simpa using hq
   clear hq;go_enter Tryz.func174, Tryz.ntmps174
   go_wp2_with (fail);refine wp_loop_rounds 2 ?_;rw [rounds_succ];go_wp2_with (fail);rw [rounds_succ];go_wp2_with (fail);go_ret;exact ⟨rfl, rfl⟩
 ·rw [if_neg hp];have e2 : (p == 0) = false := by simpa using hp
  have e3 : decide (p = 0) = false := by simpa using hp
  have e4 : (p != 0) = true := by simpa using hp
  clear hp;go_enter Tryz.func174, Tryz.ntmps174
  go_wp2_with (fail);refine wp_loop_rounds 1 ?_;rw [rounds_succ];go_wp2_with (fail);go_ret;exact ⟨rfl, rfl⟩
set_option maxHeartbeats 4000000 in
theorem compare_any (x y : Int × Int) (w : World) :
  Calls Tryz.prog 115 #[.agg #[.int .i64 x.1, .int .i64 x.2], .agg #[.int .i64 y.1, .int .i64 y.2]] w fun e w' => e = .returned (.int .i64 (cmpP x y)) ∧ ∃ q os', w' = Go.Sort.grow (w.drewN q) os' := by
 obtain ⟨a, b⟩ := x;obtain ⟨c, d⟩ := y;simp only;obtain ⟨p, hp⟩ : ∃ p, cmpI a c = p := ⟨_, rfl⟩;obtain ⟨q, hq⟩ : ∃ q, cmpI b d = q := ⟨_, rfl⟩;have hr : cmpP (a, b) (c, d) = if p = 0 then q else p := by unfold cmpP; rw [hp, hq]
 rw [hr];obtain ⟨r, hrr⟩ : ∃ r, (if p = 0 then q else p) = r := ⟨_, rfl⟩
 have HC1 := Bas.hid (fun w => hp ▸ cmpint_any a c w)
 have HC2 := Bas.hid (fun w => hq ▸ cmpint_any b d w)
 have HR := Bas.hid hrr;rw [hrr];clear hp hq hr hrr;go_enter Tryz.func115, Tryz.ntmps115
 go_wp2_with (fail);have k2 := Bas.heap_new2 w (.cells #[.int .i64 a, .int .i64 b] 325) (.cells #[.int .i64 c, .int .i64 d] 325);have k1 : ((w.alloc (.cells #[.int .i64 a, .int .i64 b] 325)).alloc (.cells #[.int .i64 c, .int .i64 d] 325)).heap[w.heap.size]? = some (.cells #[.int .i64 a, .int .i64 b] 325 (0, 0)) := by
  rw [Below.heap_alloc _ _ _ (by simp)]; exact Bas.heap_new _ _
 have hWW : ∃ W : World, (w.alloc (.cells #[.int .i64 a, .int .i64 b] 325)).alloc (.cells #[.int .i64 c, .int .i64 d] 325) = W := ⟨_, rfl⟩;obtain ⟨W, hW⟩ := hWW;have HW := Bas.hid hW;rw [hW] at k1 k2 ⊢;clear hW;have a0 := cell_of_heap (i := 0) (v := .int .i64 a) k1 rfl;have a1 := cell_of_heap (i := 1) (v := .int .i64 b) k1 rfl;have b0 := cell_of_heap (i := 0) (v := .int .i64 c) k2 rfl;have b1 := cell_of_heap (i := 1) (v := .int .i64 d) k2 rfl;obtain ⟨F, hF⟩ : ∃ F : Unit → World, ∀ i, F i = W.drew := ⟨fun _ => W.drew, fun _ => rfl⟩
 have HF0 := Bas.hid (hF ()).symm;refine Pl.region_plan0 () [(true, 0), (true, 1), (true, 2), (true, 3), (true, 5), (true, 6), (true, 7), (true, 8), (false, 4), (false, 9), (false, 10), (false, 11), (false, 12)] [9, 10, 11, 12] (by kernel_rfl) (by kernel_rfl) (fun _ _ _ _ e h => ⟨e ▸ h.1, h.2⟩) HF0.out ?_
 refine Pl.head_sel0 [(true, 0), (true, 1), (true, 2), (true, 3), (true, 5), (true, 6), (true, 7), (true, 8)] (by kernel_rfl) (by kernel_rfl) ?_
 simp only [Pl.sel, List.drop_succ_cons, List.drop_zero];have x0 : ∀ i, (F i).cell? ⟨w.heap.size, 0, none⟩ = some (.int .i64 a) := fun i => by rw [hF i]; exact a0
 have x1 : ∀ i, (F i).cell? ⟨w.heap.size, 1, none⟩ = some (.int .i64 b) := fun i => by rw [hF i]; exact a1
 have y0 : ∀ i, (F i).cell? ⟨w.heap.size + 1, 0, none⟩ = some (.int .i64 c) := fun i => by rw [hF i]; exact b0
 have y1 : ∀ i, (F i).cell? ⟨w.heap.size + 1, 1, none⟩ = some (.int .i64 d) := fun i => by rw [hF i]; exact b1
 have HFE := Bas.hid hF;clear hF a0 a1 b0 b1 k1 k2;repeat (go_big_quiet_step (fail))
 refine wpQuiet_nil ?_;rw [← HF0.out];refine Pl.one_sel (by kernel_rfl) ?_
 intro Q' hQ' hP';simp only [Pl.sel, List.drop_succ_cons, List.drop_zero];clear x0 x1 y0 y1;go_wp2_with (fail);refine (HC1.out W.drew).mono ?_;rintro e w1 ⟨rfl, rfl⟩;go_wp2_with (fail);refine hQ' _ _ (fun _ _ => ⟨(), HF0.out⟩) ?_
 clear hQ' hP' Q';refine Pl.tail_sel [(false, 9), (false, 10), (false, 11), (false, 12)] (by kernel_rfl) (by kernel_rfl) ?_
 simp only [Pl.sel, List.drop_succ_cons, List.drop_zero];go_wp2_with (fail);refine (HC2.out W.drew).mono ?_;rintro e w1 ⟨rfl, rfl⟩;go_wp2_with (fail);refine (or_any W.heap.size p q ((W.alloc (.cells #[.int .i64 p, .int .i64 q] 3)).drew) (Bas.heap_new W (.cells #[.int .i64 p, .int .i64 q] 3))).mono ?_;rintro e w1 ⟨rfl, rfl⟩;rw [HR.out];go_wp2_with (fail);go_ret;refine ⟨rfl, 1, #[.cells #[.int .i64 a, .int .i64 b] 325, .cells #[.int .i64 c, .int .i64 d] 325, .cells #[.int .i64 p, .int .i64 q] 3], ?_⟩;rw [← HW.out];rw [Go.Sort.alloc_eq_grow, Go.Sort.alloc_eq_grow, Go.Sort.alloc_eq_grow, Go.Sort.grow_grow, Go.Sort.grow_grow];rfl
end Pk
end Go.Proofs.YtceihjjjmcgmaaaGreat
namespace Go.Proofs.YtceihjjjmcgmaaaGreat
open Go.RowKit Go.Shelf
namespace Pk
def sortSt_ren : Go.Shelf.Ren := ⟨fun | 6 => 114 | 15 => 173 | 14 => 172 | 28 => 222 | 29 => 223 | 20 => 214 | 21 => 215 | 22 => 216 | 23 => 217 | 24 => 218 | 25 => 219 | 26 => 220 | 27 => 221 | 46 => 246 | 47 => 247 | 48 => 248 | 49 => 249 | 50 => 250 | 57 => 258 | n => n, fun | 22 => 23 | 24 => 325 | 25 => 329 | 3 => 3 | 39 => 367 | 0 => 0 | 53 => 88 | 55 => 472 | 4 => 4 | 46 => 466 | 45 => 465 | 50 => 185 | 5 => 5 | 9 => 9 | 66 => 499 | 70 => 503 | 76 => 511 | 77 => 449 | n => n, fun | n => n⟩
theorem sortSt : Go.Proofs.SlLaysF0.n6 Tryz.prog sortSt_ren := {
 mixed := by kernel_rfl,
 f6 := ⟨Tryz.f114.name, by decide, Tryz.func114.trans (congrArg some (by kernel_rfl))⟩,
 f14 := ⟨Tryz.f172.name, by decide, Tryz.func172.trans (congrArg some (by kernel_rfl))⟩,
 f15 := Tryz.func173.trans (congrArg some (by kernel_rfl)),
 f20 := ⟨Tryz.f214.name, by decide, Tryz.func214.trans (congrArg some (by kernel_rfl))⟩,
 f21 := ⟨Tryz.f215.name, by decide, Tryz.func215.trans (congrArg some (by kernel_rfl))⟩,
 f22 := ⟨Tryz.f216.name, by decide, Tryz.func216.trans (congrArg some (by kernel_rfl))⟩,
 f23 := ⟨Tryz.f217.name, by decide, Tryz.func217.trans (congrArg some (by kernel_rfl))⟩,
 f24 := ⟨Tryz.f218.name, by decide, Tryz.func218.trans (congrArg some (by kernel_rfl))⟩,
 f25 := ⟨Tryz.f219.name, by decide, Tryz.func219.trans (congrArg some (by kernel_rfl))⟩,
 f26 := ⟨Tryz.f220.name, by decide, Tryz.func220.trans (congrArg some (by kernel_rfl))⟩,
 f27 := ⟨Tryz.f221.name, by decide, Tryz.func221.trans (congrArg some (by kernel_rfl))⟩,
 f28 := Tryz.func222.trans (congrArg some (by kernel_rfl)),
 f29 := Tryz.func223.trans (congrArg some (by kernel_rfl)),
 f46 := ⟨Tryz.f246.name, by decide, Tryz.func246.trans (congrArg some (by kernel_rfl))⟩,
 f47 := Tryz.func247.trans (congrArg some (by kernel_rfl)),
 f48 := Tryz.func248.trans (congrArg some (by kernel_rfl)),
 f49 := ⟨Tryz.f249.name, by decide, Tryz.func249.trans (congrArg some (by kernel_rfl))⟩,
 f50 := ⟨Tryz.f250.name, by decide, Tryz.func250.trans (congrArg some (by kernel_rfl))⟩,
 f57 := ⟨Tryz.f258.name, by decide, Tryz.func258.trans (congrArg some (by kernel_rfl))⟩,
 t0 := Tryz.underlying0,
 a0 := Tryz.isAgg0,
 z0 := Tryz.sizeOf0,
 v0 := Tryz.zeroValue0,
 t3 := Tryz.underlying3,
 a3 := Tryz.isAgg3,
 z3 := Tryz.sizeOf3,
 v3 := Tryz.zeroValue3,
 t4 := Tryz.underlying4,
 a4 := Tryz.isAgg4,
 z4 := Tryz.sizeOf4,
 v4 := Tryz.zeroValue4,
 t5 := Tryz.underlying5,
 a5 := Tryz.isAgg5,
 z5 := Tryz.sizeOf5,
 v5 := Tryz.zeroValue5,
 t9 := Tryz.underlying9,
 a9 := Tryz.isAgg9,
 z9 := Tryz.sizeOf9,
 v9 := Tryz.zeroValue9,
 t22 := Tryz.underlying23,
 a22 := Tryz.isAgg23,
 z22 := Tryz.sizeOf23,
 v22 := Tryz.zeroValue23,
 t25 := Tryz.underlying329,
 a25 := Tryz.isAgg329,
 z25 := Tryz.sizeOf329,
 v25 := Tryz.zeroValue329,
 t39 := Tryz.underlying367,
 a39 := Tryz.isAgg367,
 z39 := Tryz.sizeOf367,
 v39 := Tryz.zeroValue367,
 t45 := Tryz.underlying465,
 a45 := Tryz.isAgg465,
 z45 := Tryz.sizeOf465,
 v45 := Tryz.zeroValue465,
 t46 := Tryz.underlying466,
 a46 := Tryz.isAgg466,
 z46 := Tryz.sizeOf466,
 v46 := Tryz.zeroValue466,
 t50 := Tryz.underlying185,
 a50 := Tryz.isAgg185,
 z50 := Tryz.sizeOf185,
 v50 := Tryz.zeroValue185,
 t53 := Tryz.underlying88,
 a53 := Tryz.isAgg88,
 z53 := Tryz.sizeOf88,
 v53 := Tryz.zeroValue88,
 t55 := Tryz.underlying472,
 a55 := Tryz.isAgg472,
 z55 := Tryz.sizeOf472,
 v55 := Tryz.zeroValue472,
 t66 := Tryz.underlying499,
 a66 := Tryz.isAgg499,
 z66 := Tryz.sizeOf499,
 v66 := Tryz.zeroValue499,
 t70 := Tryz.underlying503,
 a70 := Tryz.isAgg503,
 z70 := Tryz.sizeOf503,
 v70 := Tryz.zeroValue503,
 t76 := Tryz.underlying511,
 a76 := Tryz.isAgg511,
 z76 := Tryz.sizeOf511,
 v76 := Tryz.zeroValue511,
 t77 := Tryz.underlying449,
 a77 := Tryz.isAgg449,
 z77 := Tryz.sizeOf449,
 v77 := Tryz.zeroValue449 }
end Pk
namespace Pk
open Ch
def ltP (x y : Int × Int) : Bool := decide (x.1 < y.1 ∨ (x.1 = y.1 ∧ x.2 < y.2))
theorem cmpI_neg (a b : Int) : cmpI a b < 0 ↔ a < b := by
 unfold cmpI;by_cases h1 : a < b
 ·simp [h1]
 ·by_cases h2 : b < a <;> simp [h1, h2]
theorem cmpI_zero (a b : Int) : cmpI a b = 0 ↔ a = b := by
 unfold cmpI;by_cases h1 : a < b
 ·simp [h1]; omega
 ·by_cases h2 : b < a
  ·simp [h1, h2]; omega
  ·simp [h1, h2]; omega
theorem ltOf_eq (x y : Int × Int) : ltOf cmpP x y = ltP x y := by
 unfold ltOf ltP cmpP;rw [decide_eq_decide];by_cases h : cmpI x.1 y.1 = 0
 ·rw [if_pos h, cmpI_neg];have := (cmpI_zero _ _).1 h;omega
 ·rw [if_neg h, cmpI_neg];have : x.1 ≠ y.1 := fun e => h ((cmpI_zero _ _).2 e)
  omega
theorem swo : Go.Sort.SWO (ltOf cmpP) where
 irrefl x := by rw [ltOf_eq]; simp [ltP]
 trans x y z h1 h2 := by rw [ltOf_eq] at *; simp [ltP] at *; omega
 ntrans x y z h1 h2 := by rw [ltOf_eq] at *; simp [ltP] at *; omega
theorem cmpLays (blk off size : Nat) (w : World) : CmpLays Tryz.prog 115 #[] setC 2 cmpP blk off size w :=
 fun _ _ _ _ x y => compare_any x y _
theorem setC_len (s : Int × Int) : (setC s).length = 2 := rfl
theorem flat_list (d : Array (Int × Int)) : (Go.Sort.flatK setC 2 d).toList = d.toList.flatMap setC := by
 refine List.ext_getElem? fun t => ?_
 by_cases ht : t < d.size * 2
 ·have h1 : t / 2 < d.size := by omega
  have hsz : (Go.Sort.flatK setC 2 d).size = d.size * 2 := by simp
  have hg := Go.Sort.get_flatK setC 2 d t ht;rw [getElem!_pos _ t (by omega), getElem!_pos d _ h1] at hg
  rw [Array.getElem?_toList, Array.getElem?_eq_getElem (by omega), hg]
  have hx : d.toList[t / 2]? = some d[t / 2] := by rw [Array.getElem?_toList, Array.getElem?_eq_getElem h1]
  obtain ⟨x, hx'⟩ : ∃ x, d[t / 2] = x := ⟨_, rfl⟩;rw [hx'] at hx ⊢;have hm : t % 2 = 0 ∨ t % 2 = 1 := by omega
  rcases hm with hm | hm
  ·have h := Row.flat_get (f := setC) setC_len d.toList (t / 2) 0 x (.int .i64 x.1) hx rfl;rw [show t / 2 * 2 + 0 = t by omega] at h
   rw [h, hm]; rfl
  ·have h := Row.flat_get (f := setC) setC_len d.toList (t / 2) 1 x (.int .i64 x.2) hx rfl;rw [show t / 2 * 2 + 1 = t by omega] at h
   rw [h, hm]; rfl
 ·rw [List.getElem?_eq_none (by simp; omega), List.getElem?_eq_none]
  have : (d.toList.flatMap setC).length = d.size * 2 := by
   rw [List.length_flatMap];have : (d.toList.map fun a => (setC a).length) = List.replicate d.size 2 := by
    rw [List.eq_replicate_iff];exact ⟨by simp, fun b hb => by obtain ⟨x, _, rfl⟩ := List.mem_map.1 hb; rfl⟩
   rw [this]; simp
  omega
theorem put_heap (w : World) (n blk : Nat) (F : Array Value) (os : Array Obj) (cur : Array Value) (e : TypeId) (h : w.heap[blk]? = some (.cells cur e)) :
  (Go.Sort.grow (Go.Sort.putRow id (Go.Sort.ahead w n) blk 0 F) os).heap[blk]? = some (.cells (Go.Sort.putCells id 0 F cur) e) := by
 have hlt : blk < w.heap.size := heap_lt h;rw [Go.Sort.heap_grow_old _ _ (by simp [Go.Sort.putRow, Go.Sort.mapBlock, Go.Sort.ahead]; exact hlt)]
 simp [Go.Sort.putRow, Go.Sort.mapBlock, Go.Sort.ahead, Array.getElem?_modify, h, Go.Sort.onCells]
theorem put_grown (w : World) (n blk : Nat) (F : Array Value) (os : Array Obj) : w.grownBy (Go.Sort.grow (Go.Sort.putRow id (Go.Sort.ahead w n) blk 0 F) os) (some blk) := by
 refine ⟨rfl, rfl, rfl, by simp [Go.Sort.putRow, Go.Sort.mapBlock, Go.Sort.ahead], fun k hk hne => ?_⟩
 rw [Go.Sort.heap_grow_old _ _ (by simp [Go.Sort.putRow, Go.Sort.mapBlock, Go.Sort.ahead]; exact hk)]
 have : blk ≠ k := fun e => hne (by rw [e])
 simp [Go.Sort.putRow, Go.Sort.mapBlock, Go.Sort.ahead, Array.getElem?_modify, this]
theorem put_take (F cur : Array Value) (h : F.size ≤ cur.size) : (Go.Sort.putCells id 0 F cur).toList.take F.size = F.toList ∧ (Go.Sort.putCells id 0 F cur).size = cur.size := by
 refine ⟨List.ext_getElem? fun t => ?_, by simp [Go.Sort.putCells]⟩
 by_cases ht : t < F.size
 ·rw [List.getElem?_take_of_lt ht, Array.getElem?_toList, Array.getElem?_toList];simp only [Go.Sort.putCells, Array.getElem?_mapIdx];rw [Array.getElem?_eq_getElem (by omega), Array.getElem?_eq_getElem ht, Option.map_some, if_pos ⟨by omega, by omega⟩, Nat.sub_zero, getElem!_pos F t ht]
  rfl
 ·rw [List.getElem?_take_eq_none (by omega), List.getElem?_eq_none (by simpa using ht)]
def Rises (xs : List (Int × Int)) : Prop := xs.Pairwise fun x y => ltP y x = false
set_option maxHeartbeats 1000000 in
theorem sort_any (base g cap : Nat) (xs : List (Int × Int)) (w : World) (hown : w.ownsRow base 325 2 (.slice (some ⟨g, 0, none⟩) xs.length cap) xs.length (xs.flatMap setC)) (hlen : xs.length ≤ 1000000000) :
  Calls Tryz.prog 114 #[.slice (some ⟨g, 0, none⟩) xs.length cap, .func (.func 115) #[] #[]] w fun e w' =>
   e = .returned (.tuple #[]) ∧ ∃ ys : List (Int × Int), ys.Perm xs ∧ Rises ys ∧ w'.ownsRow base 325 2 (.slice (some ⟨g, 0, none⟩) ys.length cap) ys.length (ys.flatMap setC) ∧ w.grownBy w' (some g) := by
 obtain ⟨hl, ⟨h, _⟩ | ⟨g', cp, cur, h, hb, hh, hn, hm, hc, ht⟩⟩ := hown
 ·cases h
 cases h;have eg : ∀ args w, (callFunc 115 args).run Tryz.prog w = .ok (.enter 115 args) w := fun args w => by simp [go_sem]
 have hH : Go.Sort.HoldsK setC 2 w g 0 xs.toArray := by
  intro j hj;have hj' : j < xs.length * 2 := by simpa using hj
  have hfl := flat_list xs.toArray;have h1 : (Go.Sort.flatK setC 2 xs.toArray)[j]? = cur[j]? := by
   rw [← Array.getElem?_toList, hfl, ← ht, List.getElem?_take_of_lt hj', Array.getElem?_toList]
  rw [getElem!_pos _ j hj];rw [Array.getElem?_eq_getElem hj] at h1;refine ⟨?_, ?_⟩
  ·rw [Nat.zero_add];exact cell_of_heap hh h1.symm
  ·exact free_of_heap hh
 have hs := AnyQ.slices_SortFunc sortSt 2 Tryz.isAgg325 Tryz.sizeOf325 setC setC_len (fun x v hv => by simp [setC] at hv; rcases hv with rfl | rfl <;> rfl) cmpP swo 115 #[] g 0 cap xs.toArray w eg (cmpLays g 0 _ w) hH (heap_lt hh) (by simp; omega)
 have hs' : Calls Tryz.prog 114 #[.slice (some ⟨g, 0, none⟩) xs.length cap, .func (.func 115) #[] #[]] w _ := hs;refine hs'.mono ?_;rintro e w' ⟨rfl, d', n, os, ⟨hp1, _, hp3⟩, hsd, rfl⟩;refine ⟨rfl, d'.toList, ?_, ?_, ?_, put_grown w n g _ os⟩
 ·have e1 : d'.extract 0 xs.toArray.size = d' := by rw [← hp1]; simp
  have e2 : xs.toArray.extract 0 xs.toArray.size = xs.toArray := by simp
  rw [e1, e2] at hp3;simpa using hp3
 ·unfold Rises;rw [List.pairwise_iff_getElem];intro i j hi hj hij;have hsz : d'.size = xs.toArray.size := hp1;have h := hsd i j (Nat.zero_le _) hij (by rw [← hsz]; simpa using hj)
  rw [ltOf_eq, getElem!_pos d' j (by simpa using hj), getElem!_pos d' i (by simpa using hi)] at h
  simpa using h
 ·have hsz : d'.size = xs.length := by simpa using hp1
  have hfs : (Go.Sort.flatK setC 2 d').size = xs.length * 2 := by simp [hsz]
  have hcs : cur.size = cap * 2 := hc;obtain ⟨h1, h2⟩ := put_take (Go.Sort.flatK setC 2 d') cur (by rw [hfs, hcs]; omega)
  have hlen2 : d'.toList.length = xs.length := by simpa using hsz
  have hll : (d'.toList.flatMap setC).length = d'.toList.length * 2 := by rw [← flat_list]; simp
  refine ⟨hll, .inr ⟨g, cap, _, by rw [hlen2], hb, put_heap w n g _ os cur _ hh, by rw [hlen2]; exact hn, hm, by rw [h2]; exact hc, ?_⟩⟩
  rw [hlen2, ← hfs, h1, flat_list]
end Pk
end Go.Proofs.YtceihjjjmcgmaaaGreat
namespace Go.Proofs.YtceihjjjmcgmaaaGreat
open Go.RowKit
namespace Ft
open Vw Ch
structure FeatD where
 type : Int
 excl : Bool
 dflt : Int
 sets : List Int
def fC (x : FeatD × Value) : List Value := [.int .i64 x.1.type, .bool x.1.excl, .int .i64 x.1.dflt, x.2]
theorem fC_len (x : FeatD × Value) : (fC x).length = 4 := rfl
structure FRow (w : World) (base : Nat) (v : Value) (fs : List FeatD) (ss : List Value) : Prop where
 len : ss.length = fs.length
 own : w.ownsRow base 364 4 v fs.length ((fs.zip ss).flatMap fC)
 sets : ∀ (i : Nat) (f : FeatD) (s : Value), fs[i]? = some f → ss[i]? = some s → w.ownsRow base 3 1 s f.sets.length (f.sets.map (Value.int .i64))
theorem fRow_nil (w : World) (base : Nat) : FRow w base (.slice none 0 0) [] [] := ⟨rfl, Row.owned_nil _ _ _ _, fun i f s h => by simp at h⟩
theorem fRow_below {w w' : World} {base : Nat} {v : Value} {fs : List FeatD} {ss : List Value} (h : FRow w base v fs ss) (hb : Below w.heap.size w w') : FRow w' base v fs ss :=
 ⟨h.len, Row.owned_below h.own hb, fun i f s hf hs => Row.owned_below (h.sets i f s hf hs) hb⟩
def exclF (kind : Int) (f : FeatD) : Bool := decide (f.type = kind) && f.excl
def exclL (fs : List FeatD) (kind : Int) : Bool := fs.any (exclF kind)
set_option maxHeartbeats 2000000 in
theorem clo_any (ty dflt : Int) (ex : Bool) (s : Value) (hs : ∃ a n c, s = .slice a n c) (kind : Int) (bk : Nat) (w : World) (hk : w.cell? ⟨bk, 0, none⟩ = some (.int .i64 kind)) :
  Calls Tryz.prog 171 #[.agg #[.int .i64 ty, .bool ex, .int .i64 dflt, s], .pointer (some ⟨bk, 0, none⟩)] w fun e w' => e = .returned (.bool (decide (ty = kind) && ex)) ∧ Below w.heap.size w w' := by
 obtain ⟨a, n, c, rfl⟩ := hs;have lk : bk < w.heap.size := World.block_lt_of_cell? _ _ hk;by_cases h : ty = kind
 ·subst h;cases ex
  all_goals
   go_enter Tryz.func171, Tryz.ntmps171
   go_wp2_with (fail);go_ret;exact ⟨by simp, (Below.refl _ _).alloc (Nat.le_refl _) _⟩
 ·have e1 : (ty == kind) = false := by simpa using h
  have e2 : decide (ty = kind) = false := by simpa using h
  rw [e2];go_enter Tryz.func171, Tryz.ntmps171
  go_wp2_with (fail);go_ret;exact ⟨by simp, (Below.refl _ _).alloc (Nat.le_refl _) _⟩
def IdxPost (w : World) (b : Bool) (e : Ending) (w' : World) : Prop := ∃ r : Int, e = .returned (.int .i64 r) ∧ decide (0 ≤ r) = b ∧ Below w.heap.size w w' ∧ -1 ≤ r
set_option maxRecDepth 100000 in
set_option maxHeartbeats 4000000 in
theorem index_any (v : Value) (fs : List FeatD) (ss : List Value) (base : Nat) (kind : Int) (bk : Nat) (w : World) (hr : FRow w base v fs ss) (hk : w.cell? ⟨bk, 0, none⟩ = some (.int .i64 kind)) (hlen : fs.length ≤ 1000000000) :
  Calls Tryz.prog 213 #[v, .func (.func 171) #[] #[.pointer (some ⟨bk, 0, none⟩)]] w (IdxPost w (exclL fs kind)) := by
 have hcf : ∀ (args : Array Value) w, (callFunc 171 args).run Tryz.prog w = .ok (.enter 171 args) w := fun args w => by simp [go_sem]
 obtain ⟨ad, cp, rfl⟩ := own_slice hr.own;obtain ⟨n, hn⟩ : ∃ n, n = fs.length := ⟨_, rfl⟩;rw [← hn] at hlen ⊢;have HN := Bas.hid hn;have HR := Bas.hid hr;have lk : bk < w.heap.size := World.block_lt_of_cell? _ _ hk;have HK := Bas.hid hk;clear hr hn hk;go_enter Tryz.func213, Tryz.ntmps213
 go_wp2_with (fail);go_loopw [5, 8] (fun _ vi wr => ∃ i : Nat, i ≤ n ∧ vi = .int .i64 i ∧ (∀ f ∈ fs.take i, exclF kind f = false) ∧ Below w.heap.size w wr) (fun _ vi _ => n - (intOf vi).toNat)
 case atStart => exact ⟨0, Nat.zero_le _, rfl, fun f hf => by simp at hf, Below.refl _ _⟩
 case round =>
  obtain ⟨i, hi, rfl, hno, hb⟩ := hrel;have HNO := Bas.hid hno;have HB := Bas.hid hb;by_cases hin : i < n
  ·have hlen2 := HN.out;obtain ⟨f, hf⟩ : ∃ f, fs[i]? = some f := ⟨_, List.getElem?_eq_getElem (by omega)⟩
   obtain ⟨s, hs⟩ : ∃ s, ss[i]? = some s := ⟨_, List.getElem?_eq_getElem (by rw [HR.out.len]; omega)⟩
   have hz : (fs.zip ss)[i]? = some (f, s) := List.getElem?_zip_eq_some.2 ⟨hf, hs⟩;obtain ⟨G, C, hvG, -, hG, -, hcl⟩ := Row.elem_cells fC_len HR.out.own hz (by omega) (by rw [List.length_zip, HR.out.len, Nat.min_self])
   obtain ⟨sa, sc, rfl⟩ := own_slice (HR.out.sets i f s hf hs);rw [← hlen2] at hvG;cases hvG;have q0 := (hb.cell (p := ⟨G, i * 4, none⟩) hG).trans (hcl 0 _ rfl);have q1 := (hb.cell (p := ⟨G, i * 4 + 1, none⟩) hG).trans (hcl 1 _ rfl);have q2 := (hb.cell (p := ⟨G, i * 4 + 2, none⟩) hG).trans (hcl 2 _ rfl);have q3 := (hb.cell (p := ⟨G, i * 4 + 3, none⟩) hG).trans (hcl 3 _ rfl);have CL := clo_any f.type f.dflt f.excl (.slice sa f.sets.length sc) ⟨_, _, _, rfl⟩ kind bk wr ((hb.cell (p := ⟨bk, 0, none⟩) lk).trans HK.out);have HCL := Bas.hid CL;have HF := Bas.hid hf;obtain ⟨x, hx⟩ : ∃ x, x = (decide (f.type = kind) && f.excl) := ⟨_, rfl⟩;rw [← hx] at HCL;have HX := Bas.hid hx;clear hcl hz hf hs hlen2 hb hno CL hx;go_wp2_with (fail);refine HCL.out.mono ?_;rintro e w2 ⟨rfl, hb2⟩;have HB2 := Bas.hid (HB.out.trans (hb2.mono HB.out.size));clear hb2 q0 q1 q2 q3;cases x with
   | true =>
    have hany : exclL fs kind = true := by
     unfold exclL;rw [List.any_eq_true];exact ⟨f, List.mem_of_getElem? HF.out, HX.out.symm⟩
    have HANY := Bas.hid hany;clear hany;go_wp2_with (fail);exact bodyPost_ret (v := .int .i64 i) (by simp [results, Tryz.results213, go_sem]) rfl ⟨i, rfl, by rw [HANY.out]; simp, HB2.out, by omega⟩
   | false =>
    go_wp2_with (fail);go_roundw
    case rel => exact ⟨i + 1, by omega, by go_num, fun y hy => by
     rw [List.take_add_one, HF.out] at hy;rcases List.mem_append.1 hy with h | h
     ·exact HNO.out y h
     ·simp at h; subst h; exact HX.out.symm, HB2.out⟩
    case measure => simp [intOf]; omega
  ·have hin2 : i = n := by omega
   have hany : exclL fs kind = false := by
    unfold exclL;rw [List.any_eq_false];intro f hf;have h := HNO.out f;rw [hin2, HN.out, List.take_length] at h;rw [h hf]; decide
   have HANY := Bas.hid hany;clear hany hb hno;go_wp2_with (fail);exact bodyPost_ret (v := .int .i64 (-1)) (by simp [results, Tryz.results213, go_sem]) rfl ⟨-1, rfl, by rw [HANY.out]; simp, HB.out, by omega⟩
set_option maxHeartbeats 2000000 in
theorem contains_any (v : Value) (fs : List FeatD) (ss : List Value) (base : Nat) (kind : Int) (bk : Nat) (w : World) (hr : FRow w base v fs ss) (hk : w.cell? ⟨bk, 0, none⟩ = some (.int .i64 kind)) (hlen : fs.length ≤ 1000000000) :
  Calls Tryz.prog 170 #[v, .func (.func 171) #[] #[.pointer (some ⟨bk, 0, none⟩)]] w fun e w' => e = .returned (.bool (exclL fs kind)) ∧ Below w.heap.size w w' := by
 have H := Bas.hid (index_any v fs ss base kind bk w hr hk hlen);clear hr hk;go_enter Tryz.func170, Tryz.ntmps170
 go_wp2_with (fail);refine H.out.mono ?_;rintro e w1 ⟨r, rfl, hr, hb, hm⟩;have HB := Bas.hid hb;clear hb H;go_wp2_with (fail);go_ret;exact ⟨rfl, HB.out⟩
set_option maxHeartbeats 2000000 in
theorem excl_any (v : Value) (fs : List FeatD) (ss : List Value) (base : Nat) (kind : Int) (w : World) (hr : FRow w base v fs ss) (hlen : fs.length ≤ 1000000000) :
  Calls Tryz.prog 113 #[v, .int .i64 kind] w fun e w' => e = .returned (.bool (exclL fs kind)) ∧ Below w.heap.size w w' := by
 have hmf : ∀ (fn : Fn) (first cap : Array Value) (w : World), (Instr.makeFunc fn first cap).run Tryz.prog w = .ok (.func fn first cap) w := fun _ _ _ _ => rfl
 have hb0 := (Below.refl w.heap.size w).alloc (Nat.le_refl _) (.cells #[.int .i64 kind] 3);have H := Bas.hid (contains_any v fs ss base kind w.heap.size (w.alloc (.cells #[.int .i64 kind] 3)) (fRow_below hr hb0) (cell_of_heap (i := 0) (Bas.heap_new _ _) rfl) hlen);have HB0 := Bas.hid hb0;obtain ⟨ad, cp, rfl⟩ := own_slice hr.own;clear hr hb0;go_enter Tryz.func113, Tryz.ntmps113
 go_wp2_with (fail);refine H.out.mono ?_;rintro e w1 ⟨rfl, hb⟩;have HB := Bas.hid (Bas.on HB0.out hb);clear hb H;go_wp2_with (fail);go_ret;exact ⟨rfl, HB.out⟩
end Ft
namespace Pk
open Ch Ft Go.Maps
def kl (s : Int × Int) : Lit := .string (keyBytes [.int .i64 s.1, .int .i64 s.2])
def wf64 (s : Int × Int) : Prop := (Lit.int .i64 s.1).wf = true ∧ (Lit.int .i64 s.2).wf = true
theorem laidOut : laidOutB Tryz.prog = true := by kernel_rfl
theorem keyed : Keyed Tryz.prog 325 := Keyed.of_law (deep_law_laid laidOut (m := 2) (by omega) (of_decide_eq_true (by kernel_rfl)) (by kernel_rfl) (by rw [Tryz.underlying325]))
theorem key_type : Tryz.prog.keyType 325 = true := by kernel_rfl
theorem cells_set : Tryz.prog.cellsOf 325 = 2 := by kernel_rfl
theorem cells_int : Tryz.prog.cellsOf 3 = 1 := by kernel_rfl
theorem types_size : ∃ m, Tryz.prog.types.size = m + 1 := ⟨Tryz.prog.types.size - 1, by have : 0 < Tryz.prog.types.size := of_decide_eq_true (by kernel_rfl); omega⟩
theorem keyOf_set (s : Int × Int) (h : wf64 s) : keyOf Tryz.prog 325 (setV s) = some (kl s) := by
 obtain ⟨m, hm⟩ := types_size;have h1 : (Value.agg #[Value.int IntKind.i64 s.1, Value.int IntKind.i64 s.2]).formed Tryz.prog 325 = true := by simp [Value.formed, Tryz.underlying325, cells_set]
 unfold keyOf setV;simp only [Tryz.underlying325, key_type, h1, Bool.and_self, if_true];rw [hm];simp [Program.keyLits, Tryz.underlying325, Tryz.underlying3, Value.cells, cells_set, cells_int, h.1, h.2, kl]
set_option maxRecDepth 100000 in
theorem keyOf_set_inv {v : Value} {l : Lit} (h : keyOf Tryz.prog 325 v = some l) : ∃ s, wf64 s ∧ v = setV s ∧ l = kl s := by
 obtain ⟨m, hm⟩ := types_size;unfold keyOf at h;simp only [Tryz.underlying325, key_type, Bool.true_and] at h;rw [hm] at h;split at h
 ·rename_i hf
  cases v with
  | agg cs =>
   simp only [Value.formed, Tryz.underlying325, cells_set, beq_iff_eq] at hf;obtain ⟨cs⟩ := cs;have hf2 : cs.length = 2 := by simpa using hf
   clear hf;rcases cs with _ | ⟨c0, _ | ⟨c1, _ | ⟨c2, cs⟩⟩⟩
   ·cases hf2
   ·cases hf2
   ·simp [Program.keyLits, Tryz.underlying325, Tryz.underlying3, Value.cells, cells_set, cells_int] at h;cases c0 <;> simp at h
    rename_i k0 n0
    by_cases hk0 : k0 = IntKind.i64 ∧ (Lit.int IntKind.i64 n0).wf = true
    ·rw [if_pos hk0] at h;cases c1 <;> simp at h
     rename_i k1 n1
     by_cases hk1 : k1 = IntKind.i64 ∧ (Lit.int IntKind.i64 n1).wf = true
     ·rw [if_pos hk1] at h;simp at h;obtain ⟨rfl, hw0⟩ := hk0;obtain ⟨rfl, hw1⟩ := hk1;exact ⟨(n0, n1), ⟨hw0, hw1⟩, rfl, h.symm⟩
     ·rw [if_neg hk1] at h;simp at h
    ·rw [if_neg hk0] at h;simp at h
   ·simp at hf2
  | _ => simp [Value.formed, Tryz.underlying325] at hf
 ·cases h
theorem kl_inj {a b : Int × Int} (ha : wf64 a) (hb : wf64 b) (h : kl a = kl b) : a = b := by
 have h1 := keyOf_set a ha;rw [h] at h1;have h2 := keyed.inj h1 (keyOf_set b hb);simp [setV] at h2;exact Prod.ext h2.1 h2.2
theorem kl_key (a : Int × Int) (ha : wf64 a) : WideAt.IsKeyLit (kl a) := keyed.key (keyOf_set a ha)
def dS (s : Int × Int) : DataW Unit := .agg [.lit (.int .i64 s.1), .lit (.int .i64 s.2)]
def readS : Value → Option (DataW Unit × List MemPlace)
 | .agg ⟨[.int .i64 a, .int .i64 b]⟩ => some (dS (a, b), [])
 | _ => none
theorem readS_mk (s : Int × Int) : readS (setV s) = some (dS s, []) := rfl
theorem readS_inv {v : Value} {y : DataW Unit × List MemPlace} (h : readS v = some y) : ∃ s : Int × Int, v = setV s ∧ y = (dS s, []) := by
 unfold readS at h;split at h
 ·cases h; exact ⟨(_, _), rfl, rfl⟩
 ·cases h
theorem dS_inj {a b : Int × Int} (h : dS a = dS b) : a = b := by
 simp [dS] at h;exact Prod.ext h.1 h.2
def rightB (s : Int × Int) : Bool := decide (0 ≤ s.1 ∧ s.1 ≤ 65535 ∧ 0 ≤ s.2 ∧ s.2 ≤ 65535)
def ck (fs : List FeatD) (s : Int × Int) : Int × Int := if exclL fs s.1 then (s.1, -1) else (s.1, s.2 / 2)
theorem ck_wf (fs : List FeatD) (s : Int × Int) (h : rightB s = true) : wf64 (ck fs s) := by
 have h2 := of_decide_eq_true h;unfold ck wf64;split <;> refine ⟨?_, ?_⟩ <;> simp [Lit.wf, IntKind.min, IntKind.max, IntKind.bits, IntKind.signed] <;> omega
def Dm (fs : List FeatD) : List (Int × Int) → DataW Unit := fun l => l.foldl (fun D s => if rightB s then D.put (kl (ck fs s)) (dS s) else D) (.map [])
theorem Dm_snoc (fs : List FeatD) (l : List (Int × Int)) (s : Int × Int) : Dm fs (l ++ [s]) = if rightB s then (Dm fs l).put (kl (ck fs s)) (dS s) else Dm fs l := by
 unfold Dm; rw [List.foldl_append]; rfl
theorem Dm_map (fs : List FeatD) (l : List (Int × Int)) : IsMap (Dm fs l) := by
 have key : ∀ (l : List (Int × Int)) (D : DataW Unit), IsMap D → IsMap (l.foldl (fun D s => if rightB s then D.put (kl (ck fs s)) (dS s) else D) D) := by
  intro l;induction l with
  | nil => exact fun D h => h
  | cons s l ih =>
   intro D h;refine ih _ ?_;show IsMap (if rightB s then D.put (kl (ck fs s)) (dS s) else D)
   split
   ·exact h.put _ _
   ·exact h
 exact key l _ isMap_empty
def lastK (fs : List FeatD) (l : List (Int × Int)) (c : Int × Int) : Option (Int × Int) := l.foldl (fun o s => if rightB s && decide (ck fs s = c) then some s else o) none
theorem lastK_snoc (fs : List FeatD) (l : List (Int × Int)) (s c : Int × Int) : lastK fs (l ++ [s]) c = if rightB s && decide (ck fs s = c) then some s else lastK fs l c := by
 unfold lastK; rw [List.foldl_append]; rfl
theorem rev_ind {α : Type} {p : List α → Prop} (h0 : p []) (h1 : ∀ l x, p l → p (l ++ [x])) : ∀ l, p l := fun l => by
 have key : ∀ n (l : List α), l.length = n → p l := by
  intro n;induction n with
  | zero => intro l h; rw [List.length_eq_zero_iff.1 h]; exact h0
  | succ n ih =>
   intro l h;have hne : l ≠ [] := fun e => by rw [e] at h; cases h
   rw [← List.dropLast_concat_getLast hne];exact h1 _ _ (ih _ (by rw [List.length_dropLast]; omega))
 exact key _ l rfl
theorem lastK_some (fs : List FeatD) {c s : Int × Int} : ∀ l, lastK fs l c = some s → s ∈ l ∧ rightB s = true ∧ ck fs s = c := by
 refine rev_ind (fun h => by cases h) fun l x ih h => ?_
 rw [lastK_snoc] at h;split at h
 ·rename_i hc
  cases h;simp at hc;exact ⟨by simp, hc.1, hc.2⟩
 ·obtain ⟨h1, h2⟩ := ih h;exact ⟨by simp [h1], h2⟩
theorem Dm_reads (fs : List FeatD) (c : Int × Int) (hc : wf64 c) : ∀ l, (has (Dm fs l) (kl c) = (lastK fs l c).isSome) ∧ ∀ s, lastK fs l c = some s → ∀ z, (Dm fs l).atKey (kl c) z = dS s := by
 refine rev_ind ⟨rfl, fun s h => by cases h⟩ fun l x ih => ?_
 rw [Dm_snoc, lastK_snoc];cases hr : rightB x with
 | false => simp only [Bool.false_and, if_false, Bool.false_eq_true]; exact ih
 | true =>
  simp only [Bool.true_and, if_true];by_cases h : ck fs x = c
  ·rw [h];simp only [decide_true, if_true];refine ⟨by rw [has_put_same (Dm_map fs l) (kl_key c hc)]; rfl, fun s hs z => ?_⟩
   cases hs;exact atKey_put_same (Dm_map fs l) (kl_key c hc) _ z
  ·have hne : kl c ≠ kl (ck fs x) := fun e => h (kl_inj (ck_wf fs x hr) hc e.symm)
   rw [decide_eq_false h];simp only [if_false, Bool.false_eq_true];exact ⟨by rw [has_put_other hne]; exact ih.1, fun s hs z => by rw [atKey_put_other hne]; exact ih.2 s hs z⟩
structure Met (fs : List FeatD) (l : List (Int × Int)) (left : Lit → Bool) (xs : List (Int × Int)) : Prop where
 nodup : xs.Nodup
 has : ∀ z, left z = true → has (Dm fs l) z = true
 mem : ∀ s, s ∈ xs ↔ ∃ c, wf64 c ∧ lastK fs l c = some s ∧ left (kl c) = false
theorem met_start (fs : List FeatD) (l : List (Int × Int)) : Met fs l (has (Dm fs l)) [] := by
 refine ⟨List.nodup_nil, fun _ h => h, fun s => ⟨fun h => (by cases h), fun ⟨c, hc, h1, h2⟩ => ?_⟩⟩
 rw [(Dm_reads fs c hc l).1, h1] at h2;cases h2
theorem met_step {fs : List FeatD} {l : List (Int × Int)} {left : Lit → Bool} {xs : List (Int × Int)} (h : Met fs l left xs) {x s : Int × Int} (hx : wf64 x) (hl : left (kl x) = true) (hat : ∀ z, (Dm fs l).atKey (kl x) z = dS s) :
  Met fs l (fun z => left z && !z.sameKey (kl x)) (xs ++ [s]) := by
 have h0 := h.has _ hl;rw [(Dm_reads fs x hx l).1] at h0;obtain ⟨s', hs'⟩ := Option.isSome_iff_exists.1 h0;have e : s' = s := dS_inj (((Dm_reads fs x hx l).2 s' hs' .nil).symm.trans (hat .nil));subst e;have same : ∀ c, wf64 c → ((kl c).sameKey (kl x) = true ↔ c = x) := fun c hc => by
  constructor
  ·intro hk; exact kl_inj hc hx (WideAt.sameKey_eq hk)
  ·rintro rfl; exact WideAt.sameKey_self (kl_key _ hc)
 have hnot : s' ∉ xs := fun hm => by
  obtain ⟨c, hc, h1, h2⟩ := (h.mem s').1 hm;have e1 := (lastK_some fs l h1).2.2;have e2 := (lastK_some fs l hs').2.2;rw [← e1, e2, hl] at h2;cases h2
 refine ⟨?_, fun z hz => h.has z (by simp at hz; exact hz.1), fun s => ?_⟩
 ·rw [List.nodup_append];exact ⟨h.nodup, by simp, fun a ha b hb e => by simp at hb; subst hb; subst e; exact hnot ha⟩
 ·rw [List.mem_append, List.mem_singleton];constructor
  ·rintro (hm | rfl)
   ·obtain ⟨c, hc, h1, h2⟩ := (h.mem s).1 hm;exact ⟨c, hc, h1, by simp [h2]⟩
   ·exact ⟨x, hx, hs', by simp [(same x hx).2 rfl]⟩
  ·rintro ⟨c, hc, h1, h2⟩;cases hlc : left (kl c) with
   | false => exact .inl ((h.mem s).2 ⟨c, hc, h1, hlc⟩)
   | true =>
    rw [hlc] at h2;simp at h2;have e := (same c hc).1 h2;subst e;rw [hs'] at h1;cases h1;exact .inr rfl
def IsSet (fs : List FeatD) (l ys : List (Int × Int)) : Prop := ys.Pairwise (fun x y => ltP x y = true) ∧ ∀ s, s ∈ ys ↔ rightB s = true ∧ lastK fs l (ck fs s) = some s
theorem ltP_total {x y : Int × Int} (h : ltP y x = false) (hne : x ≠ y) : ltP x y = true := by
 simp [ltP] at h ⊢;have : ¬ (x.1 = y.1 ∧ x.2 = y.2) := fun e => hne (Prod.ext e.1 e.2)
 omega
theorem met_end {fs : List FeatD} {l : List (Int × Int)} {left : Lit → Bool} {xs ys : List (Int × Int)} (h : Met fs l left xs) (hl : ∀ z, left z = false) (hp : ys.Perm xs) (hr : Rises ys) : IsSet fs l ys := by
 have hnd : ys.Nodup := hp.nodup_iff.2 h.nodup;refine ⟨?_, fun s => ?_⟩
 ·exact (List.Pairwise.and hr hnd).imp fun ⟨h1, h2⟩ => ltP_total h1 h2
 ·rw [hp.mem_iff, h.mem];constructor
  ·rintro ⟨c, hc, h1, _⟩;obtain ⟨_, h2, h3⟩ := lastK_some fs l h1;exact ⟨h2, by rw [h3]; exact h1⟩
  ·rintro ⟨h1, h2⟩;exact ⟨ck fs s, ck_wf fs s h1, h2, hl _⟩
theorem isSet_sub {fs : List FeatD} {l ys : List (Int × Int)} (h : IsSet fs l ys) : ∀ s ∈ ys, s ∈ l := fun s hs => (lastK_some fs l ((h.2 s).1 hs).2).1
theorem isSet_nodup {fs : List FeatD} {l ys : List (Int × Int)} (h : IsSet fs l ys) : ys.Nodup := h.1.imp fun {a b} hab e => by subst e; simp [ltP] at hab
theorem isSet_len {fs : List FeatD} {l ys : List (Int × Int)} (h : IsSet fs l ys) : ys.length ≤ l.length :=
 (isSet_nodup h).length_le_of_subset (isSet_sub h)
theorem met_len {fs : List FeatD} {l : List (Int × Int)} {left : Lit → Bool} {xs : List (Int × Int)} (h : Met fs l left xs) : xs.length ≤ l.length :=
 h.nodup.length_le_of_subset fun s hs => by obtain ⟨c, _, h1, _⟩ := (h.mem s).1 hs; exact (lastK_some fs l h1).1
set_option maxHeartbeats 2000000 in
theorem right_any (t v : Int) (w : World) : Calls Tryz.prog 112 #[.agg #[.int .i64 t, .int .i64 v]] w fun e w' => e = .returned (.bool (rightB (t, v))) ∧ Below w.heap.size w w' := by
 have HB := Bas.hid ((Below.refl w.heap.size w).alloc (Nat.le_refl _) (.cells #[.int .i64 t, .int .i64 v] 325));by_cases h1 : 0 ≤ t
 ·have a1 : decide (t ≥ 0) = true := decide_eq_true h1;have b1 : decide (0 ≤ t) = true := decide_eq_true h1;by_cases h2 : t ≤ 65535
  ·have a2 : decide (t ≤ 65535) = true := decide_eq_true h2;by_cases h3 : 0 ≤ v
   ·have a3 : decide (v ≥ 0) = true := decide_eq_true h3;have b3 : decide (0 ≤ v) = true := decide_eq_true h3;by_cases h4 : v ≤ 65535
    ·have a4 : decide (v ≤ 65535) = true := decide_eq_true h4;have hr : rightB (t, v) = true := decide_eq_true ⟨h1, h2, h3, h4⟩;rw [hr];clear h1 h2 h3 h4 hr;go_enter Tryz.func112, Tryz.ntmps112
     go_wp2_with (fail);go_ret;exact ⟨rfl, HB.out⟩
    ·have a4 : decide (v ≤ 65535) = false := decide_eq_false h4;have hr : rightB (t, v) = false := decide_eq_false (fun h => h4 h.2.2.2)
     rw [hr];clear h1 h2 h3 h4 hr;go_enter Tryz.func112, Tryz.ntmps112
     go_wp2_with (fail);go_ret;exact ⟨rfl, HB.out⟩
   ·have a3 : decide (v ≥ 0) = false := decide_eq_false h3;have b3 : decide (0 ≤ v) = false := decide_eq_false h3;have hr : rightB (t, v) = false := decide_eq_false (fun h => h3 h.2.2.1)
    rw [hr];clear h1 h2 h3 hr;go_enter Tryz.func112, Tryz.ntmps112
    go_wp2_with (fail);go_ret;exact ⟨rfl, HB.out⟩
  ·have a2 : decide (t ≤ 65535) = false := decide_eq_false h2;have hr : rightB (t, v) = false := decide_eq_false (fun h => h2 h.2.1)
   rw [hr];clear h1 h2 hr;go_enter Tryz.func112, Tryz.ntmps112
   go_wp2_with (fail);go_ret;exact ⟨rfl, HB.out⟩
 ·have a1 : decide (t ≥ 0) = false := decide_eq_false h1;have b1 : decide (0 ≤ t) = false := decide_eq_false h1;have hr : rightB (t, v) = false := decide_eq_false (fun h => h1 h.1)
  rw [hr];clear h1 hr;go_enter Tryz.func112, Tryz.ntmps112
  go_wp2_with (fail);go_ret;exact ⟨rfl, HB.out⟩
theorem sort_none (w : World) : Calls Tryz.prog 114 #[.slice none 0 0, .func (.func 115) #[] #[]] w fun e w' => e = .returned (.tuple #[]) ∧ w' = w :=
 AnyF.slices_SortFunc_none sortSt none 0 _ w
theorem map_below {w w' : World} {b n : Nat} {D : DataW Unit} (h : w.ownsMap Tryz.prog 325 readS b n D) (hb : Below w.heap.size w w') : w'.ownsMap Tryz.prog 325 readS b n D :=
 h.kept (Bas.gbelow (Bas.grefl w none) hb) (by simp)
theorem infoS : (Tryz.prog.info? 325).map (fun i => (i.zero, i.size, i.bytes)) = some (some (.agg #[.int .i64 0, .int .i64 0]), 2, 16) := by kernel_rfl
theorem own_map {w : World} {base size n m b : Nat} {e : TypeId} {v : Value} {xs : List Value} {D : DataW Unit} (h : w.ownsRow base e size v n xs) (hm : w.ownsMap Tryz.prog 325 readS b m D) : some b ≠ v.ownBlock := by
 intro he;obtain ⟨_, ⟨rfl, _⟩ | ⟨g', cp, cur, rfl, _, hh, _⟩⟩ := h
 ·cases he
 ·cases he;obtain ⟨es, clock, hb, _⟩ := hm;rw [hh] at hb; cases hb
theorem own_iter {w : World} {base size n m b r cnt : Nat} {e : TypeId} {v : Value} {xs : List Value} {D : DataW Unit} {left : Lit → Bool} (h : w.ownsRow base e size v n xs) (hm : w.ranges Tryz.prog 325 readS b r m D left cnt) : some r ≠ v.ownBlock := by
 intro he;obtain ⟨_, ⟨rfl, _⟩ | ⟨g', cp, cur, rfl, _, hh, _⟩⟩ := h
 ·cases he
 ·cases he;obtain ⟨es, clock, since, seen, c0, _, _, _, _, hr, _⟩ := hm;rw [hh] at hr; cases hr
set_option maxRecDepth 100000 in
set_option maxHeartbeats 8000000 in
theorem settle_any (a : Option Addr) (len cap : Nat) (l : List (Int × Int)) (fv : Value) (fs : List FeatD) (ss : List Value) (fb : Nat) (w : World) (hl : Row.Leads w (.slice a len cap) len (l.flatMap setC)) (hn : l.length = len) (hlen : len ≤ 100000) (hf : FRow w fb fv fs ss) (hfl : fs.length ≤ 1000000000) (hwf : ∀ s ∈ l, wf64 s) :
  Calls Tryz.prog 69 #[.slice a len cap, fv] w fun e w' => ∃ v ys, e = .returned v ∧ IsSet fs l ys ∧ w'.ownsRow w.heap.size 325 2 v ys.length (ys.flatMap setC) ∧ Below w.heap.size w w' := by
 have hmm := @run_makeMap Tryz.prog;have HL := Bas.hid hl;have HN := Bas.hid hn;have HF := Bas.hid hf;have HWF := Bas.hid hwf;have HFL := Bas.hid hfl;obtain ⟨fa, fc, rfl⟩ := own_slice hf.own;clear hl hn hf hwf hfl;go_enter Tryz.func69, Tryz.ntmps69
 go_wp2_with (fail);go_loopw [14] (fun vi wr => ∃ i : Nat, i ≤ len ∧ vi = .int .i64 i ∧ wr.ownsMap Tryz.prog 325 readS w.heap.size i (Dm fs (l.take i)) ∧ Below w.heap.size w wr) (fun vi _ => len - (intOf vi).toNat)
 case atStart => exact ⟨0, Nat.zero_le _, rfl, World.ownsMap_made _ _ _ _, (Below.refl _ _).alloc (Nat.le_refl _) _⟩
 case round =>
  obtain ⟨i, hi, rfl, hown, hb⟩ := hrel;have HO := Bas.hid hown;have HB := Bas.hid hb;clear hown hb;by_cases hin : i < len
  ·have e1 : decide ((i : Int) < (len : Int)) = true := by simp; omega
   have e2 : decide (i < len) = true := by simp; omega
   obtain ⟨s, hs⟩ : ∃ s, l[i]? = some s := ⟨_, List.getElem?_eq_getElem (by rw [HN.out]; exact hin)⟩
   obtain ⟨t, v⟩ := s;obtain ⟨B, Of, cp0, hv0, hcl⟩ := Row.leads_elem setC_len HL.out hs (by omega)
   cases hv0;have h0 := hcl 0 _ rfl;have h1 := hcl 1 _ rfl;simp only [Nat.add_zero] at h0;have c0 := (HB.out.cell (p := ⟨B, Of + i * 2, none⟩) (World.block_lt_of_cell? _ _ h0)).trans h0;have c1 := (HB.out.cell (p := ⟨B, Of + i * 2 + 1, none⟩) (World.block_lt_of_cell? _ _ h1)).trans h1;have HW := Bas.hid (HWF.out _ (List.mem_of_getElem? hs));have hTK : l.take (i + 1) = l.take i ++ [(t, v)] := by rw [List.take_add_one, hs]; rfl
   have hTKE := Bas.hid hTK;clear hs hcl h0 h1 hTK;go_wp2_with (fail);have k7 := Bas.heap_new wr (.cells #[.int .i64 t, .int .i64 v] 325);have HB1 := Bas.hid (HB.out.alloc HB.out.size (.cells #[.int .i64 t, .int .i64 v] 325));have HO1 := Bas.hid (HO.out.alloc (.cells #[.int .i64 t, .int .i64 v] 325));generalize wr.alloc (.cells #[.int .i64 t, .int .i64 v] 325) = W1 at *;generalize wr.heap.size = T7 at *;clear c0 c1 HB HO;refine (right_any t v W1).mono ?_;rintro e w2 ⟨rfl, hb2⟩;have k72 := (hb2.block _ (heap_lt k7)).trans k7;have HB2 := Bas.hid (HB1.out.trans (hb2.mono HB1.out.size));have HO2 := Bas.hid (map_below HO1.out hb2);clear hb2 HB1 HO1 k7;have hsn := Dm_snoc fs (l.take i) (t, v);rw [← hTKE.out] at hsn;obtain ⟨rb, hrb⟩ : ∃ rb, rightB (t, v) = rb := ⟨_, rfl⟩;have HRB := Bas.hid hrb;rw [hrb] at hsn ⊢;clear hrb;cases rb with
   | false =>
    simp only [if_false, Bool.false_eq_true] at hsn;have HSN := Bas.hid hsn;clear hsn;go_wp2_with (fail);go_roundw
    case rel => exact ⟨i + 1, by omega, by go_num, by rw [HSN.out]; exact HO2.out.mono (by omega), HB2.out⟩
    case measure => simp [intOf]; omega
   | true =>
    simp only [if_true] at hsn;have HSN := Bas.hid hsn;clear hsn;have q0 := cell_of_heap (i := 0) (v := .int .i64 t) k72 rfl;have q1 := cell_of_heap (i := 1) (v := .int .i64 v) k72 rfl;go_wp2_with (fail);have hrt := of_decide_eq_true HRB.out;obtain ⟨rt0, rt1, rv0, rv1⟩ := hrt;simp only at rt0 rt1 rv0 rv1;refine (excl_any (.slice fa fs.length fc) fs ss fb t w2 (fRow_below HF.out HB2.out) HFL.out).mono ?_;rintro e w3 ⟨rfl, hb3⟩;have k73 := (hb3.block _ (heap_lt k72)).trans k72;have HB3 := Bas.hid (HB2.out.trans (hb3.mono HB2.out.size));have HO3 := Bas.hid (map_below HO2.out hb3);clear hb3 HB2 HO2 k72 q0 q1;have p0 := cell_of_heap (i := 0) (v := .int .i64 t) k73 rfl;have p1 := cell_of_heap (i := 1) (v := .int .i64 v) k73 rfl;have hck : ck fs (t, v) = if exclL fs t then (t, -1) else (t, v / 2) := rfl
    have hcw := ck_wf fs (t, v) HRB.out;obtain ⟨x, hx⟩ : ∃ x, exclL fs t = x := ⟨_, rfl⟩;rw [hx] at hck ⊢;clear hx;cases x with
    | true =>
     simp only [if_true] at hck;rw [hck] at HSN hcw;have HKEY := Bas.hid (keyOf_set _ hcw);clear hck hcw;go_wp2_with (at_mapUpdate; refine Row.fence ?_);refine Row.unfence ?_;refine wpList_mapUpdate_own _ rfl _ _ _ 323 rfl 325 325 keyed Tryz.underlying323 _ w.heap.size i _ rfl HO3.out (by unfold maxLen; omega) _ _ _ rfl rfl HKEY.out _ [] (readS_mk (t, v)) ?_
     intro w4 hown4 hgrow4;have HB4 := Bas.hid (HB3.out.grown hgrow4 HB3.out.size (fun j hj => by cases hj; exact Nat.le_refl _))
     have HO4 := Bas.hid hown4;clear hown4 hgrow4 HB3 HO3 HKEY p0 p1 k73;go_wp2_with (fail);go_roundw
     case rel => exact ⟨i + 1, by omega, by go_num, by rw [HSN.out]; exact HO4.out, HB4.out⟩
     case measure => simp [intOf]; omega
    | false =>
     simp only [if_false, Bool.false_eq_true] at hck;rw [hck] at HSN hcw;have HKEY := Bas.hid (keyOf_set _ hcw);have hdv : v.tdiv 2 = v / 2 := Int.tdiv_eq_ediv_of_nonneg rv0;clear hck hcw;go_wp2_with (at_mapUpdate; refine Row.fence ?_);refine Row.unfence ?_;refine wpList_mapUpdate_own _ rfl _ _ _ 323 rfl 325 325 keyed Tryz.underlying323 _ w.heap.size i _ rfl HO3.out (by unfold maxLen; omega) _ _ _ rfl rfl HKEY.out _ [] (readS_mk (t, v)) ?_
     intro w4 hown4 hgrow4;have HB4 := Bas.hid (HB3.out.grown hgrow4 HB3.out.size (fun j hj => by cases hj; exact Nat.le_refl _))
     have HO4 := Bas.hid hown4;clear hown4 hgrow4 HB3 HO3 HKEY p0 p1 k73;go_wp2_with (fail);go_roundw
     case rel => exact ⟨i + 1, by omega, by go_num, by rw [HSN.out]; exact HO4.out, HB4.out⟩
     case measure => simp [intOf]; omega
  ·have hin2 : i = len := by omega
   subst hin2;have hlt : l.take i = l := List.take_of_length_le (by rw [HN.out]; exact Nat.le_refl _)
   rw [hlt] at HO;have HM0 := Bas.hid (met_start fs l);clear hlt;go_wp2_with (at_range; refine Row.fence ?_);refine Row.unfence ?_;refine wpList_range_own _ rfl _ 323 rfl 325 325 keyed Tryz.underlying323 _ w.heap.size i _ rfl HO.out ?_;intro w0 hrg0 hg0 hs0
   go_frame
   have HB0 := Bas.hid (HB.out.grown hg0 HB.out.size (fun j hj => by cases hj))
   have hwr : w.heap.size ≤ wr.heap.size := HB.out.size;obtain ⟨r, hr⟩ : ∃ r, wr.heap.size = r := ⟨_, rfl⟩;rw [hr] at hrg0 hwr ⊢;have HR0 := Bas.hid hrg0;clear hr hrg0 hg0 hs0 HB HO;go_wp2_with (fail);go_loopw [8] (fun vb wq => ∃ (left : Lit → Bool) (cnt : Nat) (xs : List (Int × Int)) (v8 : Value), v8 = vb ∧ wq.ranges Tryz.prog 325 readS w.heap.size r i (Dm fs l) left cnt ∧ Met fs l left xs ∧ wq.ownsRow w.heap.size 325 2 v8 xs.length (xs.flatMap setC) ∧ Below w.heap.size w wq) (fun _ wq => wq.rangeLeft w.heap.size r)
   case atStart => exact ⟨_, _, [], _, rfl, HR0.out, HM0.out, Row.owned_nil _ _ _ _, HB0.out⟩
   case round =>
    obtain ⟨left, cnt, xs, v8, hv8, hrg, hmet, hown, hb⟩ := hrel;rw [← hv8];clear hv8;have HRG := Bas.hid hrg;have HME := Bas.hid hmet;have HO := Bas.hid hown;have HB := Bas.hid hb;clear hrg hmet hown hb HR0 HM0 HB0;go_wp2_with (at_next; refine Row.fence ?_);refine Row.unfence ?_;refine wpList_next_ranges _ rfl _ rfl 325 keyed readS setV setV (fun key kk h => by obtain ⟨s, _, h2, _⟩ := keyOf_set_inv h; exact ⟨s, h2⟩) (fun v y h => by obtain ⟨s, h1, _⟩ := readS_inv h; exact ⟨s, h1⟩) w.heap.size r i _ _ _ rfl HRG.out ?_ ?_
    ·intro hc0 hl0;have HL0 := Bas.hid hl0
     go_frame
     clear hc0 hl0;go_wp2_with (fail);have hO := HO.out;have hml := met_len HME.out;obtain ⟨hlx, ⟨h8, hx0⟩ | ⟨g, cp, cur, h8, hgb, hh, hnc, hmc, hcs, htk⟩⟩ := hO
     ·subst h8;have hxn : xs = [] := List.length_eq_zero_iff.1 hx0;subst hxn;have HIS := Bas.hid (met_end HME.out HL0.out (List.Perm.refl []) List.Pairwise.nil);clear hlx hx0 hml;refine (sort_none wr).mono ?_;rintro e w2 ⟨rfl, rfl⟩;go_wp2_with (fail);go_ret;exact ⟨_, [], rfl, HIS.out, Row.owned_nil _ _ _ _, HB.out⟩
     ·subst h8;have HST := Bas.hid (sort_any w.heap.size g cp xs wr HO.out (by rw [HN.out] at hml; omega))
      have HGB := Bas.hid hgb;clear hlx hgb hh hnc hmc hcs htk hml;refine HST.out.mono ?_;rintro e w2 ⟨rfl, ys, hperm, hris, hown2, hgr⟩;have HIS := Bas.hid (met_end HME.out HL0.out hperm hris);have HO2 := Bas.hid hown2;have HB2 := Bas.hid (HB.out.grown hgr HB.out.size (fun j hj => by cases hj; exact HGB.out))
      have HPL := Bas.hid hperm.length_eq;clear hperm hris hown2 hgr HST HO HB;go_wp2_with (fail);go_ret;exact ⟨_, ys, rfl, HIS.out, by rw [← HPL.out]; exact HO2.out, HB2.out⟩
    ·intro x c kk y w1 cnt1 hkey hlx hry hat hrg1 hlt hg1 hs1 hen;obtain ⟨x', hwx, hxe, rfl⟩ := keyOf_set_inv hkey;have hxx : x = x' := by simp [setV] at hxe; exact Prod.ext hxe.1 hxe.2
     subst hxx;rw [readS_mk] at hry;cases hry;have HME2 := Bas.hid (met_step HME.out hwx hlx hat);have HRG1 := Bas.hid hrg1;have HLT := Bas.hid hlt;have HO1 := Bas.hid (Row.owned_keep HO.out fun g hg => hg1.block g (Row.own_block HO.out hg).2 (fun e => own_iter HO.out HRG.out (by rw [hg]; exact e.symm)))
     have hrw : w.heap.size ≤ r := hwr;have HB1 := Bas.hid (HB.out.grown hg1 HB.out.size (fun j hj => by cases hj; exact hrw))
     clear hkey hlx hat hrg1 hlt hg1 hs1 hxe hwx HME HB HO
     go_frame
     obtain ⟨ct, cv⟩ := c;obtain ⟨xt, xv⟩ := x;simp only [setV] at hen ⊢;go_wp2_with (at_builtin; refine Row.fence ?_);refine Row.unfence ?_;have kX := Bas.heap_new2 w1 (.cells #[.int .i64 ct, .int .i64 cv] 325) (.cells #[.int .i64 ct, .int .i64 cv] 325);have HRX := Bas.hid ((HRG1.out.alloc (.cells #[.int .i64 ct, .int .i64 cv] 325)).alloc (.cells #[.int .i64 ct, .int .i64 cv] 325));have hbX : Below w1.heap.size w1 ((w1.alloc (.cells #[.int .i64 ct, .int .i64 cv] 325)).alloc (.cells #[.int .i64 ct, .int .i64 cv] 325)) := ((Below.refl _ _).alloc (Nat.le_refl _) _).alloc (by simp) _
     have HBX := Bas.hid (HB1.out.trans (hbX.mono HB1.out.size));have HOX := Bas.hid (Row.owned_below HO1.out hbX);have hml := met_len HME2.out;rw [HN.out, List.length_append] at hml;simp only [List.length_cons, List.length_nil] at hml;generalize (w1.alloc (.cells #[.int .i64 ct, .int .i64 cv] 325)).alloc (.cells #[.int .i64 ct, .int .i64 cv] 325) = X at *;generalize w1.heap.size = T1 at *;refine (Row.append_any rfl _ _ 23 325 rfl (.agg #[.int .i64 0, .int .i64 0]) 2 16 Tryz.underlying23 infoS rfl (by decide) w.heap.size v8 xs.length _ rfl HOX.out (.slice (some ⟨T1 + 1, 0, none⟩) 1 1) 1 [.int .i64 ct, .int .i64 cv] rfl (leads_heap kX) rfl (by simp; exact ⟨rfl, rfl⟩) (by unfold maxLen; omega) (by omega) HBX.out.size ?_)
     intro v9 w9 hown9 hg9 _;have HR9 := Bas.hid (HRX.out.kept hg9 (own_map HOX.out HRX.out.owns) (own_iter HOX.out HRX.out));have HB9 := Bas.hid (HBX.out.grown hg9 HBX.out.size (fun j hj => (Row.own_block HOX.out hj).1))
     have ho9 : w9.ownsRow w.heap.size 325 2 v9 (xs ++ [(ct, cv)]).length ((xs ++ [(ct, cv)]).flatMap setC) := by
      rw [List.length_append, List.flatMap_append]; exact hown9
     have HO9 := Bas.hid ho9;clear hown9 hg9 ho9 HOX HBX HRX HB1 HO1 HRG1 kX hbX hen;go_wp2_with (fail);go_roundw
     case rel => exact ⟨_, cnt1, xs ++ [(ct, cv)], v9, rfl, HR9.out, HME2.out, HO9.out, HB9.out⟩
     case measure => rw [HR9.out.left_eq, HRG.out.left_eq]; exact HLT.out
theorem below_grow (w : World) (q : Nat) (os : Array Obj) : Below w.heap.size w (Go.Sort.grow (w.drewN q) os) :=
 ⟨rfl, rfl, rfl, by rw [Go.Sort.size_grow]; exact Nat.le_add_right _ _, fun k hk => Go.Sort.heap_grow_old (w.drewN q) os hk⟩
theorem compare_b (a b c d : Int) (w : World) : Calls Tryz.prog 115 #[.agg #[.int .i64 a, .int .i64 b], .agg #[.int .i64 c, .int .i64 d]] w fun e w' => e = .returned (.int .i64 (cmpP (a, b) (c, d))) ∧ Below w.heap.size w w' :=
 (compare_any (a, b) (c, d) w).mono fun _ _ ⟨h, q, os, hw⟩ => ⟨h, by rw [hw]; exact below_grow w q os⟩
theorem cmpP_neg (x y : Int × Int) : cmpP x y < 0 ↔ ltP x y = true := by
 have h := ltOf_eq x y;unfold ltOf at h;rw [← h]; simp
theorem cmpP_zero (x y : Int × Int) : cmpP x y = 0 ↔ x = y := by
 unfold cmpP;by_cases h : cmpI x.1 y.1 = 0
 ·rw [if_pos h, cmpI_zero];have := (cmpI_zero _ _).1 h;exact ⟨fun e => Prod.ext this e, fun e => by rw [e]⟩
 ·rw [if_neg h];refine ⟨fun e => absurd e h, fun e => absurd ((cmpI_zero _ _).2 (by rw [e])) h⟩
theorem ltP_trans {x y z : Int × Int} (h1 : ltP x y = true) (h2 : ltP y z = true) : ltP x z = true := by
 simp [ltP] at *; omega
def BsP (w : World) (T : Nat → Int × Int) (t : Int × Int) (n : Nat) (e : Ending) (w' : World) : Prop :=
 ∃ k, k ≤ n ∧ (∀ j, j < k → ltP (T j) t = true) ∧ (∀ j, k ≤ j → j < n → ltP (T j) t = false) ∧ e = .returned (.tuple #[.int .i64 (k : Nat), .bool (decide (k < n) && (cmpP (T k) t == 0))]) ∧ Below w.heap.size w w'
set_option maxRecDepth 100000 in
set_option maxHeartbeats 8000000 in
theorem bs_any (v : Value) (n : Nat) (T : Nat → Int × Int) (tt tv : Int) (w : World) (hn : n ≤ 100000) (hv : ∃ a c, v = .slice a n c) (hc : ∀ j, j < n → ∃ b o c, v = .slice (some ⟨b, o, none⟩) n c ∧ w.cell? ⟨b, o + j * 2, none⟩ = some (.int .i64 (T j).1) ∧ w.cell? ⟨b, o + j * 2 + 1, none⟩ = some (.int .i64 (T j).2))
  (hr : ∀ i j, i < j → j < n → ltP (T i) (T j) = true) :
  Calls Tryz.prog 251 #[v, .agg #[.int .i64 tt, .int .i64 tv], .func (.func 115) #[] #[]] w (BsP w T (tt, tv) n) := by
 have hcf : ∀ args w, (callFunc 115 args).run Tryz.prog w = .ok (.enter 115 args) w := fun args w => by simp [go_sem]
 have HC := Bas.hid hc;have HR := Bas.hid hr;obtain ⟨va, vc, rfl⟩ := hv;clear hc hr;go_enter Tryz.func251, Tryz.ntmps251
 go_wp2_with (fail);have k4 := Bas.heap_new w (.cells #[.int .i64 tt, .int .i64 tv] 325);have HB0 := Bas.hid ((Below.refl w.heap.size w).alloc (Nat.le_refl _) (.cells #[.int .i64 tt, .int .i64 tv] 325));generalize w.alloc (.cells #[.int .i64 tt, .int .i64 tv] 325) = W at *;obtain ⟨T4, hT4⟩ : ∃ T4, w.heap.size = T4 := ⟨_, rfl⟩;have HT4 := Bas.hid hT4;rw [hT4] at k4 ⊢;clear hT4;go_loopw [9, 10] (fun va vb wr => ∃ lo hi : Nat, lo ≤ hi ∧ hi ≤ n ∧ va = .int .i64 lo ∧ vb = .int .i64 hi ∧ (∀ j, j < lo → ltP (T j) (tt, tv) = true) ∧ (∀ j, hi ≤ j → j < n → ltP (T j) (tt, tv) = false) ∧ Below w.heap.size w wr ∧ wr.heap[T4]? = some (.cells #[.int .i64 tt, .int .i64 tv] 325 (0, 0))) (fun va vb _ => (intOf vb).toNat - (intOf va).toNat)
 case atStart => exact ⟨0, n, by omega, by omega, rfl, rfl, fun j h => by omega, fun j h h' => by omega, HB0.out, k4⟩
 case round =>
  obtain ⟨lo, hi, hlh, hhn, rfl, rfl, hA, hB, hb, k5⟩ := hrel;have HA := Bas.hid hA;have HBB := Bas.hid hB;have HB := Bas.hid hb;clear hA hB hb k4 HB0;have l5 := heap_lt k5;have d0 := cell_of_heap (i := 0) (v := .int .i64 tt) k5 rfl;have d1 := cell_of_heap (i := 1) (v := .int .i64 tv) k5 rfl;by_cases hlt : lo < hi
  ·have e1 : decide ((lo : Int) < (hi : Int)) = true := by simp; omega
   have e2 : decide (lo < hi) = true := by simp; omega
   obtain ⟨m, hm⟩ : ∃ m : Nat, (lo + hi) / 2 = m := ⟨_, rfl⟩;obtain ⟨b, o, c, hve, h0, h1⟩ := HC.out m (by omega)
   cases hve;have lb := World.block_lt_of_cell? _ _ h0;have c0 := (HB.out.cell (p := ⟨b, o + m * 2, none⟩) lb).trans h0;have c1 := (HB.out.cell (p := ⟨b, o + m * 2 + 1, none⟩) lb).trans h1;have lbr : b < wr.heap.size := Nat.lt_of_lt_of_le lb HB.out.size;have hmm : ((lo : Int) + (hi : Int)) / 2 = (m : Int) := by omega
   obtain ⟨cv, hcv⟩ : ∃ cv, cmpP (T m) (tt, tv) = cv := ⟨_, rfl⟩;have hneg := cmpP_neg (T m) (tt, tv);rw [hcv] at hneg;have HNEG := Bas.hid hneg;obtain ⟨p0, hp0⟩ : ∃ p0, (T m).1 = p0 := ⟨_, rfl⟩;obtain ⟨p1, hp1⟩ : ∃ p1, (T m).2 = p1 := ⟨_, rfl⟩;rw [hp0] at c0;rw [hp1] at c1;have hTm : T m = (p0, p1) := Prod.ext hp0 hp1;have HCMP := Bas.hid (fun w' => (show cmpP (p0, p1) (tt, tv) = cv by rw [← hTm]; exact hcv) ▸ compare_b p0 p1 tt tv w')
   clear h0 h1 hneg hcv hp0 hp1 hTm;go_wp2_with (fail);refine' Pl.region_v0 49 [] [0, 1, 2, 3, 4, 5, 6, 7] [] _ (by kernel_rfl) (by kernel_rfl) (by simp) (fun _ _ _ _ e h => ⟨e ▸ h.1, h.2⟩) ?_ ?_
   rotate_left
   ·intro I F hI hF;simp only [Pl.selN, List.nil_append, List.drop_succ_cons, List.drop_zero];have x0 := fun q => hF.cell lbr c0 q
    have x1 := fun q => hF.cell lbr c1 q
    have y0 := fun q => hF.cell l5 d0 q
    have y1 := fun q => hF.cell l5 d1 q
    repeat (go_big_quiet_step ((go_at_call 115; with_reducible exact hF.call (HCMP.out _))))
    refine wpQuiet_nil ?_;rfl
   intro u hu;simp only [Pl.selN];have HB2 := Bas.hid (HB.out.trans (hu.mono HB.out.size));have k6 := (hu.block _ l5).trans k5;clear hu c0 c1 d0 d1 HB k5 HCMP;by_cases hl : cv < 0
   ·have f1 : decide (cv < 0) = true := by simpa using hl
    rw [f1];have hlm := HNEG.out.1 hl;have HA2 : Hid (∀ j, j < m + 1 → ltP (T j) (tt, tv) = true) := fun j hj => by
     by_cases hjm : j = m
     ·subst hjm; exact hlm
     ·exact ltP_trans (HR.out j m (by omega) (by omega)) hlm
    clear hl hlm;go_wp2_with (fail);go_roundw
    case rel => exact ⟨m + 1, hi, by omega, hhn, by go_num, rfl, HA2.out, HBB.out, HB2.out, k6⟩
    case measure => simp [intOf]; omega
   ·have f1 : decide (cv < 0) = false := by simpa using hl
    rw [f1];have hlm : ltP (T m) (tt, tv) = false := by
     cases h : ltP (T m) (tt, tv) with
     | false => rfl
     | true => exact absurd (HNEG.out.2 h) hl
    have HB3 : Hid (∀ j, m ≤ j → j < n → ltP (T j) (tt, tv) = false) := fun j h1 h2 => by
     cases h : ltP (T j) (tt, tv) with
     | false => rfl
     | true =>
      by_cases hjm : m = j
      ·subst hjm; rw [h] at hlm; cases hlm
      ·have := ltP_trans (HR.out m j (by omega) h2) h
       rw [this] at hlm; cases hlm
    clear hl hlm;go_wp2_with (fail);go_roundw
    case rel => exact ⟨lo, m, by omega, by omega, rfl, by go_num, HA.out, HB3.out, HB2.out, k6⟩
    case measure => simp [intOf]; omega
  ·have hlh2 : lo = hi := by omega
   subst hlh2;clear hlt;by_cases hkn : lo < n
   ·have e1 : decide ((lo : Int) < (n : Int)) = true := by simp; omega
    have e2 : decide (lo < n) = true := by simp; omega
    obtain ⟨b, o, c, hve, h0, h1⟩ := HC.out lo hkn;cases hve;have lb := World.block_lt_of_cell? _ _ h0;have c0 := (HB.out.cell (p := ⟨b, o + lo * 2, none⟩) lb).trans h0;have c1 := (HB.out.cell (p := ⟨b, o + lo * 2 + 1, none⟩) lb).trans h1;have lbr : b < wr.heap.size := Nat.lt_of_lt_of_le lb HB.out.size;obtain ⟨cv, hcv⟩ : ∃ cv, cmpP (T lo) (tt, tv) = cv := ⟨_, rfl⟩;have HCV := Bas.hid hcv;obtain ⟨p0, hp0⟩ : ∃ p0, (T lo).1 = p0 := ⟨_, rfl⟩;obtain ⟨p1, hp1⟩ : ∃ p1, (T lo).2 = p1 := ⟨_, rfl⟩;rw [hp0] at c0;rw [hp1] at c1;have hTm : T lo = (p0, p1) := Prod.ext hp0 hp1;have HCMP := Bas.hid (fun w' => (show cmpP (p0, p1) (tt, tv) = cv by rw [← hTm]; exact hcv) ▸ compare_b p0 p1 tt tv w')
    clear h0 h1 hcv hp0 hp1 hTm;go_wp2_with (fail);refine' Pl.region_v0 49 [] [0, 1, 2, 3, 4, 5, 6, 7, 8, 9, 10, 11, 12, 13, 14] [15] _ (by kernel_rfl) (by kernel_rfl) (by simp) (fun _ _ _ _ e h => ⟨e ▸ h.1, h.2⟩) ?_ ?_
    rotate_left
    ·intro I F hI hF;simp only [Pl.selN, List.nil_append, List.drop_succ_cons, List.drop_zero];have x0 := fun q => hF.cell lbr c0 q
     have x1 := fun q => hF.cell lbr c1 q
     have y0 := fun q => hF.cell l5 d0 q
     have y1 := fun q => hF.cell l5 d1 q
     repeat (go_big_quiet_step ((go_at_call 115; with_reducible exact hF.call (HCMP.out _))))
     refine wpQuiet_nil ?_;rfl
    intro u hu;simp only [Pl.selN, List.drop_succ_cons, List.drop_zero];have HB2 := Bas.hid (HB.out.trans (hu.mono HB.out.size));have E2 := Bas.hid e2;clear hu c0 c1 d0 d1 HB k5 HCMP e1 e2;go_wp2_with (fail);refine bodyPost_ret (v := .tuple #[.int .i64 (lo : Nat), .bool (cv == 0)]) (by simp [results, Tryz.results251, go_sem]) rfl ⟨lo, hhn, HA.out, HBB.out, ?_, HB2.out⟩
    rw [E2.out, HCV.out];rfl
   ·have e1 : decide ((lo : Int) < (n : Int)) = false := by simp; omega
    have e2 : decide (lo < n) = false := by simp; omega
    have E2 := Bas.hid e2;go_wp2_with (fail);refine' Pl.region_v0 49 [] [0, 1, 2, 3, 4, 5, 6, 7, 8, 9, 10, 11, 12, 13, 14] [15] _ (by kernel_rfl) (by kernel_rfl) (by simp) (fun _ _ _ _ e h => ⟨e ▸ h.1, h.2⟩) ?_ ?_
    rotate_left
    ·intro I F hI hF;simp only [Pl.selN, List.nil_append, List.drop_succ_cons, List.drop_zero];repeat (go_big_quiet_step (fail))
     refine wpQuiet_nil ?_;rfl
    intro u hu;simp only [Pl.selN, List.drop_succ_cons, List.drop_zero];have HB2 := Bas.hid (HB.out.trans (hu.mono HB.out.size));clear hu;go_wp2_with (fail);refine bodyPost_ret (v := .tuple #[.int .i64 (lo : Nat), .bool false]) (by simp [results, Tryz.results251, go_sem]) rfl ⟨lo, hhn, HA.out, HBB.out, ?_, HB2.out⟩
    rw [E2.out];rfl
theorem bs_mem {xs : List (Int × Int)} (hs : xs.Pairwise (fun x y => ltP x y = true)) (s : Int × Int) (k : Nat) (h1 : ∀ j, j < k → ltP (xs.getD j (0, 0)) s = true) (h2 : ∀ j, k ≤ j → j < xs.length → ltP (xs.getD j (0, 0)) s = false) :
  (decide (k < xs.length) && (cmpP (xs.getD k (0, 0)) s == 0)) = decide (s ∈ xs) := by
 have hg : ∀ j, (hj : j < xs.length) → xs.getD j (0, 0) = xs[j] := fun j hj => by rw [List.getD_eq_getElem?_getD, List.getElem?_eq_getElem hj]; rfl
 have irr : ltP s s = false := by simp [ltP]
 rw [Bool.eq_iff_iff, Bool.and_eq_true, decide_eq_true_iff, decide_eq_true_iff, beq_iff_eq, cmpP_zero];constructor
 ·rintro ⟨hk, e⟩;rw [hg k hk] at e;rw [← e]; exact List.getElem_mem hk
 ·intro hm;obtain ⟨j, hj, e⟩ := List.mem_iff_getElem.1 hm;have e' := hg j hj;rw [e] at e';by_cases hjk : j < k
  ·have := h1 j hjk;rw [e', irr] at this; cases this
  ·by_cases hkj : k = j
   ·subst hkj; exact ⟨hj, e'⟩
   ·have h3 := h2 k (Nat.le_refl _) (by omega)
    have h4 := List.pairwise_iff_getElem.1 hs k j (by omega) hj (by omega)
    rw [hg k (by omega)] at h3
    rw [e] at h4;rw [h3] at h4; cases h4
set_option maxHeartbeats 4000000 in
theorem on_any (v : Value) (xs : List (Int × Int)) (t u : Int) (w : World) (hl : Row.Leads w v xs.length (xs.flatMap setC)) (hs : xs.Pairwise (fun x y => ltP x y = true)) (hn : xs.length ≤ 100000) :
  Calls Tryz.prog 225 #[v, .agg #[.int .i64 t, .int .i64 u]] w fun e w' => e = .returned (.bool (decide ((t, u) ∈ xs))) ∧ Below w.heap.size w w' := by
 have HB0 := Bas.hid ((Below.refl w.heap.size w).alloc (Nat.le_refl _) (.cells #[.int .i64 t, .int .i64 u] 325));have HBS : Hid (∀ w', Below w.heap.size w w' → Calls Tryz.prog 251 #[v, .agg #[.int .i64 t, .int .i64 u], .func (.func 115) #[] #[]] w' fun e w'' => ∃ k : Nat, e = .returned (.tuple #[.int .i64 (k : Nat), .bool (decide ((t, u) ∈ xs))]) ∧ Below w'.heap.size w' w'') := fun w' hb => by
  refine (bs_any v xs.length (fun j => xs.getD j (0, 0)) t u w' hn ?_ (fun j hj => ?_) (fun i j hij hj => ?_)).mono fun e w'' ⟨k, _, h1, h2, he, hb2⟩ => ⟨k, by rw [he, bs_mem hs (t, u) k h1 h2], hb2⟩
  ·exact Row.leads_slice hl
  ·have hx : xs[j]? = some (xs.getD j (0, 0)) := by rw [List.getD_eq_getElem?_getD, List.getElem?_eq_getElem hj]; rfl
   obtain ⟨b, o, c, hv, hcl⟩ := Row.leads_elem setC_len hl hx (by omega)
   have h0 := hcl 0 _ rfl;have h1 := hcl 1 _ rfl;exact ⟨b, o, c, hv, (hb.cell (p := ⟨b, o + j * 2, none⟩) (World.block_lt_of_cell? _ _ h0)).trans h0, (hb.cell (p := ⟨b, o + j * 2 + 1, none⟩) (World.block_lt_of_cell? _ _ h1)).trans h1⟩
  ·have := List.pairwise_iff_getElem.1 hs i j (by omega) hj hij
   rw [List.getD_eq_getElem?_getD, List.getElem?_eq_getElem (by omega), List.getD_eq_getElem?_getD, List.getElem?_eq_getElem hj]
   exact this
 obtain ⟨a, c, rfl⟩ := Row.leads_slice hl;generalize decide ((t, u) ∈ xs) = b at *;clear hl hs;go_enter Tryz.func225, Tryz.ntmps225
 go_wp2_with (fail);refine (HBS.out _ HB0.out).mono ?_;rintro e w2 ⟨k, rfl, hb2⟩;have HB2 := Bas.hid (HB0.out.trans (hb2.mono HB0.out.size));clear hb2 HBS HB0;go_wp2_with (fail);go_ret;exact ⟨rfl, HB2.out⟩
structure RuleD where
 ty : Int
 val : Int
 en : Int
 dis : Int
def ruC (r : RuleD) : List Value := [.int .i64 r.ty, .int .i64 r.val, .int .u32 r.en, .int .u32 r.dis]
theorem ruC_len (r : RuleD) : (ruC r).length = 4 := rfl
def stepF (f : Int) (r : RuleD) : Int := bits .or .u32 (bits .and .u32 f r.dis) r.en
def flagsL (on : Int × Int → Bool) (f : Int) (rules : List RuleD) : Int := rules.foldl (fun f r => if on (r.ty, r.val) then stepF f r else f) f
theorem flagsL_snoc (on : Int × Int → Bool) (f : Int) (rules : List RuleD) (r : RuleD) : flagsL on f (rules ++ [r]) = if on (r.ty, r.val) then stepF (flagsL on f rules) r else flagsL on f rules := by
 unfold flagsL; rw [List.foldl_append]; rfl
set_option maxRecDepth 100000 in
set_option maxHeartbeats 8000000 in
theorem flags_any (a : Option Addr) (len cap : Nat) (rules : List RuleD) (first : Int) (sv : Value) (xs : List (Int × Int)) (w : World) (hl : Row.Leads w (.slice a len cap) len (rules.flatMap ruC)) (hn : rules.length = len) (hlen : len ≤ 100000) (hs : Row.Leads w sv xs.length (xs.flatMap setC)) (hp : xs.Pairwise (fun x y => ltP x y = true)) (hxn : xs.length ≤ 100000) :
  Calls Tryz.prog 176 #[.int .u32 first, .slice a len cap, sv] w fun e w' => e = .returned (.int .u32 (flagsL (fun s => decide (s ∈ xs)) first rules)) ∧ Below w.heap.size w w' := by
 have HL := Bas.hid hl;have HN := Bas.hid hn;have HON := Bas.hid (fun (t u : Int) w' (hb : Below w.heap.size w w') => on_any sv xs t u w' (Row.leads_below hs hb) hp hxn)
 obtain ⟨sa, sc, rfl⟩ := Row.leads_slice hs;obtain ⟨on, hon⟩ : ∃ on : Int × Int → Bool, (fun s => decide (s ∈ xs)) = on := ⟨_, rfl⟩
 have hon2 : ∀ s, decide (s ∈ xs) = on s := fun s => congrFun hon s
 simp only [hon2] at HON;rw [hon];obtain ⟨r, hre⟩ : ∃ r, flagsL on first rules = r := ⟨_, rfl⟩;have HRE := Bas.hid hre;rw [hre];clear hl hn hs hp hon hon2 hre;go_enter Tryz.func176, Tryz.ntmps176
 go_wp2_with (fail);go_loopw [0, 11] (fun va vb wr => ∃ (i : Nat) (f : Int), i ≤ len ∧ va = .int .u32 f ∧ vb = .int .i64 i ∧ flagsL on first (rules.take i) = f ∧ Below w.heap.size w wr) (fun _ vb _ => len - (intOf vb).toNat)
 case atStart => exact ⟨0, first, Nat.zero_le _, rfl, rfl, rfl, Below.refl _ _⟩
 case round =>
  obtain ⟨i, f, hi, rfl, rfl, hf, hb⟩ := hrel;have HF := Bas.hid hf;have HB := Bas.hid hb;clear hf hb;by_cases hin : i < len
  ·have e1 : decide ((i : Int) < (len : Int)) = true := by simp; omega
   have e2 : decide (i < len) = true := by simp; omega
   obtain ⟨s, hs⟩ : ∃ s, rules[i]? = some s := ⟨_, List.getElem?_eq_getElem (by rw [HN.out]; exact hin)⟩
   have hTK : rules.take (i + 1) = rules.take i ++ [s] := by rw [List.take_add_one, hs]; rfl
   obtain ⟨x, y, en, dis⟩ := s;obtain ⟨B, Of, cp0, hv0, hcl⟩ := Row.leads_elem ruC_len HL.out hs (by omega)
   cases hv0;have h0 := hcl 0 _ rfl;have h1 := hcl 1 _ rfl;have h2 := hcl 2 _ rfl;have h3 := hcl 3 _ rfl;simp only [Nat.add_zero] at h0;have lb : B < w.heap.size := World.block_lt_of_cell? _ _ h0;have c0 := (HB.out.cell (p := ⟨B, Of + i * 4, none⟩) lb).trans h0;have c1 := (HB.out.cell (p := ⟨B, Of + i * 4 + 1, none⟩) lb).trans h1;have c2 := (HB.out.cell (p := ⟨B, Of + i * 4 + 2, none⟩) lb).trans h2;have c3 := (HB.out.cell (p := ⟨B, Of + i * 4 + 3, none⟩) lb).trans h3;have hsn := flagsL_snoc on first (rules.take i) ⟨x, y, en, dis⟩;rw [← hTK, HF.out] at hsn;simp only [stepF] at hsn;have HOX := Bas.hid (fun w' hb => HON.out x y w' hb)
   obtain ⟨ob, hob⟩ : ∃ ob, on (x, y) = ob := ⟨_, rfl⟩;rw [hob] at hsn HOX;clear hs hcl h0 h1 h2 h3 hTK hob;have HSN := Bas.hid hsn;clear hsn;go_wp2_with (fail);have k8 := Bas.heap_new wr (.cells #[.int .i64 x, .int .i64 y, .int .u32 en, .int .u32 dis] 419);have HB1 := Bas.hid (HB.out.alloc HB.out.size (.cells #[.int .i64 x, .int .i64 y, .int .u32 en, .int .u32 dis] 419));generalize wr.alloc (.cells #[.int .i64 x, .int .i64 y, .int .u32 en, .int .u32 dis] 419) = W1 at *;generalize wr.heap.size = T8 at *;clear c0 c1 c2 c3 HB;refine (HOX.out W1 HB1.out).mono ?_;rintro e w2 ⟨rfl, hb2⟩;have k9 := (hb2.block _ (heap_lt k8)).trans k8;have HB2 := Bas.hid (HB1.out.trans (hb2.mono HB1.out.size));clear hb2 HB1 k8;have q2 := cell_of_heap (i := 2) (v := .int .u32 en) k9 rfl;have q3 := cell_of_heap (i := 3) (v := .int .u32 dis) k9 rfl;cases ob with
   | false =>
    simp only [if_false, Bool.false_eq_true] at HSN;go_wp2_with (fail);go_roundw
    case rel => exact ⟨i + 1, f, by omega, rfl, by go_num, HSN.out, HB2.out⟩
    case measure => simp [intOf]; omega
   | true =>
    simp only [if_true] at HSN;go_wp2_with (fail);go_roundw
    case rel => exact ⟨i + 1, _, by omega, rfl, by go_num, HSN.out, HB2.out⟩
    case measure => simp [intOf]; omega
  ·have hin2 : i = len := by omega
   subst hin2;have hlt : rules.take i = rules := List.take_of_length_le (by rw [HN.out]; exact Nat.le_refl _)
   rw [hlt] at HF;clear hlt;go_wp2_with (fail);go_ret;exact ⟨by rw [← HRE.out, HF.out]; first | done | rfl, HB.out⟩
end Pk
namespace Mx
open Vw Ch Lk St Ln Dr
def ruOf (r : Ch.RuleD) : Pk.RuleD := ⟨r.type, r.value, r.enable, r.disable⟩
theorem rulesC_ru (l : List Ch.RuleD) : rulesC l = (l.map ruOf).flatMap Pk.ruC := by
 unfold rulesC;rw [List.flatMap_map];rfl
def flagsOf (T : List MChain) (xs : List (Int × Int)) : List Int := T.map fun c => Pk.flagsL (fun s => decide (s ∈ xs)) c.first (c.rules.map ruOf)
theorem infoU32 : (Tryz.prog.info? 88).map (fun i => (i.zero, i.size, i.bytes)) = some (some (.int .u32 0), 1, 4) := by kernel_rfl
set_option maxRecDepth 100000 in
set_option maxHeartbeats 8000000 in
theorem mflags_any (v sv : Value) (T : List MChain) (xs : List (Int × Int)) (w : World) (h : MorxAt w v T) (hr : ∀ c ∈ T, c.rules.length ≤ 100000) (hTn : T.length ≤ 100000) (hs : Row.Leads w sv xs.length (xs.flatMap Pk.setC)) (hp : xs.Pairwise (fun x y => Pk.ltP x y = true)) (hxn : xs.length ≤ 100000) :
  Calls Tryz.prog 116 #[v, sv] w fun e w' => Below w.heap.size w w' ∧ ∃ v', e = .returned v' ∧ w'.ownsRow w.heap.size 88 1 v' T.length ((flagsOf T xs).map (Value.int .u32)) := by
 obtain ⟨g, vl, rs, rfl, hg, hrl, hvl, hlk⟩ := h;obtain ⟨al, cl, rfl⟩ := Row.leads_slice hvl;obtain ⟨as', cs, rfl⟩ := Row.leads_slice hs;obtain ⟨n, hn⟩ : ∃ n, T.length = n := ⟨_, rfl⟩;have HN := Bas.hid hn;rw [hn] at hg hvl hTn ⊢;have HVL := Bas.hid hvl;have HLK := Bas.hid hlk;have HS := Bas.hid hs;have HRL := Bas.hid (hrl.trans hn);have g0 := cell_of_heap (i := 0) hg rfl;have lg := heap_lt hg;obtain ⟨sn, hsn⟩ : ∃ sn, xs.length = sn := ⟨_, rfl⟩;have HSN := Bas.hid hsn;rw [hsn] at hxn ⊢;clear hg hvl hlk hs hrl hn hsn;go_enter Tryz.func116, Tryz.ntmps116
 go_wp2_with (fail);go_loopw [5, 13] (fun v5 vi wr => ∃ i : Nat, i ≤ n ∧ vi = .int .i64 i ∧ Below w.heap.size w wr ∧ wr.ownsRow w.heap.size 88 1 v5 i (((flagsOf T xs).take i).map (Value.int .u32))) (fun _ vi _ => n - (intOf vi).toNat)
 case atStart => exact ⟨0, Nat.zero_le _, rfl, Below.refl _ _, Row.owned_nil _ _ _ _⟩
 case round =>
  obtain ⟨i, hi, rfl, hb, ho⟩ := hrel;have HB := Bas.hid hb;have HO := Bas.hid ho;obtain ⟨a5, c5, rfl⟩ := own_slice ho;by_cases hin : i < n
  ·have e1 : decide ((i : Int) < (n : Int)) = true := by simp; omega
   have e2 : decide (i < n) = true := by simp; omega
   obtain ⟨⟨first, rules, subs⟩, hc⟩ : ∃ c, T[i]? = some c := ⟨_, List.getElem?_eq_getElem (by rw [HN.out]; exact hin)⟩
   obtain ⟨⟨vr, vs⟩, hri⟩ : ∃ r, rs[i]? = some r := ⟨_, List.getElem?_eq_getElem (by rw [HRL.out]; exact hin)⟩
   obtain ⟨b, o, cp, hv, hcl⟩ := Row.leads_elem (x := ((⟨first, rules, subs⟩ : MChain), (vr, vs))) linkC_len (Row.leads_below HVL.out hb) (List.getElem?_zip_eq_some.2 ⟨hc, hri⟩) (by omega)
   cases hv;have d0 := hcl 0 _ rfl;have d1 := hcl 1 _ rfl;have d2 := hcl 2 _ rfl;simp only [Nat.add_zero] at d0 d1 d2;have lb := World.block_lt_of_cell? _ _ d0;obtain ⟨hrul, fvs, _, hsub, _⟩ := HLK.out i _ _ hc hri;simp only at hrul hsub;obtain ⟨ar, cr, rfl⟩ := Row.leads_slice hrul;obtain ⟨ab, cb, rfl⟩ := Row.leads_slice hsub;have hrb := hr _ (List.mem_of_getElem? hc);simp only at hrb;have HRU := Bas.hid hrul;obtain ⟨rl, hrl⟩ : ∃ rl, rules.length = rl := ⟨_, rfl⟩;have HRN := Bas.hid hrl;obtain ⟨sl, hsl⟩ : ∃ sl, subs.length = sl := ⟨_, rfl⟩;rw [hrl] at d1 hrb;rw [hsl] at d2;have HFX : Hid ((flagsOf T xs).take (i + 1) = (flagsOf T xs).take i ++ [Pk.flagsL (fun s => decide (s ∈ xs)) first (rules.map ruOf)]) := by
    unfold Hid flagsOf;rw [List.take_add_one, List.getElem?_map, hc]; rfl
   have hFL : ∀ w', Below wr.heap.size wr w' → Calls Tryz.prog 176 #[.int .u32 first, .slice ar rl cr, .slice as' sn cs] w' fun e w'' => e = .returned (.int .u32 (Pk.flagsL (fun s => decide (s ∈ xs)) first (rules.map ruOf))) ∧ Below w'.heap.size w' w'' := fun w' hw => by
    have h1 := Row.leads_below (Row.leads_below HRU.out HB.out) (hw.mono (Nat.le_refl _));have h2 := Row.leads_below (Row.leads_below HS.out HB.out) (hw.mono (Nat.le_refl _));rw [rulesC_ru, hrl] at h1;have hq := Pk.flags_any ar rl cr (rules.map ruOf) first (.slice as' xs.length cs) xs w' h1 (by rw [List.length_map]; exact hrl) hrb h2 hp (by rw [HSN.out]; exact hxn)
    rw [HSN.out] at hq;exact hq
   have HFLC := Bas.hid hFL;generalize Pk.flagsL (fun s => decide (s ∈ xs)) first (rules.map ruOf) = F at *
   have k7 := Bas.heap_new wr (.cells #[.int .u32 first, .slice ar rl cr, .slice ab sl cb] 291);have hb7 := (Below.refl wr.heap.size wr).alloc (Nat.le_refl _) (.cells #[.int .u32 first, .slice ar rl cr, .slice ab sl cb] 291);have HB7 := Bas.hid hb7;have q0 := cell_of_heap (i := 0) k7 rfl;have q1 := cell_of_heap (i := 1) k7 rfl;have l7 := heap_lt k7;clear hb ho hc hri hcl hrul hsub hrl hsl hFL hb7 k7;go_wp2_with (fail);generalize (wr.alloc (.cells #[.int .u32 first, .slice ar rl cr, .slice ab sl cb] 291)) = W7 at *;refine (HFLC.out W7 HB7.out).mono ?_;rintro e w8 ⟨rfl, hb8⟩;have HB8 := Bas.hid (HB7.out.trans (hb8.mono HB7.out.size));clear hb8 q0 q1 l7 d0 d1 d2 lb;go_wp2_with (at_builtin; refine Row.fence ?_);refine Row.unfence ?_;have HLD := Bas.hid (Row.leads_one w8 (.int .u32 F) 88);have hb9 := (Below.refl w8.heap.size w8).alloc (Nat.le_refl _) (.cells #[.int .u32 F] 88);have HB9 := Bas.hid (HB8.out.trans (hb9.mono HB8.out.size));have HO9 := Bas.hid (Row.owned_below HO.out HB9.out);have HW9 := Bas.hid (HB.out.trans (HB9.out.mono HB.out.size));clear hb9;generalize (w8.alloc (.cells #[.int .u32 F] 88)) = W9 at *;refine Row.append_any rfl _ _ 330 88 rfl (.int .u32 0) 1 4 Tryz.underlying330 infoU32 rfl (by decide) w.heap.size _ i _ rfl HO9.out (.slice (some ⟨w8.heap.size, 0, none⟩) 1 1) 1 [.int .u32 F] rfl HLD.out rfl (by simp; rfl) (by unfold maxLen; omega) (by omega) HW9.out.size ?_
   intro v10 w10 ho10 hg10 _;have HO10 : Hid (w10.ownsRow w.heap.size 88 1 v10 (i + 1) (((flagsOf T xs).take (i + 1)).map (Value.int .u32))) := by
    unfold Hid; rw [HFX.out, List.map_append]; exact ho10
   have HB10 := Bas.hid (HW9.out.grown hg10 HW9.out.size (fun k hk => (Row.own_block HO9.out hk).1))
   clear ho10 hg10;go_wp2_with (fail);go_roundw
   case rel => exact ⟨i + 1, by omega, by go_num, HB10.out, HO10.out⟩
   case measure => simp [intOf]; omega
  ·have e1 : decide ((i : Int) < (n : Int)) = false := by simp; omega
   have e2 : decide (i < n) = false := by simp; omega
   have e3 : ¬ (i : Int) < (n : Int) := by omega
   have HF : Hid (wr.ownsRow w.heap.size 88 1 (.slice a5 i c5) n ((flagsOf T xs).map (Value.int .u32))) := by
    have hin2 : i = n := by omega
    unfold Hid;rw [List.take_of_length_le (by unfold flagsOf; rw [List.length_map, HN.out]; omega)] at ho
    rw [← hin2]; exact ho
   clear hb ho;go_wp2_with (fail);go_ret;exact ⟨HB.out, _, rfl, HF.out⟩
set_option maxRecDepth 100000 in
theorem subrun_plain (cover flags : Int) (fv : Value) (gv : Value) (d left nput err : Int) (Q : World → Prop) (w : World) (ht : Cov.turnedM (Cov.bitB cover 30) (Cov.bitB cover 28) d = false)
  (fn : Nat) (fa fb : Array Value) (hfv : fv = .func (.func fn) fa fb) (hcf : ∀ args w, (callFunc fn args).run Tryz.prog w = .ok (.enter fn args) w)
  (hrun : ∀ w', Below w.heap.size w w' → Calls Tryz.prog fn (fa ++ (#[gv, .int .i64 left] ++ fb)) w' fun e w'' => e = .returned (.tuple #[.int .i64 nput, .int .i64 err]) ∧ Q w'') :
  Calls Tryz.prog 118 #[.agg #[.int .i64 (cover % 256), .bool (Cov.bitB cover 31), .bool (Cov.bitB cover 30), .bool (Cov.bitB cover 29), .bool (Cov.bitB cover 28), .int .u32 flags, fv], gv, .int .i64 d, .int .i64 left] w fun e w' => e = .returned (.tuple #[.int .i64 nput, .int .i64 err]) ∧ Q w' := by
 subst hfv;have HR := Bas.hid hrun;have hb1 := (Below.refl w.heap.size w).alloc (Nat.le_refl _) (.cells #[.int .i64 (cover % 256), .bool (Cov.bitB cover 31), .bool (Cov.bitB cover 30), .bool (Cov.bitB cover 29), .bool (Cov.bitB cover 28), .int .u32 flags, .func (.func fn) fa fb] 303);have k1 := Bas.heap_new w (.cells #[.int .i64 (cover % 256), .bool (Cov.bitB cover 31), .bool (Cov.bitB cover 30), .bool (Cov.bitB cover 29), .bool (Cov.bitB cover 28), .int .u32 flags, .func (.func fn) fa fb] 303);have HB1 := Bas.hid hb1;have HK1 := Bas.hid k1;have q0 := cell_of_heap (i := 0) k1 rfl;have q1 := cell_of_heap (i := 1) k1 rfl;have q2 := cell_of_heap (i := 2) k1 rfl;have q3 := cell_of_heap (i := 3) k1 rfl;have q4 := cell_of_heap (i := 4) k1 rfl;have lk := heap_lt k1;have HT := Bas.hid (fun w => Cov.mturned_any (cover % 256) (Cov.bitB cover 31) (Cov.bitB cover 30) (Cov.bitB cover 29) (Cov.bitB cover 28) d w)
 rw [ht] at HT;clear hb1 k1 hrun ht;go_enter Tryz.func118, Tryz.ntmps118
 go_wp2_with (fail);generalize (w.alloc (.cells #[.int .i64 (cover % 256), .bool (Cov.bitB cover 31), .bool (Cov.bitB cover 30), .bool (Cov.bitB cover 29), .bool (Cov.bitB cover 28), .int .u32 flags, .func (.func fn) fa fb] 303)) = W1 at *;refine (HT.out W1).mono ?_;rintro e w2 ⟨rfl, hb2⟩;have k2 := (hb2.block _ (heap_lt HK1.out)).trans HK1.out;have HB2 := Bas.hid (HB1.out.trans (hb2.mono HB1.out.size));have c6 := cell_of_heap (i := 6) k2 rfl;have l2 := heap_lt k2;clear hb2 k2 q0 q1 q2 q3 q4 lk HT;go_wp2_with (fail);refine (HR.out _ HB2.out).mono ?_;rintro e w3 ⟨rfl, hq⟩;have HQ := Bas.hid hq;clear hq;go_wp2_with (fail)
 go_ret2
 exact ⟨rfl, HQ.out⟩
theorem turnD_any (base g : Nat) (sv : Value) (xs : List Gl) (w : World) (h : LineAt w base g sv xs) (hn : xs.length ≤ 4294967296) :
  CallsD Tryz.prog 179 #[.pointer (some ⟨g, 0, none⟩)] .returning w fun e u w' => u = .returning ∧ e = .returned (.tuple #[]) ∧ LnTo w base g sv xs.reverse w' := by
 have HC := Bas.hid (reverse_any base sv xs xs.length w h.own rfl hn);have HH := Bas.hid h;obtain ⟨ad, cp, rfl⟩ := own_slice h.own;have g0 := cell_of_heap (i := 0) (v := .slice ad xs.length cp) h.head rfl;have lg := h.lt;clear h;refine callsD_of_wp (R := fun e w' => e = .returned (.tuple #[]) ∧ LnTo w base g _ xs.reverse w') Tryz.func179 rfl ?_
 simp only [Tryz.ntmps179];go_wp2_with (fail);refine HC.out.mono ?_;rintro e w2 ⟨rfl, ho, hg⟩;have HR := Bas.hid (lnTo_same HH.out (by rw [List.length_reverse]; exact ho) hg)
 clear ho hg HC;go_wp2_with (fail)
 go_end0
 exact ⟨rfl, HR.out⟩
set_option maxRecDepth 100000 in
theorem subrun_turned (cover flags : Int) (fv : Value) (gv : Value) (d left nput err : Int) (ys : List Gl) (w : World) (ht : Cov.turnedM (Cov.bitB cover 30) (Cov.bitB cover 28) d = true) (base g : Nat) (sv : Value) (xs : List Gl) (hL : LineAt w base g sv xs) (hg : gv = .pointer (some ⟨g, 0, none⟩)) (hlen : xs.length ≤ 1000000) (hylen : ys.length ≤ 4294967296)
  (fn : Nat) (fa fb : Array Value) (hfv : fv = .func (.func fn) fa fb) (hcf : ∀ args w, (callFunc fn args).run Tryz.prog w = .ok (.enter fn args) w)
  (hrun : ∀ w', LnTo w base g sv xs.reverse w' → Calls Tryz.prog fn (fa ++ (#[gv, .int .i64 left] ++ fb)) w' fun e w'' => e = .returned (.tuple #[.int .i64 nput, .int .i64 err]) ∧ LnTo w base g sv ys w'') :
  Calls Tryz.prog 118 #[.agg #[.int .i64 (cover % 256), .bool (Cov.bitB cover 31), .bool (Cov.bitB cover 30), .bool (Cov.bitB cover 29), .bool (Cov.bitB cover 28), .int .u32 flags, fv], gv, .int .i64 d, .int .i64 left] w fun e w' => e = .returned (.tuple #[.int .i64 nput, .int .i64 err]) ∧ LnTo w base g sv ys.reverse w' := by
 subst hfv hg;have HLL := Bas.hid hL;have HR := Bas.hid hrun;have hb1 := (Below.refl w.heap.size w).alloc (Nat.le_refl _) (.cells #[.int .i64 (cover % 256), .bool (Cov.bitB cover 31), .bool (Cov.bitB cover 30), .bool (Cov.bitB cover 29), .bool (Cov.bitB cover 28), .int .u32 flags, .func (.func fn) fa fb] 303);have k1 := Bas.heap_new w (.cells #[.int .i64 (cover % 256), .bool (Cov.bitB cover 31), .bool (Cov.bitB cover 30), .bool (Cov.bitB cover 29), .bool (Cov.bitB cover 28), .int .u32 flags, .func (.func fn) fa fb] 303);have HB1 := Bas.hid hb1;have HK1 := Bas.hid k1;have q0 := cell_of_heap (i := 0) k1 rfl;have q1 := cell_of_heap (i := 1) k1 rfl;have q2 := cell_of_heap (i := 2) k1 rfl;have q3 := cell_of_heap (i := 3) k1 rfl;have q4 := cell_of_heap (i := 4) k1 rfl;have lk := heap_lt k1;have HT := Bas.hid (fun w => Cov.mturned_any (cover % 256) (Cov.bitB cover 31) (Cov.bitB cover 30) (Cov.bitB cover 29) (Cov.bitB cover 28) d w)
 rw [ht] at HT;clear hb1 k1 hrun ht
 go_enter_defers Tryz.func118, Tryz.ntmps118
 go_wp2_with (fail);generalize (w.alloc (.cells #[.int .i64 (cover % 256), .bool (Cov.bitB cover 31), .bool (Cov.bitB cover 30), .bool (Cov.bitB cover 29), .bool (Cov.bitB cover 28), .int .u32 flags, .func (.func fn) fa fb] 303)) = W1 at *;refine (HT.out W1).mono ?_;rintro e w2 ⟨rfl, hb2⟩;have k2 := (hb2.block _ (heap_lt HK1.out)).trans HK1.out;have HB2 := Bas.hid (HB1.out.trans (hb2.mono HB1.out.size));have c6 := cell_of_heap (i := 6) k2 rfl;have l2 := heap_lt k2;have HK2 := Bas.hid k2;clear hb2 k2 q0 q1 q2 q3 q4 lk HT c6 l2;go_wp2_with (fail);refine (turn_any base g sv xs w2 (HLL.out.below HB2.out) (by omega)).mono ?_
 rintro e w3 ⟨rfl, hto⟩;have HTW := Bas.hid (LnTo.behind HB2.out hto);have k3 : w3.heap[w.heap.size]? = some (.cells #[.int .i64 (cover % 256), .bool (Cov.bitB cover 31), .bool (Cov.bitB cover 30), .bool (Cov.bitB cover 29), .bool (Cov.bitB cover 28), .int .u32 flags, .func (.func fn) fa fb] 303 (0, 0)) := by
  obtain ⟨_, _, hm, _⟩ := hto;exact hm.heap HK2.out (fun hk => by have := (HLL.out.blk_low _ hk).2; omega)
 have c6 := cell_of_heap (i := 6) k3 rfl;have l3 := heap_lt k3;clear hto k3;go_wp2_with (fail);refine (HR.out _ HTW.out).mono ?_;rintro e w4 ⟨rfl, hq⟩;have HQ := Bas.hid hq;clear hq;go_wp2_with (fail);refine leaves_cons (f := 179) (args := #[.pointer (some ⟨g, 0, none⟩)]) (by simp) (by simp [go_sem]) ?_
 obtain ⟨sv4, hl4, hm4, ho4⟩ := id HQ.out;refine (turnD_any base g sv4 ys w4 hl4 hylen).mono ?_;rintro e u' w5 ⟨rfl, rfl, hto⟩;exact ⟨.tuple #[.int .i64 nput, .int .i64 err], by simp [results, Tryz.results118, go_sem], rfl, LnTo.step HLL.out.lt hm4 ho4 hto⟩
abbrev WkF := WkD → Int → List Gl → List Gl × (Int × Int)
def asks (fl d : Int) (s : MSub) : Bool := !(bits .and .u32 fl s.flags == 0) && Cov.runsM (Cov.bitB s.cover 31) (Cov.bitB s.cover 29) d
def turnedOf (d : Int) (s : MSub) : Bool := Cov.turnedM (Cov.bitB s.cover 30) (Cov.bitB s.cover 28) d
def runSub (F : WkF) (d : Int) (s : MSub) (left : Int) (xs : List Gl) : List Gl × (Int × Int) :=
 match turnedOf d s with
 | true => ((F s.wk left xs.reverse).1.reverse, (F s.wk left xs.reverse).2)
 | false => F s.wk left xs
def subsRun (F : WkF) (fl d : Int) : List MSub → Nat → List Gl → Int → List Gl × Int × Option (Int × Nat)
 | [], _, xs, left => (xs, left, none)
 | s :: l, k, xs, left =>
  match asks fl d s with
  | false => subsRun F fl d l (k + 1) xs left
  | true =>
   if (runSub F d s left xs).2.2 = 0 then subsRun F fl d l (k + 1) (runSub F d s left xs).1 (wrap64 (left - (runSub F d s left xs).2.1))
   else ((runSub F d s left xs).1, wrap64 (left - (runSub F d s left xs).2.1), some ((runSub F d s left xs).2.2, k))
def chainsRun (F : WkF) (d : Int) : List (MChain × Int) → Nat → List Gl → Int → List Gl × Option (Int × Nat × Nat)
 | [], _, xs, _ => (cleanL xs, none)
 | (c, fl) :: l, i, xs, left =>
  match subsRun F fl d c.subs 0 xs left with
  | (ys, left', none) => chainsRun F d l (i + 1) ys left'
  | (ys, _, some (e, k)) => (ys, some (e, i, k))
def faultV : Option (Int × Nat × Nat) → Value
 | none => .agg #[.int .i64 0, .int .i64 0, .int .i64 0]
 | some (e, i, k) => .agg #[.int .i64 e, .int .i64 i, .int .i64 k]
def WkDoes (F : WkF) (Pre : List Gl → Int → Prop) (k : WkD) : Prop :=
 ∀ W0 fv, WorkAt W0 fv k → ∃ (fn : Nat) (fa fb : Array Value), fv = .func (.func fn) fa fb ∧ (∀ args w, (callFunc fn args).run Tryz.prog w = .ok (.enter fn args) w) ∧
  ∀ base g sv xs w left, Below W0.heap.size W0 w → W0.heap.size ≤ base → LineAt w base g sv xs → Pre xs left →
   Calls Tryz.prog fn (fa ++ (#[.pointer (some ⟨g, 0, none⟩), .int .i64 left] ++ fb)) w fun e w' => e = .returned (.tuple #[.int .i64 (F k left xs).2.1, .int .i64 (F k left xs).2.2]) ∧ LnTo w base g sv (F k left xs).1 w'
theorem drop_cons {α : Type} {l : List α} {i : Nat} {x : α} (h : l[i]? = some x) : l.drop i = x :: l.drop (i + 1) := by
 obtain ⟨hi, he⟩ := List.getElem?_eq_some_iff.1 h;rw [List.drop_eq_getElem_cons hi, he]
theorem subrun_any (F : WkF) (Pre : List Gl → Int → Prop) (hPn : ∀ xs left, Pre xs left → xs.length ≤ 1000000) (s : MSub) (d : Int) (fv : Value) (left : Int) (base g : Nat) (sv : Value) (xs : List Gl) (W0 w : World) (hk : WkDoes F Pre s.wk) (hw : WorkAt W0 fv s.wk)
  (hb0 : Below W0.heap.size W0 w) (hbase : W0.heap.size ≤ base) (hL : LineAt w base g sv xs) (hx : Pre xs left) (hr : Pre xs.reverse left) (hy : (runSub F d s left xs).1.length ≤ 4294967296) :
  Calls Tryz.prog 118 #[.agg #[.int .i64 (s.cover % 256), .bool (Cov.bitB s.cover 31), .bool (Cov.bitB s.cover 30), .bool (Cov.bitB s.cover 29), .bool (Cov.bitB s.cover 28), .int .u32 s.flags, fv], .pointer (some ⟨g, 0, none⟩), .int .i64 d, .int .i64 left] w
   fun e w' => e = .returned (.tuple #[.int .i64 (runSub F d s left xs).2.1, .int .i64 (runSub F d s left xs).2.2]) ∧ LnTo w base g sv (runSub F d s left xs).1 w' := by
 obtain ⟨fn, fa, fb, rfl, hcf, hrun⟩ := hk W0 fv hw;cases ht : turnedOf d s with
 | false =>
  have hR : runSub F d s left xs = F s.wk left xs := by unfold runSub; rw [ht]
  rw [hR];refine subrun_plain s.cover s.flags _ _ d left _ _ (fun w' => LnTo w base g sv (F s.wk left xs).1 w') w ht fn fa fb rfl hcf fun w' hb => ?_
  refine (hrun base g sv xs w' left (hb0.trans (hb.mono hb0.size)) hbase (hL.below hb) hx).mono ?_;rintro e w2 ⟨rfl, h2⟩;exact ⟨rfl, LnTo.behind hb h2⟩
 | true =>
  have hR : runSub F d s left xs = ((F s.wk left xs.reverse).1.reverse, (F s.wk left xs.reverse).2) := by unfold runSub; rw [ht]
  rw [hR] at hy ⊢;refine subrun_turned s.cover s.flags _ _ d left _ _ (F s.wk left xs.reverse).1 w ht base g sv xs hL rfl (hPn _ _ hx) (by simpa using hy) fn fa fb rfl hcf fun w' hto => ?_
  obtain ⟨sv2, h1, h2, h3⟩ := hto;have hlow := hL.low;refine (hrun base g sv2 xs.reverse w' left (h2.below hb0 (fun i hi => ?_) hb0.size) hbase h1 hr).mono ?_
  ·rcases hi with rfl | hi
   ·exact Nat.le_trans hbase (hL.blk_low _ (.inl rfl)).1
   ·exact Nat.le_trans hbase (hL.blk_low _ (.inr hi)).1
  rintro e w3 ⟨rfl, h4⟩;exact ⟨rfl, LnTo.step hL.lt h2 h3 h4⟩
def RunOk (F : WkF) (Pre : List Gl → Int → Prop) (d : Int) (T : List MChain) (fls : List Int) : Prop :=
 ∀ (i : Nat) (c : MChain) (fl : Int), T[i]? = some c → fls[i]? = some fl → ∀ s ∈ c.subs, asks fl d s = true →
  WkDoes F Pre s.wk ∧ ∀ xs left, Pre xs left → Pre xs.reverse left ∧ (runSub F d s left xs).1.length ≤ 4294967296 ∧ Pre (runSub F d s left xs).1 (wrap64 (left - (runSub F d s left xs).2.1))
theorem asks_false1 {fl d : Int} {s : MSub} (h : bits .and .u32 fl s.flags = 0) : asks fl d s = false := by unfold asks; rw [h]; rfl
theorem asks_false2 {fl d : Int} {s : MSub} (h : Cov.runsM (Cov.bitB s.cover 31) (Cov.bitB s.cover 29) d = false) : asks fl d s = false := by unfold asks; rw [h]; simp
theorem asks_true {fl d : Int} {s : MSub} (h1 : bits .and .u32 fl s.flags ≠ 0) (h : Cov.runsM (Cov.bitB s.cover 31) (Cov.bitB s.cover 29) d = true) : asks fl d s = true := by unfold asks; rw [h]; simpa using h1
theorem subsRun_no {F : WkF} {fl d : Int} {s : MSub} {l : List MSub} {k : Nat} {xs : List Gl} {left : Int} (h : asks fl d s = false) : subsRun F fl d (s :: l) k xs left = subsRun F fl d l (k + 1) xs left := by
 rw [subsRun, h]
theorem subsRun_yes {F : WkF} {fl d : Int} {s : MSub} {l : List MSub} {k : Nat} {xs : List Gl} {left : Int} (h : asks fl d s = true) : subsRun F fl d (s :: l) k xs left =
  if (runSub F d s left xs).2.2 = 0 then subsRun F fl d l (k + 1) (runSub F d s left xs).1 (wrap64 (left - (runSub F d s left xs).2.1))
   else ((runSub F d s left xs).1, wrap64 (left - (runSub F d s left xs).2.1), some ((runSub F d s left xs).2.2, k)) := by
 rw [subsRun, h]
theorem chainsRun_cons {F : WkF} {d : Int} {c : MChain} {fl : Int} {l : List (MChain × Int)} {i : Nat} {xs : List Gl} {left : Int} : chainsRun F d ((c, fl) :: l) i xs left =
  match subsRun F fl d c.subs 0 xs left with
  | (ys, left', none) => chainsRun F d l (i + 1) ys left'
  | (ys, _, some (e, k)) => (ys, some (e, i, k)) := by
 rw [chainsRun] <;> rfl
theorem lnTo_on {w w1 w2 : World} {base g : Nat} {sv : Value} {ys : List Gl} (h : LnTo w base g sv ys w1) (hb : Below w1.heap.size w1 w2) : LnTo w base g sv ys w2 := by
 obtain ⟨sv', h1, h2, h3⟩ := h;exact ⟨sv', h1.below hb, h2.on hb, h3⟩
theorem work_func {u : World} {fv : Value} {wk : WkD} (h : WorkAt u fv wk) : ∃ fn fa fb, fv = .func (.func fn) fa fb := by
 cases wk with
 | rear M => obtain ⟨_, ⟨_, h1, _⟩, _⟩ := h; exact ⟨_, _, _, h1⟩
 | ctx M => obtain ⟨_, ⟨_, h1, _⟩, _⟩ := h; exact ⟨_, _, _, h1⟩
 | lig M => obtain ⟨_, ⟨_, h1, _⟩, _⟩ := h; exact ⟨_, _, _, h1⟩
 | swap M => obtain ⟨_, ⟨_, h1, _⟩, _⟩ := h; exact ⟨_, _, _, h1⟩
 | ins M => obtain ⟨_, h1, _⟩ := h; exact ⟨_, _, _, h1⟩
 | none => obtain ⟨_, h1, _⟩ := h; exact ⟨_, _, _, h1⟩
theorem lnTo_box {w w3 w1 w2 : World} {base g FT : Nat} {sv : Value} {ys : List Gl} (hbw : Below w.heap.size w w3) (hsv : ∀ k, blk g sv k → k < FT) (hFT0 : w.heap.size ≤ FT) (hFT : FT < w3.heap.size) (h : LnTo w3 base g sv ys w1) (hm : Mod (fun k => k = FT) w1 w2) : LnTo w base g sv ys w2 := by
 obtain ⟨sv', h1, h2, h3⟩ := h;refine ⟨sv', h1.mod hm (fun k hk e => ?_), ((Mod.of_below (S := blk g sv) hbw).trans h2 (fun _ h _ => h)).trans hm (fun k hk hlt => by omega), fun k hk => (h3 k hk).imp id (Nat.le_trans hbw.size)⟩
 subst e;rcases hk with hk | hk
 ·have := hsv k (.inl hk); omega
 ·rcases h3 k hk with h | h
  ·have := hsv k (.inr h); omega
  ·omega
theorem results_cell1 {fn : Func} {p : Tmp} {ty : TypeId} (h : fn.results = #[.cell p ty]) (tmps : Array Value) (P : Program) (w : World) :
  (results fn tmps).run P w = ((asAddr (tmps.getD p undef)).run P w).andThen fun a w1 => ((loadVar ty a).run P w1).andThen fun v w2 => .ok v w2 := by
 simp only [results, h];simp [Sem.run_bind, Result.andThen];cases Sem.run P (asAddr (tmps[p]?.getD undef)) w with
 | ok a w => simp only; cases Sem.run P (loadVar ty a) w <;> rfl
 | halt h w => rfl
theorem setF {w : World} {b : Nat} {t : TypeId} {x0 x1 x2 : Value} (h : w.heap[b]? = some (.cells #[x0, x1, x2] t (0, 0))) (v0 v1 v2 : Value) : (((w.setCell ⟨b, 0, none⟩ v0).setCell ⟨b, 1, none⟩ v1).setCell ⟨b, 2, none⟩ v2).heap[b]? = some (.cells #[v0, v1, v2] t (0, 0)) := by
 have h1 := heap_set (i := 0) h v0;have h2 := heap_set (i := 1) h1 v1;have h3 := heap_set (i := 2) h2 v2;exact h3
theorem flagsOf_len (T : List MChain) (xs : List (Int × Int)) : (flagsOf T xs).length = T.length := by unfold flagsOf; rw [List.length_map]
set_option maxRecDepth 100000 in
set_option maxHeartbeats 16000000 in
theorem mrun_any (F : WkF) (Pre : List Gl → Int → Prop) (hPn : ∀ xs left, Pre xs left → xs.length ≤ 1000000) (v stv : Value) (T : List MChain) (ons : List (Int × Int)) (d left0 : Int) (base g : Nat) (sv : Value) (xs0 : List Gl) (W0 w : World)
  (h : MorxAt W0 v T) (hr : ∀ c ∈ T, c.rules.length ≤ 100000) (hTn : T.length ≤ 100000) (hsb : ∀ c ∈ T, c.subs.length ≤ 1000000) (hs : Row.Leads w stv ons.length (ons.flatMap Pk.setC)) (hp : ons.Pairwise (fun x y => Pk.ltP x y = true)) (hxn : ons.length ≤ 100000)
  (hb0 : Below W0.heap.size W0 w) (hbase : W0.heap.size ≤ base) (hL : LineAt w base g sv xs0) (hx : Pre xs0 left0) (hok : RunOk F Pre d T (flagsOf T ons)) :
  Calls Tryz.prog 70 #[v, .pointer (some ⟨g, 0, none⟩), stv, .int .i64 d, .int .i64 left0] w
   fun e w' => e = .returned (faultV (chainsRun F d (T.zip (flagsOf T ons)) 0 xs0 left0).2) ∧ LnTo w base g sv (chainsRun F d (T.zip (flagsOf T ons)) 0 xs0 left0).1 w' := by
 obtain ⟨r, hR⟩ : ∃ r, chainsRun F d (T.zip (flagsOf T ons)) 0 xs0 left0 = r := ⟨_, rfl⟩;obtain ⟨n, hn⟩ : ∃ n, T.length = n := ⟨_, rfl⟩;have HN := Bas.hid hn;have HR := Bas.hid hR;rw [hR];have kF := Bas.heap_new w (.cells #[.int .i64 0, .int .i64 0, .int .i64 0] 74);have hbF := (Below.refl w.heap.size w).alloc (Nat.le_refl _) (.cells #[.int .i64 0, .int .i64 0, .int .i64 0] 74);have HKF := Bas.hid kF;have HBF := Bas.hid hbF;have HFL := Bas.hid (mflags_any v stv T ons (w.alloc (.cells #[.int .i64 0, .int .i64 0, .int .i64 0] 74)) ((h.below hb0).below hbF) hr hTn (Row.leads_below hs hbF) hp hxn);obtain ⟨gt, vl, rs, rfl, hg, hrl, hvl, hlk⟩ := h;have g0 := cell_of_heap (i := 0) (v := vl) hg rfl;have lg := heap_lt hg;obtain ⟨al, cl, rfl⟩ := Row.leads_slice hvl;obtain ⟨as', cs, rfl⟩ := Row.leads_slice hs;have HVL := Bas.hid hvl;have HLK := Bas.hid hlk;have HRL := Bas.hid (hrl.trans hn);have HG := Bas.hid hg;have HLL := Bas.hid hL;have HOK := Bas.hid hok;have HX := Bas.hid hx;have HB0 := Bas.hid hb0;have HSB := Bas.hid hsb;have hTn2 : n ≤ 100000 := by omega
 obtain ⟨fls, hfls⟩ : ∃ fls, flagsOf T ons = fls := ⟨_, rfl⟩;have HFN : Hid (fls.length = n) := by unfold Hid; rw [← hfls, flagsOf_len, hn]
 rw [hfls] at HFL HR HOK;obtain ⟨FT, hFT⟩ : ∃ FT, w.heap.size = FT := ⟨_, rfl⟩;have HFT := Bas.hid hFT;have hszF : (w.alloc (.cells #[.int .i64 0, .int .i64 0, .int .i64 0] 74)).heap.size = FT + 1 := by rw [World.size_alloc, hFT]
 rw [hszF, hn] at HFL;rw [hFT] at HKF HBF;clear hr hs hn hb0 hL hx hok hR kF hbF hg hrl hvl hlk hfls hTn g0 lg hsb hp;go_enter Tryz.func70, Tryz.ntmps70
 go_wp2_with (fail);generalize (w.alloc (.cells #[.int .i64 0, .int .i64 0, .int .i64 0] 74)) = W1 at *;refine HFL.out.mono ?_;rintro e w3 ⟨hb3, v5, rfl, ho5⟩;have HB3 := Bas.hid (HBF.out.trans (hb3.mono (by omega)))
 have HKF3 := Bas.hid ((hb3.block _ (by omega)).trans HKF.out)
 have HO5 := Bas.hid ho5;obtain ⟨a5, c5, rfl⟩ := own_slice ho5;have hL3 := HLL.out.below (HFT.out.symm ▸ HB3.out);have HL3 := Bas.hid (LnTo.refl hL3);have HG3 : Hid (g < w3.heap.size) := hL3.lt;have hTB : ∀ i, blk g sv i → i < FT := fun i hi => by have := (HLL.out.blk_low i hi).2; rw [HFT.out] at this; exact this
 have HTB := Bas.hid hTB;have HBW3 : Hid (Below W0.heap.size W0 w3) := HB0.out.trans ((HFT.out.symm ▸ HB3.out : Below w.heap.size w w3).mono HB0.out.size);have HBLO : Hid (∀ i, blk g sv i → W0.heap.size ≤ i) := fun i hi => Nat.le_trans hbase (HLL.out.blk_low i hi).1
 have hW3 := HBW3.out.block _ (heap_lt HG.out);have g0 := cell_of_heap (i := 0) (v := .slice al T.length cl) (hW3.trans HG.out) rfl;have lg := heap_lt (hW3.trans HG.out);rw [HN.out] at g0;clear hb3 ho5 hL3 hTB hW3 hszF hFT HFL;go_wp2_with (fail);have HFR : Hid (∀ wr ys, LnTo w3 base g sv ys wr → Below W0.heap.size W0 wr ∧ wr.heap[FT]? = some (.cells #[.int .i64 0, .int .i64 0, .int .i64 0] 74 (0, 0)) ∧ wr.ownsRow (FT + 1) 88 1 (.slice a5 n c5) n (fls.map (Value.int .u32))) := fun wr ys hl => by
  obtain ⟨sv', h1, h2, h3⟩ := hl;exact ⟨h2.below HBW3.out HBLO.out HBW3.out.size, h2.heap HKF3.out (fun hk => by have := HTB.out _ hk; omega), h2.owned HO5.out (fun k hk hs => by have := HTB.out _ hs; have := (Row.own_block HO5.out hk).1; omega)⟩
 clear g0 lg;go_loopw [4, 26] (fun v4 vi wr => ∃ (i : Nat) (xs : List Gl) (left : Int), i ≤ n ∧ vi = .int .i64 i ∧ v4 = .int .i64 left ∧ LnTo w3 base g sv xs wr ∧ Pre xs left ∧ chainsRun F d ((T.zip fls).drop i) i xs left = r) (fun _ vi _ => n - (intOf vi).toNat)
 case atStart => exact ⟨0, xs0, left0, Nat.zero_le _, rfl, rfl, HL3.out, HX.out, HR.out⟩
 case round =>
  obtain ⟨i, xs, left, hi, rfl, rfl, hl, hpre, hrun⟩ := hrel;have HLN := Bas.hid hl;have HPRE := Bas.hid hpre;have HRUN := Bas.hid hrun;obtain ⟨hbw, hkf, ho⟩ := HFR.out wr xs hl;have HBWR := Bas.hid hbw;by_cases hin : i < n
  ·have e1 : decide ((i : Int) < (n : Int)) = true := by simp; omega
   have e2 : decide (i < n) = true := by simp; omega
   obtain ⟨⟨first, rules, subs⟩, hc⟩ : ∃ c, T[i]? = some c := ⟨_, List.getElem?_eq_getElem (by rw [HN.out]; exact hin)⟩
   obtain ⟨⟨vr, vs⟩, hri⟩ : ∃ r, rs[i]? = some r := ⟨_, List.getElem?_eq_getElem (by rw [HRL.out]; exact hin)⟩
   obtain ⟨fl, hfl⟩ : ∃ f, fls[i]? = some f := ⟨_, List.getElem?_eq_getElem (by rw [HFN.out]; exact hin)⟩
   have HOKi := Bas.hid (HOK.out i _ fl hc hfl);have hzip : (T.zip fls)[i]? = some ((⟨first, rules, subs⟩ : MChain), fl) := List.getElem?_zip_eq_some.2 ⟨hc, hfl⟩;rw [drop_cons hzip, chainsRun_cons] at hrun;have HRUN1 := Bas.hid hrun;obtain ⟨b, o, cp, hv, hcl⟩ := Row.leads_elem (x := ((⟨first, rules, subs⟩ : MChain), (vr, vs))) linkC_len (Row.leads_below HVL.out hbw) (List.getElem?_zip_eq_some.2 ⟨hc, hri⟩) (by omega)
   rw [HN.out] at hv;cases hv;have d0 := hcl 0 _ rfl;have d1 := hcl 1 _ rfl;have d2 := hcl 2 _ rfl;simp only [Nat.add_zero] at d0 d1 d2;have lb := World.block_lt_of_cell? _ _ d0;have hsbi := HSB.out _ (List.mem_of_getElem? hc);obtain ⟨hrul, fvs, hfvl, hsub, hwk⟩ := HLK.out i _ _ hc hri;simp only at hrul hsub hfvl hwk hsbi;obtain ⟨ar, cr, rfl⟩ := Row.leads_slice hrul;generalize rules.length = rl at *;obtain ⟨ab, cb, rfl⟩ := Row.leads_slice hsub;have HSUB := Bas.hid hsub;have HWK := Bas.hid hwk;obtain ⟨m, hm⟩ : ∃ m, subs.length = m := ⟨_, rfl⟩;have HM := Bas.hid hm;have HFV := Bas.hid (hfvl.trans hm);rw [hm] at d2 hsbi
   -- the flags' cell
   obtain ⟨bf, of', cf, hvf, hcf⟩ := Row.leads_elem (f := fun x : Int => [Value.int .u32 x]) (m := 1) (x := fl) (fun _ => rfl) (by rw [← List.map_eq_flatMap]; exact Row.leads_owned ho) hfl (by omega)
   cases hvf;have hFC : ∀ wr ys, LnTo w3 base g sv ys wr → wr.cell? ⟨bf, of' + i, none⟩ = some (.int .u32 fl) := fun wr ys hl => by
    obtain ⟨b2, o2, c2, hv2, hc2⟩ := Row.leads_elem (f := fun x : Int => [Value.int .u32 x]) (m := 1) (x := fl) (fun _ => rfl) (by rw [← List.map_eq_flatMap]; exact Row.leads_owned (HFR.out wr ys hl).2.2) hfl (by omega)
    cases hv2;have := hc2 0 _ rfl;simpa using this
   have HFC := Bas.hid hFC;have k7 := Bas.heap_new wr (.cells #[.int .u32 first, .slice ar rl cr, .slice ab m cb] 291);have hb7 := (Below.refl wr.heap.size wr).alloc (Nat.le_refl _) (.cells #[.int .u32 first, .slice ar rl cr, .slice ab m cb] 291);have HL7 := Bas.hid (lnTo_on HLN.out hb7);have q2 := cell_of_heap (i := 2) k7 rfl;have l7 := heap_lt k7;clear hrul hl hpre hrun hbw hkf ho hc hri hcl hsub hwk hm hfvl hcf hFC hfl hzip hb7;go_wp2_with (fail);generalize (wr.alloc (.cells #[.int .u32 first, .slice ar rl cr, .slice ab m cb] 291)) = W7 at *;clear q2 l7 d0 d1 d2 lb k7;go_loopw [4, 34] (fun v4 vj wq => ∃ (j : Nat) (ys : List Gl) (lf : Int), j ≤ m ∧ vj = .int .i64 j ∧ v4 = .int .i64 lf ∧ LnTo w3 base g sv ys wq ∧ Pre ys lf ∧ (match subsRun F fl d (subs.drop j) j ys lf with
    | (zs, left', none) => chainsRun F d ((T.zip fls).drop (i + 1)) (i + 1) zs left'
    | (zs, _, some (e, k)) => (zs, some (e, i, k))) = r) (fun _ vj _ => m - (intOf vj).toNat)
   case atStart => exact ⟨0, xs, left, Nat.zero_le _, rfl, rfl, HL7.out, HPRE.out, HRUN1.out⟩
   case round =>
    obtain ⟨j, ys, lf, hj, rfl, rfl, hl, hpre, hrun⟩ := hrel;have HLQ := Bas.hid hl;have HPQ := Bas.hid hpre;have HRQ := Bas.hid hrun;obtain ⟨hbw, hkf, ho⟩ := HFR.out wr ys hl;have HBQ := Bas.hid hbw;by_cases hjm : j < m
    ·have e3 : decide ((j : Int) < (m : Int)) = true := by simp; omega
     obtain ⟨⟨cover, sfl, wk⟩, hsj⟩ : ∃ x, subs[j]? = some x := ⟨_, List.getElem?_eq_getElem (by rw [HM.out]; exact hjm)⟩
     obtain ⟨fv, hfj⟩ : ∃ x, fvs[j]? = some x := ⟨_, List.getElem?_eq_getElem (by rw [HFV.out]; exact hjm)⟩
     obtain ⟨fn, fa, fb, hfv⟩ := work_func (HWK.out j _ fv hsj hfj);have hfv2 : fv = .func (.func fn) fa fb := hfv;subst hfv2;have HWKj := Bas.hid (HWK.out j _ _ hsj hfj);clear hfv;rw [drop_cons hsj] at hrun;have HRJ := Bas.hid hrun;have HOKj := Bas.hid (HOKi.out _ (List.mem_of_getElem? hsj));obtain ⟨b, o, cp, hv, hcl⟩ := Row.leads_elem (x := ((⟨cover, sfl, wk⟩ : MSub), .func (.func fn) fa fb)) mSubC_len (Row.leads_below HSUB.out hbw) (List.getElem?_zip_eq_some.2 ⟨hsj, hfj⟩) (by omega)
     rw [HM.out] at hv;cases hv;have d0 := hcl 0 _ rfl;have d1 := hcl 1 _ rfl;have d2 := hcl 2 _ rfl;have d3 := hcl 3 _ rfl;have d4 := hcl 4 _ rfl;have d5 := hcl 5 _ rfl;have d6 := hcl 6 _ rfl;simp only [Nat.add_zero] at d0 d1 d2 d3 d4 d5 d6;have lb := World.block_lt_of_cell? _ _ d0;have kS := Bas.heap_new wr (.cells #[.int .i64 (cover % 256), .bool (Cov.bitB cover 31), .bool (Cov.bitB cover 30), .bool (Cov.bitB cover 29), .bool (Cov.bitB cover 28), .int .u32 sfl, .func (.func fn) fa fb] 303);have hbS := (Below.refl wr.heap.size wr).alloc (Nat.le_refl _) (.cells #[.int .i64 (cover % 256), .bool (Cov.bitB cover 31), .bool (Cov.bitB cover 30), .bool (Cov.bitB cover 29), .bool (Cov.bitB cover 28), .int .u32 sfl, .func (.func fn) fa fb] 303);have HLS := Bas.hid (lnTo_on HLQ.out hbS);have HBS := Bas.hid (HBQ.out.trans (hbS.mono HBQ.out.size));have HKS := Bas.hid kS;clear hl hpre hrun hbw hkf ho hcl hsj hfj hbS kS;go_wp2_with (fail);generalize (wr.alloc (.cells #[.int .i64 (cover % 256), .bool (Cov.bitB cover 31), .bool (Cov.bitB cover 30), .bool (Cov.bitB cover 29), .bool (Cov.bitB cover 28), .int .u32 sfl, .func (.func fn) fa fb] 303)) = WS at *;obtain ⟨TS, hTS⟩ : ∃ TS, wr.heap.size = TS := ⟨_, rfl⟩;rw [hTS] at HKS ⊢;clear hTS d0 d1 d2 d3 d4 d5 d6 lb;have hfc := HFC.out WS ys HLS.out;obtain ⟨RI, RF, Ri, RF0, RFk, RFw⟩ := Pl.fam_of WS (fun u => u.cell? ⟨bf, of' + i, none⟩ = some (.int .u32 fl) ∧ u.heap[TS]? = some (.cells #[.int .i64 (cover % 256), .bool (Cov.bitB cover 31), .bool (Cov.bitB cover 30), .bool (Cov.bitB cover 29), .bool (Cov.bitB cover 28), .int .u32 sfl, .func (.func fn) fa fb] 303 (0, 0))) ⟨hfc, HKS.out⟩
     have RFH := Bas.hid RF0;have RhI : Nonempty RI := ⟨Ri⟩;have RFW := Bas.hid RFw;have z0 := fun i => (RFk i).1
     have z1 := fun i => cell_of_heap (i := 0) (v := .int .i64 (cover % 256)) (RFk i).2 rfl
     have z2 := fun i => cell_of_heap (i := 1) (v := .bool (Cov.bitB cover 31)) (RFk i).2 rfl
     have z3 := fun i => cell_of_heap (i := 2) (v := .bool (Cov.bitB cover 30)) (RFk i).2 rfl
     have z4 := fun i => cell_of_heap (i := 3) (v := .bool (Cov.bitB cover 29)) (RFk i).2 rfl
     have z5 := fun i => cell_of_heap (i := 4) (v := .bool (Cov.bitB cover 28)) (RFk i).2 rfl
     have z6 := fun i => cell_of_heap (i := 5) (v := .int .u32 sfl) (RFk i).2 rfl
     have lS := fun i => heap_lt (RFk i).2
     have lF := fun i => World.block_lt_of_cell? _ _ (RFk i).1
     clear RF0 RFw RFk hfc;obtain ⟨z, hz⟩ : ∃ z, bits .and .u32 fl sfl = z := ⟨_, rfl⟩;have HZ := Bas.hid hz;clear hz;by_cases hz0 : z = 0
     ·have hz1 : (z == 0) = true := by simpa using hz0
      have hz2 : bits .and .u32 fl sfl = 0 := by rw [HZ.out]; exact hz0
      have HNA := Bas.hid (asks_false1 (d := d) (s := ⟨cover, sfl, wk⟩) hz2);have hz3 : (bits .and .u32 fl sfl == 0) = true := by rw [hz2]; rfl
      have hz4 : decide (bits .and .u32 fl sfl = 0) = true := by rw [hz2]; rfl
      refine Pl.region_plan0 Ri [(true, 0), (true, 1), (true, 2), (true, 3), (true, 4), (true, 5), (true, 6), (true, 7), (true, 8), (true, 9), (true, 10), (true, 11), (false, 12), (true, 13), (true, 14)] [] (by kernel_rfl) (by kernel_rfl) (fun _ _ _ _ e h => ⟨e ▸ h.1, h.2⟩) RFH.out ?_
      refine Pl.head_sel0 [(true, 0), (true, 1), (true, 2), (true, 3), (true, 4), (true, 5), (true, 6), (true, 7), (true, 8), (true, 9), (true, 10), (true, 11)] (by kernel_rfl) (by kernel_rfl) ?_
      simp only [Pl.sel, List.drop_succ_cons, List.drop_zero];repeat (go_big_quiet_step (fail))
      refine wpQuiet_nil ?_;rw [← RFH.out];clear z0 z1 z2 z3 z4 z5 z6 lS lF;refine Pl.one_sel (by kernel_rfl) ?_
      intro Q' hQ' hP';simp only [Pl.sel, List.drop_succ_cons, List.drop_zero];go_wp2_with (fail);refine hQ' _ _ (fun _ _ => ⟨Ri, RFH.out⟩) ?_
      clear hQ' hP' Q' RFW;refine Pl.head_sel0 (rest := []) [(true, 13), (true, 14)] (by kernel_rfl) (by kernel_rfl) ?_
      simp only [Pl.sel, List.drop_succ_cons, List.drop_zero];repeat (go_big_quiet_step (fail))
      refine wpQuiet_nil ?_;simp only [Pl.walkM];have HLD := Bas.hid (lnTo_on HLS.out (Bas.below_drewN (Below.refl WS.heap.size WS) 1));have HRN : Hid (_ = r) := (by have h := HRJ.out; rw [subsRun_no HNA.out] at h; exact Bas.hid h)
      clear hz1 hz2 hz3 hz4 hz0;go_wp2_with (fail);go_roundw
      case rel => exact ⟨j + 1, ys, lf, by omega, by go_num, rfl, HLD.out, HPQ.out, HRN.out⟩
      case measure => simp [intOf]; omega
     ·have hz2 : bits .and .u32 fl sfl = z := HZ.out;have hz1 : (z == 0) = false := by simpa using hz0
      have hz4 : decide (z = 0) = false := by simpa using hz0
      have HNZ : Hid (bits .and .u32 fl sfl ≠ 0) := by unfold Hid; rw [hz2]; exact hz0
      refine Pl.region_plan0 Ri [(true, 0), (true, 1), (true, 2), (true, 3), (true, 4), (true, 5), (true, 6), (true, 7), (true, 8), (true, 9), (true, 10), (true, 11), (false, 12), (true, 13), (true, 14)] [] (by kernel_rfl) (by kernel_rfl) (fun _ _ _ _ e h => ⟨e ▸ h.1, h.2⟩) RFH.out ?_
      refine Pl.head_sel0 [(true, 0), (true, 1), (true, 2), (true, 3), (true, 4), (true, 5), (true, 6), (true, 7), (true, 8), (true, 9), (true, 10), (true, 11)] (by kernel_rfl) (by kernel_rfl) ?_
      simp only [Pl.sel, List.drop_succ_cons, List.drop_zero];repeat (go_big_quiet_step (fail))
      refine wpQuiet_nil ?_;rw [← RFH.out];clear z0 z1 z2 z3 z4 z5 z6 lS lF;refine Pl.one_sel (by kernel_rfl) ?_
      intro Q' hQ' hP';simp only [Pl.sel, List.drop_succ_cons, List.drop_zero];go_wp2_with (fail);refine (Cov.mruns_any _ _ _ _ _ _ _).mono ?_;rintro e w5 ⟨rfl, hb5⟩;have hbd5 : Below WS.heap.size WS w5 := (Bas.below_drewN (Below.refl WS.heap.size WS) 1).trans hb5;have HL5 := Bas.hid (lnTo_on HLS.out hbd5);have HK5 := Bas.hid ((hbd5.block _ (heap_lt HKS.out)).trans HKS.out);have hfc5 := HFC.out w5 ys HL5.out;clear hb5 hbd5;go_wp2_with (fail);refine hQ' _ _ (fun _ _ => RFW.out _ ⟨hfc5, HK5.out⟩) ?_
      clear hQ' hP' Q' RFW hfc5;obtain ⟨rb, hrb⟩ : ∃ rb, Cov.runsM (Cov.bitB cover 31) (Cov.bitB cover 29) d = rb := ⟨_, rfl⟩;have HRB := Bas.hid hrb;rw [hrb];clear hrb hz1 hz4 hz2 hz0;cases rb with
      | false =>
       refine Pl.head_sel0 (rest := []) [(true, 13), (true, 14)] (by kernel_rfl) (by kernel_rfl) ?_
       simp only [Pl.sel, List.drop_succ_cons, List.drop_zero];repeat (go_big_quiet_step (fail))
       refine wpQuiet_nil ?_;simp only [Pl.walkM];have HRN : Hid (_ = r) := (by have h := HRJ.out; rw [subsRun_no (asks_false2 HRB.out)] at h; exact Bas.hid h)
       go_wp2_with (fail);go_roundw
       case rel => exact ⟨j + 1, ys, lf, by omega, by go_num, rfl, HL5.out, HPQ.out, HRN.out⟩
       case measure => simp [intOf]; omega
      | true =>
       refine Pl.head_sel0 (rest := []) [(true, 13), (true, 14)] (by kernel_rfl) (by kernel_rfl) ?_
       simp only [Pl.sel, List.drop_succ_cons, List.drop_zero];repeat (go_big_quiet_step (fail))
       refine wpQuiet_nil ?_;simp only [Pl.walkM];have HAS := Bas.hid (asks_true (s := ⟨cover, sfl, wk⟩) HNZ.out HRB.out);obtain ⟨hdo, hkeep⟩ := HOKj.out HAS.out;obtain ⟨hk1, hk2, hk3⟩ := hkeep ys lf HPQ.out;have c0 := cell_of_heap (i := 0) (v := .int .i64 (cover % 256)) HK5.out rfl;have c1 := cell_of_heap (i := 1) (v := .bool (Cov.bitB cover 31)) HK5.out rfl;have c2 := cell_of_heap (i := 2) (v := .bool (Cov.bitB cover 30)) HK5.out rfl;have c3 := cell_of_heap (i := 3) (v := .bool (Cov.bitB cover 29)) HK5.out rfl;have c4 := cell_of_heap (i := 4) (v := .bool (Cov.bitB cover 28)) HK5.out rfl;have c5' := cell_of_heap (i := 5) (v := .int .u32 sfl) HK5.out rfl;have c6 := cell_of_heap (i := 6) (v := .func (.func fn) fa fb) HK5.out rfl;have l5 := heap_lt HK5.out;have HSR : Hid (Calls Tryz.prog 118 #[.agg #[.int .i64 (cover % 256), .bool (Cov.bitB cover 31), .bool (Cov.bitB cover 30), .bool (Cov.bitB cover 29), .bool (Cov.bitB cover 28), .int .u32 sfl, .func (.func fn) fa fb], .pointer (some ⟨g, 0, none⟩), .int .i64 d, .int .i64 lf] w5
        fun e w' => e = .returned (.tuple #[.int .i64 (runSub F d ⟨cover, sfl, wk⟩ lf ys).2.1, .int .i64 (runSub F d ⟨cover, sfl, wk⟩ lf ys).2.2]) ∧ LnTo w3 base g sv (runSub F d ⟨cover, sfl, wk⟩ lf ys).1 w') := by
        obtain ⟨sv', h1, h2, h3⟩ := id HL5.out;refine (subrun_any F Pre hPn ⟨cover, sfl, wk⟩ d (.func (.func fn) fa fb) lf base g sv' ys W0 w5 hdo HWKj.out (HFR.out w5 ys HL5.out).1 hbase h1 HPQ.out hk1 hk2).mono ?_;rintro e w' ⟨rfl, h4⟩;exact ⟨rfl, LnTo.step HG3.out h2 h3 h4⟩
       have HK3 := Bas.hid hk3;have HRN : Hid (_ = r) := (by have h := HRJ.out; rw [subsRun_yes HAS.out] at h; exact Bas.hid h)
       clear hdo hkeep hk1 hk2 hk3 HRJ HRQ HRUN1 HRUN;generalize runSub F d ⟨cover, sfl, wk⟩ lf ys = R at *;obtain ⟨zs, np, er⟩ := R;simp only at HSR HK3 HRN;go_wp2_with (fail);refine HSR.out.mono ?_;rintro e w7 ⟨rfl, hl7⟩;have HL7' := Bas.hid hl7;clear hl7 c0 c1 c2 c3 c4 c5' c6 l5;by_cases her : er = 0
       ·subst her;have HRN2 := HRN.out;rw [if_pos rfl] at HRN2;have HRN3 := Bas.hid HRN2;clear HRN2 HRN HSR;go_wp2_with (fail);go_roundw
        case rel => exact ⟨j + 1, zs, wrap64 (lf - np), by omega, by go_num, rfl, HL7'.out, HK3.out, HRN3.out⟩
        case measure => simp [intOf]; omega
       ·have HRN2 := HRN.out;rw [if_neg her] at HRN2;have HRN3 := Bas.hid HRN2;have her1 : (er == 0) = false := by simpa using her
        have her2 : decide (er = 0) = false := by simpa using her
        have kf7 := (HFR.out w7 zs HL7'.out).2.1;have q0 := cell_of_heap (i := 0) kf7 rfl;have q1 := cell_of_heap (i := 1) kf7 rfl;have q2 := cell_of_heap (i := 2) kf7 rfl;have p0 := free_of_heap (i := 0) kf7;have p1 := free_of_heap (i := 1) kf7;have p2 := free_of_heap (i := 2) kf7;have lf7 := heap_lt kf7;clear HRN2 HRN HSR;go_wp2_with (fail);clear q0 q1 q2 p0 p1 p2 lf7;have k8 := setF kf7 (.int .i64 er) (.int .i64 i) (.int .i64 j);have hHF := HFT.out;have hm8 : Mod (fun k => k = FT) w7 (((w7.setCell ⟨FT, 0, none⟩ (.int .i64 er)).setCell ⟨FT, 1, none⟩ (.int .i64 i)).setCell ⟨FT, 2, none⟩ (.int .i64 j)) := (((Mod.refl (fun k => k = FT) w7).set (b := FT) (o := 0) (.int .i64 er) (.inl rfl)).set (b := FT) (o := 1) (.int .i64 i) (.inl rfl)).set (b := FT) (o := 2) (.int .i64 j) (.inl rfl)
        have HL8 := Bas.hid (lnTo_box (HFT.out.symm ▸ HB3.out) HTB.out (Nat.le_of_eq HFT.out) (heap_lt HKF3.out) HL7'.out hm8);clear hm8 kf7;generalize (((w7.setCell ⟨FT, 0, none⟩ (.int .i64 er)).setCell ⟨FT, 1, none⟩ (.int .i64 i)).setCell ⟨FT, 2, none⟩ (.int .i64 j)) = w8 at *;have c0 := cell_of_heap (i := 0) k8 rfl;have c1 := cell_of_heap (i := 1) k8 rfl;have c2 := cell_of_heap (i := 2) k8 rfl;have hr : (zs, some (er, i, j)) = r := HRN3.out;refine bodyPost_ret (v := .agg #[.int .i64 er, .int .i64 i, .int .i64 j]) ?_ rfl ⟨by rw [← hr]; rfl, by rw [← hr]; exact HL8.out⟩
        rw [results_cell1 rfl]
        go_simp
    ·have e3 : decide ((j : Int) < (m : Int)) = false := by simp; omega
     have e4 : ¬ (j : Int) < (m : Int) := by omega
     have HRN : Hid (chainsRun F d ((T.zip fls).drop (i + 1)) (i + 1) ys lf = r) := by
      have h := HRQ.out;rw [List.drop_of_length_le (by rw [HM.out]; omega)] at h
      exact h
     clear hl hpre hrun hbw hkf ho;go_wp2_with (fail);go_roundw
     case rel => exact ⟨i + 1, ys, lf, by omega, by go_num, rfl, HLQ.out, HPQ.out, HRN.out⟩
     case measure => simp [intOf]; omega
  ·have e1 : decide ((i : Int) < (n : Int)) = false := by simp; omega
   have e2 : decide (i < n) = false := by simp; omega
   have e4 : ¬ (i : Int) < (n : Int) := by omega
   have HRN : Hid ((cleanL xs, none) = r) := by
    have h := HRUN.out;rw [List.drop_of_length_le (by rw [List.length_zip, HN.out, HFN.out]; omega)] at h
    exact h
   clear hl hpre hrun hbw hkf ho;have HCL : Hid (Calls Tryz.prog 119 #[.pointer (some ⟨g, 0, none⟩)] wr fun e w' => e = .returned (.tuple #[]) ∧ LnTo w3 base g sv (cleanL xs) w') := by
    obtain ⟨sv', h1, h2, h3⟩ := id HLN.out;refine (clean_any base g sv' xs wr h1 (by have := hPn _ _ HPRE.out; omega)).mono ?_
    rintro e w' ⟨rfl, h4⟩;exact ⟨rfl, LnTo.step HG3.out h2 h3 h4⟩
   go_wp2_with (fail);refine HCL.out.mono ?_;rintro e w7 ⟨rfl, hl7⟩;have HL7' := Bas.hid hl7;have kf7 := (HFR.out w7 _ hl7).2.1;have q0 := cell_of_heap (i := 0) kf7 rfl;have q1 := cell_of_heap (i := 1) kf7 rfl;have q2 := cell_of_heap (i := 2) kf7 rfl;have p0 := free_of_heap (i := 0) kf7;have p1 := free_of_heap (i := 1) kf7;have p2 := free_of_heap (i := 2) kf7;have lf7 := heap_lt kf7;clear hl7 HCL;go_wp2_with (fail);clear q0 q1 q2 p0 p1 p2 lf7;have k8 := setF kf7 (.int .i64 0) (.int .i64 0) (.int .i64 0);have hm8 : Mod (fun k => k = FT) w7 (((w7.setCell ⟨FT, 0, none⟩ (.int .i64 0)).setCell ⟨FT, 1, none⟩ (.int .i64 0)).setCell ⟨FT, 2, none⟩ (.int .i64 0)) := (((Mod.refl (fun k => k = FT) w7).set (b := FT) (o := 0) (.int .i64 0) (.inl rfl)).set (b := FT) (o := 1) (.int .i64 0) (.inl rfl)).set (b := FT) (o := 2) (.int .i64 0) (.inl rfl)
   have HL8 := Bas.hid (lnTo_box (HFT.out.symm ▸ HB3.out) HTB.out (Nat.le_of_eq HFT.out) (heap_lt HKF3.out) HL7'.out hm8);clear hm8 kf7;generalize (((w7.setCell ⟨FT, 0, none⟩ (.int .i64 0)).setCell ⟨FT, 1, none⟩ (.int .i64 0)).setCell ⟨FT, 2, none⟩ (.int .i64 0)) = w8 at *;have c0 := cell_of_heap (i := 0) k8 rfl;have c1 := cell_of_heap (i := 1) k8 rfl;have c2 := cell_of_heap (i := 2) k8 rfl;have hr := HRN.out;refine bodyPost_ret (v := .agg #[.int .i64 0, .int .i64 0, .int .i64 0]) ?_ rfl ⟨by rw [← hr]; rfl, by rw [← hr]; exact HL8.out⟩
   rw [results_cell1 rfl]
   go_simp
end Mx
namespace Tk
open Vw
theorem cell_of_heap {w : World} {b i : Nat} {cs : Array Value} {t : TypeId} {v : Value} (h : w.heap[b]? = some (.cells cs t (0, 0))) (hi : cs[i]? = some v) : w.cell? ⟨b, i, none⟩ = some v := by
 simp [World.cell?, h, hi]
theorem free_of_heap {w : World} {b i : Nat} {cs : Array Value} {t : TypeId} (h : w.heap[b]? = some (.cells cs t (0, 0))) : w.frozen? ⟨b, i, none⟩ = false := by
 simp [World.frozen?, h]
theorem heap_set {w : World} {b i : Nat} {cs : Array Value} {t : TypeId} (h : w.heap[b]? = some (.cells cs t (0, 0))) (v : Value) : (w.setCell ⟨b, i, none⟩ v).heap[b]? = some (.cells (cs.setIfInBounds i v) t (0, 0)) := by
 simp [World.setCell, Array.getElem?_modify, h]
theorem heap_lt {w : World} {b : Nat} {o : Obj} (h : w.heap[b]? = some o) : b < w.heap.size := (Array.getElem?_eq_some_iff.1 h).1
theorem leads_heap {w : World} {g n c : Nat} {cs : List Value} {t : TypeId} (h : w.heap[g]? = some (.cells cs.toArray t (0, 0))) : Row.Leads w (.slice (some ⟨g, 0, none⟩) n c) n cs :=
 .inr ⟨_, c, rfl, fun j u hu => by rw [Addr.add_lit, Nat.zero_add]; exact cell_of_heap h (by simpa using hu)⟩
theorem own_ty {w : World} {base : Nat} {v : Value} {n g size : Nat} {xs : List Value} {e t : TypeId} {cs : Array Value} (h : w.ownsRow base e size v n xs) (ho : w.heap[g]? = some (.cells cs t (0, 0))) (hne : e ≠ t) : v.ownBlock ≠ some g := by
 intro e';obtain ⟨_, ⟨rfl, _⟩ | ⟨g', cp, cur, rfl, _, hh, _⟩⟩ := h
 ·cases e'
 ·cases e';rw [hh] at ho;simp at ho;exact hne ho.2
structure TrackD where
 sizes : List Int
 vals : List Int
def TrkOwn (w : World) (base : Nat) (v1 v2 : Value) (t : TrackD) : Prop :=
 w.ownsRow base 3 1 v1 t.sizes.length (t.sizes.map (Value.int .i64)) ∧ w.ownsRow base 3 1 v2 t.vals.length (t.vals.map (Value.int .i64))
def TabOk (w : World) (base g : Nat) (t1 t2 : TrackD) : Prop :=
 base ≤ g ∧ ∃ a1 v1 a2 v2, w.heap[g]? = some (.cells #[a1, v1, a2, v2] 233 (0, 0)) ∧ TrkOwn w base a1 v1 t1 ∧ TrkOwn w base a2 v2 t2
def firstGE : List Int → Int → Nat
 | [], _ => 0
 | x :: l, s => if x < s then firstGE l s + 1 else 0
theorem firstGE_eq : ∀ (l : List Int) (s : Int) (k : Nat), k ≤ l.length → (∀ j, j < k → l.getD j 0 < s) → (k < l.length → s ≤ l.getD k 0) → firstGE l s = k
 | [], s, k, h, _, _ => by simp at h; subst h; rfl
 | x :: l, s, 0, _, _, h2 => by
  have : s ≤ x := by simpa using h2 (by simp)
  unfold firstGE; rw [if_neg (by omega)]
 | x :: l, s, k + 1, h, h1, h2 => by
  have h0 : x < s := by simpa using h1 0 (by omega)
  unfold firstGE; rw [if_pos h0, firstGE_eq l s k (by simpa using h) (fun j hj => by simpa using h1 (j + 1) (by omega)) (fun hk => by simpa using h2 (by simpa using hk))]
def atV (t : TrackD) (size : Int) : Int :=
 if t.vals.length = 0 then 0
 else if firstGE t.sizes size = 0 then t.vals.getD 0 0
 else if firstGE t.sizes size = t.vals.length then t.vals.getD (t.vals.length - 1) 0
 else t.vals.getD (firstGE t.sizes size - 1) 0 + ((t.vals.getD (firstGE t.sizes size) 0 - t.vals.getD (firstGE t.sizes size - 1) 0) * (size - t.sizes.getD (firstGE t.sizes size - 1) 0)) / (t.sizes.getD (firstGE t.sizes size) 0 - t.sizes.getD (firstGE t.sizes size - 1) 0)
def valueV (t : TrackD × TrackD) (direction size : Int) : Int := if direction = 2 then atV t.2 size else if direction = 0 ∨ direction = 1 then atV t.1 size else 0
structure TrkV (t : TrackD) : Prop where
 len : t.sizes.length = t.vals.length
 rise : ∀ i j, i < j → j < t.sizes.length → t.sizes.getD i 0 < t.sizes.getD j 0
 sb : ∀ i, -2147483648 ≤ t.sizes.getD i 0 ∧ t.sizes.getD i 0 ≤ 2147483647
 vb : ∀ i, -32768 ≤ t.vals.getD i 0 ∧ t.vals.getD i 0 ≤ 32767
 few : t.vals.length ≤ 65535
theorem tdiv_down (a b : Int) (hb : 0 < b) (h : Int.tmod a b < 0) : Int.tdiv a b - 1 = a / b := by
 have h1 := Int.mul_tdiv_add_tmod a b;have h2 := Int.mul_ediv_add_emod a b;have h3 := Int.emod_nonneg a (Int.ne_of_gt hb);have h4 := Int.emod_lt_of_pos a hb;have h5 := Int.lt_tmod_of_pos a hb;generalize a / b = q at *;generalize Int.tdiv a b = t at *;generalize a % b = r at *;generalize Int.tmod a b = s at *;have e : b * (t - q) = r - s := by rw [Int.mul_sub]; omega
 have hq : t - q = 1 := by
  rcases Int.lt_trichotomy (t - q) 1 with h | h | h
  ·have : b * (t - q) ≤ b * 0 := Int.mul_le_mul_of_nonneg_left (by omega) (by omega)
   omega
  ·exact h
  ·have : b * 2 ≤ b * (t - q) := Int.mul_le_mul_of_nonneg_left (by omega) (by omega)
   omega
 omega
theorem tdiv_even (a b : Int) (hb : 0 < b) (h : ¬ Int.tmod a b < 0) : Int.tdiv a b = a / b := by
 have h1 := Int.mul_tdiv_add_tmod a b;have h2 := Int.mul_ediv_add_emod a b;have h3 := Int.emod_nonneg a (Int.ne_of_gt hb);have h4 := Int.emod_lt_of_pos a hb;have h5 := Int.tmod_lt_of_pos a hb;generalize a / b = q at *;generalize Int.tdiv a b = t at *;generalize a % b = r at *;generalize Int.tmod a b = s at *;have e : b * (t - q) = r - s := by rw [Int.mul_sub]; omega
 rcases Int.lt_trichotomy (t - q) 0 with h | h | h
 ·have : b * (t - q) ≤ b * (-1) := Int.mul_le_mul_of_nonneg_left (by omega) (by omega)
  omega
 ·omega
 ·have : b * 1 ≤ b * (t - q) := Int.mul_le_mul_of_nonneg_left (by omega) (by omega)
  omega
set_option maxHeartbeats 1000000 in
theorem floor_ok (x y : Int) (w : World) (hx : -1152921504606846976 ≤ x ∧ x ≤ 1152921504606846976) (hy : 0 < y ∧ y ≤ 1152921504606846976) :
  Calls Tryz.prog 186 #[.int .i64 x, .int .i64 y] w fun e w' => e = .returned (.int .i64 (x / y)) ∧ w = w' := by
 have h0 : (y == 0) = false := by simp; omega
 have hb : -1152921504606846976 ≤ Int.tdiv x y ∧ Int.tdiv x y ≤ 1152921504606846976 := by
  have := Int.natAbs_tdiv_le_natAbs x y;omega
 have hm : -1152921504606846976 ≤ Int.tmod x y ∧ Int.tmod x y ≤ 1152921504606846976 := by
  have := Int.lt_tmod_of_pos x hy.1;have := Int.tmod_lt_of_pos x hy.1;omega
 by_cases hn : Int.tmod x y < 0
 ·have hd := Bas.hid (tdiv_down x y hy.1 hn);have hnb : decide (Int.tmod x y < 0) = true := by simpa using hn
  go_enter Tryz.func186, Tryz.ntmps186
  go_wp2_with (fail);go_ret;exact ⟨by rw [hd.out]; rfl, rfl⟩
 ·have hd := Bas.hid (tdiv_even x y hy.1 hn);have hnb : decide (Int.tmod x y < 0) = false := by simpa using hn
  go_enter Tryz.func186, Tryz.ntmps186
  go_wp2_with (fail);go_ret;exact ⟨by rw [hd.out]; rfl, rfl⟩
theorem leads_cell {w : World} {base : Nat} {v : Value} {l : List Int} (h : w.ownsRow base 3 1 v l.length (l.map (Value.int .i64))) :
  ∃ ad cp, v = .slice ad l.length cp ∧ ∀ j, j < l.length → ∃ G, ad = some ⟨G, 0, none⟩ ∧ G < w.heap.size ∧ w.cell? ⟨G, j, none⟩ = some (.int .i64 (l.getD j 0)) := by
 rcases Row.owned_parts h with ⟨h1, h2, _⟩ | ⟨G, cp, h1, _, hG, _, _, hc, _⟩
 ·rw [h2]; exact ⟨_, _, h1, fun j hj => by omega⟩
 ·exact ⟨_, _, h1, fun j hj => ⟨G, rfl, hG, hc j _ (by rw [List.getElem?_map, List.getElem?_eq_getElem hj, List.getD_eq_getElem?_getD, List.getElem?_eq_getElem hj]; rfl)⟩⟩
set_option maxHeartbeats 2000000 in
theorem at1_ok (b1 b2 : Nat) (v2 : Value) (G n cp : Nat) (x size : Int) (j : Nat) (w : World) (hj : j < n) (_hn : n ≤ 65535)
  (h1 : w.heap[b1]? = some (.cells #[.slice (some ⟨G, 0, none⟩) n cp, v2] 231 (0, 0))) (h2 : w.heap[b2]? = some (.cells #[.int .i64 size] 3 (0, 0))) (hG : G < w.heap.size) (hc : w.cell? ⟨G, j, none⟩ = some (.int .i64 x)) :
  Calls Tryz.prog 185 #[.int .i64 j, .pointer (some ⟨b1, 0, none⟩), .pointer (some ⟨b2, 0, none⟩)] w fun e w' => e = .returned (.bool (decide (size ≤ x))) ∧ Below w.heap.size w w' := by
 have HBR := Bas.hid (Below.refl w.heap.size w);go_enter Tryz.func185, Tryz.ntmps185
 go_wp2_with (fail);refine' Pl.region_v0 12 [] [0, 1, 2, 3, 4, 5, 6, 7] [] _ (by kernel_rfl) (by kernel_rfl) (by simp) (fun _ _ _ _ e h => ⟨e ▸ h.1, h.2⟩) ?_ ?_
 rotate_left
 ·intro I F hI hF;simp only [Pl.selN, List.nil_append, List.drop_succ_cons, List.drop_zero];have x1 := fun i => hF.cell (heap_lt h1) (cell_of_heap (i := 0) (v := .slice (some ⟨G, 0, none⟩) n cp) h1 rfl) i
  have x2 := fun i => hF.cell (heap_lt h2) (cell_of_heap (i := 0) (v := .int .i64 size) h2 rfl) i
  have x3 := fun i => hF.cell hG hc i
  repeat (go_big_quiet_step (fail))
  refine wpQuiet_nil ?_;rfl
 intro u hu;simp only [Pl.selN];have HB := Bas.hid (HBR.out.trans hu);clear hu HBR;go_wp2_with (fail);go_ret;exact ⟨rfl, HB.out⟩
def AtR (W : World) (S : Nat → Int) (size : Int) (n : Nat) (lo hi : Nat) (wr : World) : Prop := Below W.heap.size W wr ∧ (∀ j, j < lo → S j < size) ∧ ∀ j, hi ≤ j → j < n → size ≤ S j
def atK (S V : Nat → Int) (size : Int) (n k : Nat) : Int :=
 if n = 0 then 0 else if k = 0 then V 0 else if k = n then V (n - 1) else V (k - 1) + (V k - V (k - 1)) * (size - S (k - 1)) / (S k - S (k - 1))
def AtP (w : World) (S V : Nat → Int) (size : Int) (n : Nat) (e : Ending) (w' : World) : Prop :=
 ∃ k, k ≤ n ∧ (∀ j, j < k → S j < size) ∧ (∀ j, k ≤ j → j < n → size ≤ S j) ∧ e = .returned (.int .i64 (atK S V size n k)) ∧ Below w.heap.size w w'
theorem mul_bd (x y : Int) (hx : -65535 ≤ x ∧ x ≤ 65535) (hy : 0 ≤ y ∧ y ≤ 4294967295) : -281474976710656 ≤ x * y ∧ x * y ≤ 281474976710656 := by
 have h1 : x * y ≤ 65535 * y := Int.mul_le_mul_of_nonneg_right hx.2 hy.1;have h2 : -65535 * y ≤ x * y := Int.mul_le_mul_of_nonneg_right hx.1 hy.1;omega
set_option maxRecDepth 100000 in
set_option maxHeartbeats 4000000 in
theorem at_zero (v1 v2 : Option Addr) (S V : Nat → Int) (size : Int) (w : World) (c1 c2 : Nat) :
  Calls Tryz.prog 124 #[.agg #[.slice v1 0 c1, .slice v2 0 c2], .int .i64 size] w (AtP w S V size 0) := by
 have hmf : ∀ (fn : Fn) (first cap : Array Value) (w : World), (Instr.makeFunc fn first cap).run Tryz.prog w = .ok (.func fn first cap) w := fun _ _ _ _ => rfl
 have hcf : ∀ args w, (callFunc 185 args).run Tryz.prog w = .ok (.enter 185 args) w := fun args w => by simp [go_sem]
 have HCF := Bas.hid hcf;clear hcf;go_enter Tryz.func124, Tryz.ntmps124
 go_wp2_with (fail);have HB0 := Bas.hid (((Below.refl w.heap.size w).alloc (Nat.le_refl _) (.cells #[.slice v1 0 c1, .slice v2 0 c2] 231)).alloc (by simp) (.cells #[.int .i64 size] 3))
 generalize (w.alloc (.cells #[.slice v1 0 c1, .slice v2 0 c2] 231)).alloc (.cells #[.int .i64 size] 3) = W at *;refine (Sk.first_any _ _ (AtR W S size 0) 0 _ (by omega) HCF.out (fun lo hi w h1 h2 => by omega) ⟨Below.refl _ _, fun j h => by omega, fun j _ h => by omega⟩).mono ?_
 rintro e w2 ⟨k, hk, rfl, hb, _, _⟩;obtain rfl : k = 0 := by omega
 have HB := Bas.hid (HB0.out.trans (hb.mono HB0.out.size));clear hb HB0 hk;go_wp2_with (fail);go_ret;exact ⟨0, Nat.le_refl _, fun j h => by omega, fun j _ h => by omega, rfl, HB.out⟩
set_option maxRecDepth 100000 in
set_option maxHeartbeats 8000000 in
theorem at_core (n G1 G2 c1 c2 : Nat) (S V : Nat → Int) (size : Int) (w : World) (hn0 : 0 < n) (hn : n ≤ 65535) (hsz : -2147483648 ≤ size ∧ size ≤ 2147483647) (hG1 : G1 < w.heap.size) (hG2 : G2 < w.heap.size)
  (hS : ∀ j, j < n → w.cell? ⟨G1, j, none⟩ = some (.int .i64 (S j))) (hV : ∀ j, j < n → w.cell? ⟨G2, j, none⟩ = some (.int .i64 (V j)))
  (hrise : ∀ i j, i < j → j < n → S i < S j) (hsb : ∀ i, -2147483648 ≤ S i ∧ S i ≤ 2147483647) (hvb : ∀ i, -32768 ≤ V i ∧ V i ≤ 32767) :
  Calls Tryz.prog 124 #[.agg #[.slice (some ⟨G1, 0, none⟩) n c1, .slice (some ⟨G2, 0, none⟩) n c2], .int .i64 size] w (AtP w S V size n) := by
 have hmf : ∀ (fn : Fn) (first cap : Array Value) (w : World), (Instr.makeFunc fn first cap).run Tryz.prog w = .ok (.func fn first cap) w := fun _ _ _ _ => rfl
 have hcf : ∀ args w, (callFunc 185 args).run Tryz.prog w = .ok (.enter 185 args) w := fun args w => by simp [go_sem]
 have HCF := Bas.hid hcf;clear hcf;have HS := Bas.hid hS;have HV := Bas.hid hV;have HR := Bas.hid hrise;have HSB := Bas.hid hsb;have HVB := Bas.hid hvb;clear hS hV hrise hsb hvb;go_enter Tryz.func124, Tryz.ntmps124
 go_wp2_with (fail);have HB0 := Bas.hid (((Below.refl w.heap.size w).alloc (Nat.le_refl _) (.cells #[.slice (some ⟨G1, 0, none⟩) n c1, .slice (some ⟨G2, 0, none⟩) n c2] 231)).alloc (by simp) (.cells #[.int .i64 size] 3))
 have k1 : ((w.alloc (.cells #[.slice (some ⟨G1, 0, none⟩) n c1, .slice (some ⟨G2, 0, none⟩) n c2] 231)).alloc (.cells #[.int .i64 size] 3)).heap[w.heap.size]? = some (.cells #[.slice (some ⟨G1, 0, none⟩) n c1, .slice (some ⟨G2, 0, none⟩) n c2] 231 (0, 0)) := by
  rw [Below.heap_alloc _ _ _ (by simp)]; exact Bas.heap_new _ _
 have k2 := Bas.heap_new2 w (.cells #[.slice (some ⟨G1, 0, none⟩) n c1, .slice (some ⟨G2, 0, none⟩) n c2] 231) (.cells #[.int .i64 size] 3);generalize (w.alloc (.cells #[.slice (some ⟨G1, 0, none⟩) n c1, .slice (some ⟨G2, 0, none⟩) n c2] 231)).alloc (.cells #[.int .i64 size] 3) = W at *;have hWs := HB0.out.size;have hcS : ∀ wr, Below W.heap.size W wr → ∀ j, j < n → wr.cell? ⟨G1, j, none⟩ = some (.int .i64 (S j)) := fun wr hb j hj =>
  ((HB0.out.trans (hb.mono hWs)).cell (p := ⟨G1, j, none⟩) hG1).trans (HS.out j hj)
 have hcV : ∀ wr, Below W.heap.size W wr → ∀ j, j < n → wr.cell? ⟨G2, j, none⟩ = some (.int .i64 (V j)) := fun wr hb j hj =>
  ((HB0.out.trans (hb.mono hWs)).cell (p := ⟨G2, j, none⟩) hG2).trans (HV.out j hj)
 refine (Sk.first_any _ #[.pointer (some ⟨w.heap.size, 0, none⟩), .pointer (some ⟨w.heap.size + 1, 0, none⟩)] (AtR W S size n) n _ (by omega) HCF.out ?_ ⟨Below.refl _ _, fun j h => by omega, fun j h h' => by omega⟩).mono ?_
 ·rintro lo hi wr hlt hhi ⟨hb, hA, hB⟩;have hm : lo + (hi - lo) / 2 < hi ∧ lo ≤ lo + (hi - lo) / 2 := by omega
  generalize lo + (hi - lo) / 2 = mid at hm ⊢;refine (at1_ok w.heap.size (w.heap.size + 1) (.slice (some ⟨G2, 0, none⟩) n c2) G1 n c1 (S mid) size mid wr (by omega) hn ((hb.block _ (heap_lt k1)).trans k1) ((hb.block _ (heap_lt k2)).trans k2) (by have := hb.size; omega) (hcS wr hb mid (by omega))).mono ?_
  rintro e w' ⟨rfl, hb'⟩;have hbb := hb.trans (hb'.mono hb.size);refine ⟨_, rfl, ?_⟩;by_cases hx : size ≤ S mid
  ·refine .inl ⟨by simpa using hx, hbb, hA, fun j h1 h2 => ?_⟩
   by_cases hj : mid = j
   ·subst hj; exact hx
   ·have := HR.out mid j (by omega) h2; omega
  ·refine .inr ⟨by simpa using hx, hbb, fun j h1 => ?_, hB⟩
   by_cases hj : j = mid
   ·subst hj; omega
   ·have := HR.out j mid (by omega) (by omega); omega
 rintro e w2 ⟨k, hk, rfl, hb, hA, hB⟩;have HA := Bas.hid hA;have HBB := Bas.hid hB;have HB := Bas.hid (HB0.out.trans (hb.mono hWs));have m1 := (hb.block _ (heap_lt k1)).trans k1;have m2 := (hb.block _ (heap_lt k2)).trans k2;have hG1' : G1 < w2.heap.size := by have := hb.size; omega
 have hG2' : G2 < w2.heap.size := by have := hb.size; omega
 have HCS := Bas.hid (hcS w2 hb);have HCV := Bas.hid (hcV w2 hb);have cx := cell_of_heap (i := 0) (v := .slice (some ⟨G1, 0, none⟩) n c1) m1 rfl;have cy := cell_of_heap (i := 1) (v := .slice (some ⟨G2, 0, none⟩) n c2) m1 rfl;have cz := cell_of_heap (i := 0) (v := .int .i64 size) m2 rfl;have hnz : ((n : Int) == 0) = false := by simp; omega
 clear hA hB hb hcS hcV HB0 hWs k1 k2 HS HV HCF hmf hG1 hG2;by_cases hk0 : k = 0
 ·have hkb : ((k : Int) == 0) = true := by simp; omega
  have cv := HCV.out 0 (by omega)
  have HK : Hid (atK S V size n k = V 0) := by unfold Hid atK; rw [if_neg (by omega), if_pos hk0]
  clear hk0;go_wp2_with (fail);go_ret;exact ⟨k, hk, HA.out, HBB.out, by rw [HK.out]; rfl, HB.out⟩
 ·have hkb : ((k : Int) == 0) = false := by simp; omega
  by_cases hkn : k = n
  ·have hkc : ((k : Int) == (n : Int)) = true := by simp; omega
   obtain ⟨m, hm⟩ : ∃ m, n = m + 1 := ⟨n - 1, by omega⟩
   have em : (n : Int) - 1 = (m : Int) := by omega
   have cv := HCV.out m (by omega)
   have hmn : m < n := by omega
   have HK : Hid (atK S V size n k = V m) := by unfold Hid atK; rw [if_neg (by omega), if_neg hk0, if_pos hkn, hm]; rfl
   clear hk0 hkn hm;go_wp2_with (fail);go_ret;exact ⟨k, hk, HA.out, HBB.out, by rw [HK.out]; rfl, HB.out⟩
  ·have hkc : ((k : Int) == (n : Int)) = false := by simp; omega
   obtain ⟨m, hm⟩ : ∃ m, k = m + 1 := ⟨k - 1, by omega⟩
   have em : (k : Int) - 1 = (m : Int) := by omega
   have hkn' : k < n := by omega
   have hmn : m < n := by omega
   have cv1 := HCV.out m hmn;have cv2 := HCV.out k hkn';have cs1 := HCS.out m hmn;have cs2 := HCS.out k hkn';have q1 := HSB.out m;have q2 := HSB.out k;have q3 := HVB.out m;have q4 := HVB.out k;have q5 := HR.out m k (by omega) hkn'
   have q6 := HA.out m (by omega)
   have q7 := HBB.out k (Nat.le_refl _) hkn';have q8 := mul_bd (V k - V m) (size - S m) (by omega) (by omega)
   have q9 : -65535 ≤ (V k - V m) * (size - S m) / (S k - S m) ∧ (V k - V m) * (size - S m) / (S k - S m) ≤ 65535 := by
    have hp : 0 < S k - S m := by omega
    constructor
    ·refine (Int.le_ediv_iff_mul_le hp).2 ?_;rcases Int.le_total 0 (V k - V m) with h | h
     ·have := Int.mul_nonneg h (show 0 ≤ size - S m by omega); omega
     ·have h1 : (V k - V m) * (S k - S m) ≤ (V k - V m) * (size - S m) := Int.mul_le_mul_of_nonpos_left h (by omega)
      have h2 : -65535 * (S k - S m) ≤ (V k - V m) * (S k - S m) := Int.mul_le_mul_of_nonneg_right (by omega) (by omega)
      omega
    ·refine Int.le_of_lt_add_one (Int.ediv_lt_of_lt_mul hp ?_);rcases Int.le_total 0 (V k - V m) with h | h
     ·have h1 : (V k - V m) * (size - S m) ≤ (V k - V m) * (S k - S m) := Int.mul_le_mul_of_nonneg_left (by omega) h
      have h2 : (V k - V m) * (S k - S m) ≤ 65535 * (S k - S m) := Int.mul_le_mul_of_nonneg_right (by omega) (by omega)
      omega
     ·have := Int.mul_nonneg (show 0 ≤ -(V k - V m) by omega) (show 0 ≤ size - S m by omega)
      rw [Int.neg_mul] at this;omega
   have HK : Hid (atK S V size n k = V m + (V k - V m) * (size - S m) / (S k - S m)) := by unfold Hid atK; rw [if_neg (by omega), if_neg hk0, if_neg hkn, show k - 1 = m by omega]
   have HF := Bas.hid (fun w' => floor_ok ((V k - V m) * (size - S m)) (S k - S m) w' (by omega) (by omega))
   generalize hqq : (V k - V m) * (size - S m) / (S k - S m) = qq at *;generalize S k = sk at *;generalize S m = sm at *;generalize V k = vk at *;generalize V m = vm at *;clear hk0 hkn hm HCV HCS HSB HVB HR hqq;go_wp2_with (fail);refine' Pl.region_v0 73 [] [0, 1, 2, 3, 4, 5, 6, 7, 8, 9, 10, 11, 12] [] _ (by kernel_rfl) (by kernel_rfl) (by simp) (fun _ _ _ _ e h => ⟨e ▸ h.1, h.2⟩) ?_ ?_
   rotate_left
   ·intro I F hI hF;simp only [Pl.selN, List.nil_append, List.drop_succ_cons, List.drop_zero];have x1 := fun i => hF.cell (heap_lt m1) cx i
    have x3 := fun i => hF.cell hG1' cs1 i
    have x4 := fun i => hF.cell hG1' cs2 i
    repeat (go_big_quiet_step (fail))
    refine wpQuiet_nil ?_;rfl
   intro u hu;simp only [Pl.selN];have HBU := Bas.hid (HB.out.trans (hu.mono HB.out.size));have x1 := (hu.cell (p := ⟨w.heap.size, 1, none⟩) (heap_lt m1)).trans cy;have x2 := (hu.cell (p := ⟨w.heap.size + 1, 0, none⟩) (heap_lt m2)).trans cz;have x3 := (hu.cell (p := ⟨G2, m, none⟩) hG2').trans cv1;have x4 := (hu.cell (p := ⟨G2, k, none⟩) hG2').trans cv2;have l1 : w.heap.size < u.heap.size := Nat.lt_of_lt_of_le (heap_lt m1) hu.size;have l2 : w.heap.size + 1 < u.heap.size := Nat.lt_of_lt_of_le (heap_lt m2) hu.size;have l3 : G2 < u.heap.size := Nat.lt_of_lt_of_le hG2' hu.size;clear hu cs1 cs2 cx cy cz cv1 cv2 HB hG1' m1 m2 hG2';go_wp2_with (fail);refine' Pl.region_v1 73 [] [0, 1, 2, 3, 4, 5, 6, 7, 8, 9, 10, 11, 12, 13, 14, 15, 16, 17, 18, 19, 20, 21, 22, 23, 24] 25 71 [26, 27] _ (fun v u' => v = .int .i64 qq) (by kernel_rfl) (by kernel_rfl) (by simp) (fun _ _ _ _ e h => ⟨e ▸ h.1, h.2⟩) ?_ ?_ ?_ ?_
   rotate_left
   ·intro I F hI hF;simp only [Pl.selN, List.nil_append, List.drop_succ_cons, List.drop_zero];have y1 := fun i => hF.cell l1 x1 i
    have y2 := fun i => hF.cell l2 x2 i
    have y3 := fun i => hF.cell l3 x3 i
    have y4 := fun i => hF.cell l3 x4 i
    repeat (go_big_quiet_step (fail))
    refine wpQuiet_nil ?_;rfl
   ·exact fun _ _ _ h _ _ => h
   ·simp only [Pl.selN, List.drop_succ_cons, List.drop_zero, List.mem_singleton, forall_eq];intro u' hu
    go_simp
    simp only [Pl.valsAt];refine (HF.out u').mono ?_;rintro e w'' ⟨rfl, rfl⟩;exact .inl ⟨_, rfl, Below.refl _ _, rfl⟩
   intro v u2 hu hv;subst hv;simp only [Pl.selN, List.drop_succ_cons, List.drop_zero, Act.put, List.setIfInBounds_toArray, List.set_cons_zero, List.set_cons_succ];have HBX := Bas.hid (HBU.out.trans (hu.mono HBU.out.size));clear hu x1 x2 x3 x4 HBU;go_wp2_with (fail);go_ret;exact ⟨k, hk, HA.out, HBB.out, by rw [HK.out]; rfl, HBX.out⟩
theorem atK_atV (t : TrackD) (hV : TrkV t) (size : Int) (k : Nat) (hk : k ≤ t.vals.length) (hA : ∀ j, j < k → t.sizes.getD j 0 < size) (hB : ∀ j, k ≤ j → j < t.vals.length → size ≤ t.sizes.getD j 0) :
  atK (fun i => t.sizes.getD i 0) (fun i => t.vals.getD i 0) size t.vals.length k = atV t size := by
 have hf : firstGE t.sizes size = k := firstGE_eq _ _ _ (by rw [hV.len]; exact hk) hA (fun h => hB k (Nat.le_refl _) (by rw [← hV.len]; exact h))
 unfold atK atV;rw [hf]
theorem at_any (t : TrackD) (v1 v2 : Value) (base : Nat) (size : Int) (w : World) (ho : TrkOwn w base v1 v2 t) (hV : TrkV t) (hsz : -2147483648 ≤ size ∧ size ≤ 2147483647) :
  Calls Tryz.prog 124 #[.agg #[v1, v2], .int .i64 size] w fun e w' => e = .returned (.int .i64 (atV t size)) ∧ Below w.heap.size w w' := by
 obtain ⟨ad1, c1, rfl, h1⟩ := leads_cell ho.1;obtain ⟨ad2, c2, rfl, h2⟩ := leads_cell ho.2;have hl := hV.len;rw [hl] at h1 ⊢;rcases Nat.eq_zero_or_pos t.vals.length with h0 | h0
 ·have hk0 := atK_atV t hV size 0 (Nat.zero_le _) (fun j h => by omega) (fun j _ h => by omega)
  rw [h0] at hk0 ⊢;refine (at_zero ad1 ad2 (fun i => t.sizes.getD i 0) (fun i => t.vals.getD i 0) size w c1 c2).mono ?_
  rintro e w' ⟨k, hk, hA, hB, rfl, hb⟩;obtain rfl : k = 0 := by omega
  exact ⟨by rw [hk0], hb⟩
 ·obtain ⟨G1, rfl, hG1, _⟩ := h1 0 h0;obtain ⟨G2, rfl, hG2, _⟩ := h2 0 h0;refine (at_core t.vals.length G1 G2 c1 c2 (fun i => t.sizes.getD i 0) (fun i => t.vals.getD i 0) size w h0 hV.few hsz hG1 hG2 (fun j hj => ?_) (fun j hj => ?_) (fun i j hij hj => hV.rise i j hij (by rw [hl]; exact hj)) hV.sb hV.vb).mono ?_
  ·obtain ⟨G, e, _, h⟩ := h1 j hj; cases e; exact h
  ·obtain ⟨G, e, _, h⟩ := h2 j hj; cases e; exact h
  ·rintro e w' ⟨k, hk, hA, hB, rfl, hb⟩;exact ⟨by rw [atK_atV t hV size k hk hA hB], hb⟩
set_option maxRecDepth 100000 in
set_option maxHeartbeats 4000000 in
theorem value_any (t : TrackD × TrackD) (base g : Nat) (dir size : Int) (w : World) (ht : TabOk w base g t.1 t.2) (hV1 : TrkV t.1) (hV2 : TrkV t.2) (hsz : -2147483648 ≤ size ∧ size ≤ 2147483647) (_hd : -9223372036854775808 ≤ dir ∧ dir ≤ 9223372036854775807) :
  Calls Tryz.prog 74 #[.pointer (some ⟨g, 0, none⟩), .int .i64 dir, .int .i32 size] w fun e w' => e = .returned (.int .i64 (valueV t dir size)) ∧ Below w.heap.size w w' := by
 obtain ⟨hg, a1, v1, a2, v2, hh, o1, o2⟩ := ht;have HA1 := Bas.hid (at_any t.1 a1 v1 base size w o1 hV1 hsz);have HA2 := Bas.hid (at_any t.2 a2 v2 base size w o2 hV2 hsz);have hlt := heap_lt hh;have e0 := cell_of_heap (i := 0) (v := a1) hh rfl;have e1 := cell_of_heap (i := 1) (v := v1) hh rfl;have e2 := cell_of_heap (i := 2) (v := a2) hh rfl;have e3 := cell_of_heap (i := 3) (v := v2) hh rfl;have HBR := Bas.hid (Below.refl w.heap.size w);clear o1 o2 hV1 hV2;by_cases h2 : dir = 2
 ·have hdb : (dir == 2) = true := by simpa using h2
  have HV : Hid (valueV t dir size = atV t.2 size) := by unfold Hid valueV; rw [if_pos h2]
  clear h2;go_enter Tryz.func74, Tryz.ntmps74
  go_wp2_with (fail);refine HA2.out.mono ?_;rintro e w' ⟨rfl, hb⟩;have HB := Bas.hid hb;clear hb;go_wp2_with (fail);go_ret;exact ⟨by rw [HV.out]; rfl, HB.out⟩
 ·have hdb : (dir == 2) = false := by simpa using h2
  by_cases h0 : dir = 0
  ·have hdc : (dir == 0) = true := by simpa using h0
   have HV : Hid (valueV t dir size = atV t.1 size) := by unfold Hid valueV; rw [if_neg h2, if_pos (.inl h0)]
   clear h2 h0;go_enter Tryz.func74, Tryz.ntmps74
   go_wp2_with (fail);refine HA1.out.mono ?_;rintro e w' ⟨rfl, hb⟩;have HB := Bas.hid hb;clear hb;go_wp2_with (fail);go_ret;exact ⟨by rw [HV.out]; rfl, HB.out⟩
  ·have hdc : (dir == 0) = false := by simpa using h0
   by_cases h1 : dir = 1
   ·have hdd : (dir == 1) = true := by simpa using h1
    have HV : Hid (valueV t dir size = atV t.1 size) := by unfold Hid valueV; rw [if_neg h2, if_pos (.inr h1)]
    clear h2 h0 h1;go_enter Tryz.func74, Tryz.ntmps74
    go_wp2_with (fail);refine HA1.out.mono ?_;rintro e w' ⟨rfl, hb⟩;have HB := Bas.hid hb;clear hb;go_wp2_with (fail);go_ret;exact ⟨by rw [HV.out]; rfl, HB.out⟩
   ·have hdd : (dir == 1) = false := by simpa using h1
    have HV : Hid (valueV t dir size = 0) := by unfold Hid valueV; rw [if_neg h2, if_neg (by omega)]
    clear h2 h0 h1 HA1 HA2;go_enter Tryz.func74, Tryz.ntmps74
    go_wp2_with (fail);go_ret;exact ⟨by rw [HV.out]; rfl, HBR.out⟩
end Tk
namespace Sh
open Fo Vw Wr Ln Pc
set_option maxRecDepth 100000 in
theorem krun_none (gk : Nat) (lv pv kv av : Value) (w : World) (hk : w.heap[gk]? = some (.cells #[.slice none 0 0] 220 (0, 0))) :
  Calls Tryz.prog 73 #[.pointer (some ⟨gk, 0, none⟩), lv, pv, kv, av] w fun e w' => e = .returned (.agg #[.int .i64 0, .int .i64 0, .int .i64 0]) ∧ Below w.heap.size w w' := by
 have hb := (Below.refl w.heap.size w).alloc (Nat.le_refl _) (.cells #[.int .i64 0, .int .i64 0, .int .i64 0] 74);have HB := Bas.hid hb;have kF := Bas.heap_new w (.cells #[.int .i64 0, .int .i64 0, .int .i64 0] 74);have c0 := cell_of_heap (i := 0) (v := .slice none 0 0) ((hb.block _ (heap_lt hk)).trans hk) rfl;have k0 := cell_of_heap (i := 0) (v := .int .i64 0) kF rfl;have k1 := cell_of_heap (i := 1) (v := .int .i64 0) kF rfl;have k2 := cell_of_heap (i := 2) (v := .int .i64 0) kF rfl;have lF := heap_lt kF;have lk := heap_lt ((hb.block _ (heap_lt hk)).trans hk);have f0 := free_of_heap (i := 0) kF;have f1 := free_of_heap (i := 1) kF;have f2 := free_of_heap (i := 2) kF;have HKF := Bas.hid kF;clear hb hk kF;go_enter Tryz.func73, Tryz.ntmps73
 go_wp2_with (fail);generalize w.alloc (.cells #[.int .i64 0, .int .i64 0, .int .i64 0] 74) = w1 at *;obtain ⟨F, hF⟩ : ∃ F, w.heap.size = F := ⟨_, rfl⟩;rw [hF] at HB HKF k0 k1 k2 f0 f1 f2 lF ⊢;have HFF := Bas.hid hF;clear hF;go_loopw [19] (fun vi wr => vi = .int .i64 0 ∧ wr = w1) (fun _ _ => 0)
 case atStart => exact ⟨rfl, rfl⟩
 case round =>
  obtain ⟨rfl, rfl⟩ := hrel;go_wp2_with (fail);have hfs := flt_set HKF.out;have hbl : Below F w _ := ((HB.out.setCell (p := ⟨F, 0, none⟩) (Nat.le_refl _) (.int .i64 0)).setCell (p := ⟨F, 1, none⟩) (Nat.le_refl _) (.int .i64 0)).setCell (p := ⟨F, 2, none⟩) (Nat.le_refl _) (.int .i64 0);have j0 := cell_of_heap (i := 0) (v := .int .i64 0) hfs.1 rfl;have j1 := cell_of_heap (i := 1) (v := .int .i64 0) hfs.1 rfl;have j2 := cell_of_heap (i := 2) (v := .int .i64 0) hfs.1 rfl;have HBL := Bas.hid hbl;clear hbl hfs k0 k1 k2;generalize ((wr.setCell ⟨F, 0, none⟩ (.int .i64 0)).setCell ⟨F, 1, none⟩ (.int .i64 0)).setCell ⟨F, 2, none⟩ (.int .i64 0) = WE at *;exact bodyPost_ret (v := .agg #[.int .i64 0, .int .i64 0, .int .i64 0]) (by simp [results, Tryz.results73, go_sem, j0, j1, j2]) rfl ⟨rfl, by rw [HFF.out]; exact HBL.out⟩
def fNone : Mx.WkF := fun _ _ xs => (xs, (0, 0))
theorem morx_none (gm : Nat) (stv : Value) (ons : List (Int × Int)) (d left : Int) (base g : Nat) (sv : Value) (xs : List Gl) (W0 w : World)
  (hk : W0.heap[gm]? = some (.cells #[.slice none 0 0] 214 (0, 0))) (hs : Row.Leads w stv ons.length (ons.flatMap Pk.setC)) (hp : ons.Pairwise (fun x y => Pk.ltP x y = true)) (hxn : ons.length ≤ 100000) (hb0 : Below W0.heap.size W0 w) (hbase : W0.heap.size ≤ base) (hL : LineAt w base g sv xs) (hx : xs.length ≤ 1000000) :
  Calls Tryz.prog 70 #[.pointer (some ⟨gm, 0, none⟩), .pointer (some ⟨g, 0, none⟩), stv, .int .i64 d, .int .i64 left] w
   fun e w' => e = .returned (.agg #[.int .i64 0, .int .i64 0, .int .i64 0]) ∧ LnTo w base g sv (cleanL xs) w' := by
 have hM : Mx.MorxAt W0 (.pointer (some ⟨gm, 0, none⟩)) [] := ⟨gm, _, [], rfl, hk, rfl, .inl ⟨rfl, rfl, rfl⟩, fun i c r h => by simp at h⟩
 exact Mx.mrun_any fNone (fun xs _ => xs.length ≤ 1000000) (fun _ _ h => h) _ stv [] ons d left base g sv xs W0 w hM (fun _ h => by cases h) (by simp) (fun _ h => by cases h) hs hp hxn hb0 hbase hL hx (fun i c fl h => by simp at h)
open Tk in
theorem trak_none (gt : Nat) (d z : Int) (w : World) (hk : w.heap[gt]? = some (.cells #[.slice none 0 0, .slice none 0 0, .slice none 0 0, .slice none 0 0] 233 (0, 0))) (hz : -2147483648 ≤ z ∧ z ≤ 2147483647) (hd : -9223372036854775808 ≤ d ∧ d ≤ 9223372036854775807) :
  Calls Tryz.prog 74 #[.pointer (some ⟨gt, 0, none⟩), .int .i64 d, .int .i32 z] w fun e w' => e = .returned (.int .i64 0) ∧ Below w.heap.size w w' := by
 have hv : valueV (⟨[], []⟩, ⟨[], []⟩) d z = 0 := by unfold valueV Tk.atV; simp
 have hV : TrkV ⟨[], []⟩ := ⟨rfl, fun i j _ h => by simp at h, fun i => by simp, fun i => by simp, by simp⟩
 have h := value_any (⟨[], []⟩, ⟨[], []⟩) 0 gt d z w ⟨Nat.zero_le _, _, _, _, _, hk, ⟨Row.owned_nil _ _ _ _, Row.owned_nil _ _ _ _⟩, ⟨Row.owned_nil _ _ _ _, Row.owned_nil _ _ _ _⟩⟩ hV hV hz hd;rw [hv] at h;exact h
end Sh
namespace Sh
open Vw Wr Ch
def Wrote (w : World) (e : Ending) (w' : World) : Prop := ∃ v' bs, e = .returned v' ∧ w'.ownsRow w.heap.size 5 1 v' (List.length bs) (List.map (Value.int .u8) bs) ∧ Below w.heap.size w w'
set_option maxRecDepth 100000 in
set_option maxHeartbeats 4000000 in
theorem w26_nil (w : World) : Calls Tryz.prog 16 #[.slice none 0 0] w (Wrote w) := by
 have hem : w.ownsRow w.heap.size 5 1 (.slice none 0 0) ([] : List Int).length (([] : List Int).map (Value.int .u8)) := Row.owned_nil _ _ _ _;have HE := Bas.hid hem;clear hem;go_enter Tryz.func16, Tryz.ntmps16
 go_wp2_with (fail);refine (put_any 2 2 w.heap.size _ [] w (by omega) (by omega) (by omega) (by simp) (Nat.le_refl _) HE.out).mono ?_
 rintro e w2 ⟨v2, rfl, hg2⟩;have HB2 := Bas.hid ((Below.refl w.heap.size w).grown hg2.grow (Nat.le_refl _) (fun g hg => by cases hg))
 have HO2 := Bas.hid hg2.own;clear hg2;go_wp2_with (fail);refine (put_any 0 2 w.heap.size _ _ w2 (by omega) (by omega) (by omega) (by simp [putB_len]) HB2.out.size HO2.out).mono ?_
 rintro e w3 ⟨v3, rfl, hg3⟩;have HB3 := Bas.hid (HB2.out.grown hg3.grow HB2.out.size (fun g hg => (Row.own_block HO2.out hg).1))
 have HO3 := Bas.hid hg3.own;clear hg3 HB2 HO2;go_wp2_with (fail);refine (put_any 0 4 w.heap.size _ _ w3 (by omega) (by omega) (by omega) (by simp [putB_len]) HB3.out.size HO3.out).mono ?_
 rintro e w4 ⟨v4, rfl, hg4⟩;have HB4 := Bas.hid (HB3.out.grown hg4.grow HB3.out.size (fun g hg => (Row.own_block HO3.out hg).1))
 have HO4 := Bas.hid hg4.own;clear hg4 HB3 HO3;go_wp2_with (fail);go_loopw [3, 13] (fun vb vi wr => vi = .int .i64 0 ∧ wr.ownsRow w.heap.size 5 1 vb (List.length ([] ++ putB 2 2 ++ putB 0 2 ++ putB 0 4)) (List.map (Value.int .u8) ([] ++ putB 2 2 ++ putB 0 2 ++ putB 0 4)) ∧ Below w.heap.size w wr) (fun _ _ _ => 0)
 case atStart => exact ⟨rfl, HO4.out, HB4.out⟩
 case round =>
  obtain ⟨rfl, ho, hb⟩ := hrel;clear HO4 HB4;have HO4 := Bas.hid ho;have HB4 := Bas.hid hb;clear ho hb;go_wp2_with (fail);go_ret;exact ⟨_, _, rfl, HO4.out, HB4.out⟩
theorem info8' : (Tryz.prog.info? 5).map (fun i => (i.zero, i.size, i.bytes)) = some (some (.int .u8 0), 1, 1) := by kernel_rfl
theorem own_four {w : World} {base g : Nat} (a b c d : Int) (hg : w.heap[g]? = some (.cells #[.int .u8 a, .int .u8 b, .int .u8 c, .int .u8 d] 5 (0, 0))) (hb : base ≤ g) :
  w.ownsRow base 5 1 (.slice (some ⟨g, 0, none⟩) 4 4) 4 ([a, b, c, d].map (Value.int .u8)) :=
 ⟨by simp, .inr ⟨g, 4, _, rfl, hb, hg, Nat.le_refl _, by unfold maxLen; omega, by simp, by simp⟩⟩
theorem byte_one (l : List Int) : ∀ u ∈ l.map (Value.int .u8), u.oneCell' = true := fun u hu => by
 obtain ⟨x, _, rfl⟩ := List.mem_map.1 hu;rfl
set_option maxRecDepth 100000 in
set_option maxHeartbeats 4000000 in
theorem w24_nil (w : World) : Calls Tryz.prog 17 #[.slice none 0 0] w (Wrote w) := by
 have hb1 := ((Below.refl w.heap.size w).alloc (Nat.le_refl _) (.cells #[.int .u8 0, .int .u8 0, .int .u8 0, .int .u8 0] 5)).alloc (by simp) (.cells #[.int .u8 0, .int .u8 0, .int .u8 0, .int .u8 12] 5)
 have k1 := (Below.heap_alloc (w.alloc (.cells #[.int .u8 0, .int .u8 0, .int .u8 0, .int .u8 0] 5)) (.cells #[.int .u8 0, .int .u8 0, .int .u8 0, .int .u8 12] 5) w.heap.size (by simp)).trans (Bas.heap_new w (.cells #[.int .u8 0, .int .u8 0, .int .u8 0, .int .u8 0] 5))
 have k2 := Bas.heap_new2 w (.cells #[.int .u8 0, .int .u8 0, .int .u8 0, .int .u8 0] 5) (.cells #[.int .u8 0, .int .u8 0, .int .u8 0, .int .u8 12] 5);have HB1 := Bas.hid hb1;have HO1 := Bas.hid (own_four 0 0 0 0 k1 (Nat.le_refl _));have HL1 := Bas.hid (Row.leads_owned (own_four 0 0 0 12 k2 (Nat.le_succ w.heap.size)));clear hb1 k1 k2;go_enter Tryz.func17, Tryz.ntmps17
 go_wp2_with (at_builtin; refine Row.fence ?_);refine Row.unfence ?_;generalize (w.alloc (.cells #[.int .u8 0, .int .u8 0, .int .u8 0, .int .u8 0] 5)).alloc (.cells #[.int .u8 0, .int .u8 0, .int .u8 0, .int .u8 12] 5) = w1 at *;refine Row.append_any rfl _ _ 47 5 rfl (.int .u8 0) 1 1 Tryz.underlying47 info8' rfl (by decide) w.heap.size _ 4 _ rfl HO1.out _ 4 _ rfl HL1.out (by simp) (byte_one _) (by unfold maxLen; omega) (by omega) HB1.out.size ?_
 intro v2 w2 ho2 hg2 _;have HB2 := Bas.hid (HB1.out.grown hg2 HB1.out.size (fun g hg => (Row.own_block HO1.out hg).1))
 have HO2 : Hid (w2.ownsRow w.heap.size 5 1 v2 (List.length [0, 0, 0, 0, 0, 0, 0, 12]) (List.map (Value.int .u8) [0, 0, 0, 0, 0, 0, 0, 12])) := ho2;clear ho2 hg2 HO1 HL1 HB1;go_wp2_with (fail);have hem : w2.ownsRow w2.heap.size 5 1 (.slice none 0 0) ([] : List Int).length (([] : List Int).map (Value.int .u8)) := Row.owned_nil _ _ _ _;refine (put_any 8 2 w2.heap.size _ [] w2 (by omega) (by omega) (by omega) (by simp) (Nat.le_refl _) hem).mono ?_
 rintro e w3 ⟨v3, rfl, hg3⟩;have HB3 := Bas.hid ((Below.refl w2.heap.size w2).grown hg3.grow (Nat.le_refl _) (fun g hg => by cases hg))
 have HO3 := Bas.hid hg3.own;clear hg3 hem;go_wp2_with (fail);refine (put_any 0 2 w2.heap.size _ _ w3 (by omega) (by omega) (by omega) (by simp [putB_len]) HB3.out.size HO3.out).mono ?_
 rintro e w4 ⟨v4, rfl, hg4⟩;have HB4 := Bas.hid (HB3.out.grown hg4.grow HB3.out.size (fun g hg => (Row.own_block HO3.out hg).1))
 have HO4 := Bas.hid hg4.own;clear hg4 HB3 HO3;go_wp2_with (fail);refine (put_any 0 2 w2.heap.size _ _ w4 (by omega) (by omega) (by omega) (by simp [putB_len]) HB4.out.size HO4.out).mono ?_
 rintro e w5 ⟨v5, rfl, hg5⟩;have HB5 := Bas.hid (HB4.out.grown hg5.grow HB4.out.size (fun g hg => (Row.own_block HO4.out hg).1))
 have HO5 := Bas.hid hg5.own;clear hg5 HB4 HO4;obtain ⟨ys, hys⟩ : ∃ ys, [] ++ putB 8 2 ++ putB 0 2 ++ putB 0 2 = ys := ⟨_, rfl⟩;have HYL : Hid (ys.length = 6) := by unfold Hid; rw [← hys]; simp [putB_len]
 rw [hys] at HO5;clear hys;have HR5 := Bas.hid (Row.owned_below HO2.out HB5.out);have HBW5 := Bas.hid (HB2.out.trans (HB5.out.mono HB2.out.size));have hs2 := HB2.out.size;have HS2 : Hid (∀ g, v2.ownBlock = some g → g < w2.heap.size) := fun g hg => (Row.own_block HO2.out hg).2
 clear HB2 HO2 HB5;go_wp2_with (fail);go_loopw [4, 5, 20] (fun vb vc vi wr => vi = .int .i64 0 ∧ vc = .slice none 0 0 ∧ wr.ownsRow w2.heap.size 5 1 vb ys.length (ys.map (Value.int .u8)) ∧ wr.ownsRow w.heap.size 5 1 v2 (List.length [0, 0, 0, 0, 0, 0, 0, 12]) (List.map (Value.int .u8) [0, 0, 0, 0, 0, 0, 0, 12]) ∧ Below w.heap.size w wr) (fun _ _ _ _ => 0)
 case atStart => exact ⟨rfl, rfl, HO5.out, HR5.out, HBW5.out⟩
 case round =>
  obtain ⟨rfl, rfl, ho, hr, hb⟩ := hrel;rw [HYL.out] at ho;obtain ⟨ay, cy, rfl⟩ := own_slice ho;have HO := Bas.hid ho;have HR := Bas.hid hr;have HB := Bas.hid hb;clear ho hr hb HO5 HR5 HBW5;go_wp2_with (fail);refine (put_any 18 4 w.heap.size _ _ wr (by omega) (by omega) (by omega) (by simp) HB.out.size HR.out).mono ?_
  rintro e w6 ⟨v6, rfl, hg6⟩;have HB6 := Bas.hid (HB.out.grown hg6.grow HB.out.size (fun g hg => (Row.own_block HR.out hg).1))
  have HL6 := Bas.hid (Row.leads_owned (Row.owned_keep HO.out fun g hg => hg6.grow.block g (Row.own_block HO.out hg).2 (fun e => by
   have h1 := HS2.out g e.symm;have h2 := (Row.own_block HO.out hg).1;omega)))
  have HO6 := Bas.hid hg6.own;clear hg6 HB HR HO;go_wp2_with (at_builtin; refine Row.fence ?_);refine Row.unfence ?_;refine Row.append_any rfl _ _ 47 5 rfl (.int .u8 0) 1 1 Tryz.underlying47 info8' rfl (by decide) w.heap.size _ _ _ rfl HO6.out _ 6 _ rfl HL6.out (by simp [HYL.out]) (byte_one _) (by simp [putB_len]; unfold maxLen; omega) (by simp [putB_len]) HB6.out.size ?_
  intro v7 w7 ho7 hg7 _;have HB7 := Bas.hid (HB6.out.grown hg7 HB6.out.size (fun g hg => (Row.own_block HO6.out hg).1))
  have HO7 := Bas.hid ho7;clear ho7 hg7 HB6 HO6 HL6;go_wp2_with (at_builtin; refine Row.fence ?_);refine Row.unfence ?_;refine Row.append_any rfl _ _ 47 5 rfl (.int .u8 0) 1 1 Tryz.underlying47 info8' rfl (by decide) w.heap.size _ _ _ rfl HO7.out (.slice none 0 0) 0 [] rfl (.inl ⟨rfl, rfl, rfl⟩) (by simp) (fun _ h => by cases h) (by simp [putB_len]; unfold maxLen; omega) (by simp [putB_len]) HB7.out.size ?_
  intro v8 w8 ho8 hg8 _;have HB8 := Bas.hid (HB7.out.grown hg8 HB7.out.size (fun g hg => (Row.own_block HO7.out hg).1))
  have HO8 := Bas.hid ho8;clear ho8 hg8 HB7 HO7;go_wp2_with (fail);go_ret;refine ⟨_, [0, 0, 0, 0, 0, 0, 0, 12] ++ putB 18 4 ++ ys, rfl, ?_, HB8.out⟩;have h := HO8.out;rw [List.append_nil, Nat.add_zero, ← List.map_append] at h;rw [List.length_append, HYL.out];exact h
end Sh
namespace Ft
open Vw Wr Ch
structure WPlan where
 type : Int
 flags : Int
 sets : List Int
def wPC (x : WPlan × Value) : List Value := [.int .u16 x.1.type, .int .u16 x.1.flags, x.2]
def wS (x : Int) : List Value := [.int .u16 x]
theorem wPC_len (x : WPlan × Value) : (wPC x).length = 3 := rfl
theorem wS_len (x : Int) : (wS x).length = 1 := rfl
def WPlans (w : World) (v : Value) (l : List WPlan) : Prop := ∃ rs : List Value, rs.length = l.length ∧ Row.Leads w v l.length ((l.zip rs).flatMap wPC) ∧
 ∀ (i : Nat) (c : WPlan) (r : Value), l[i]? = some c → rs[i]? = some r → Row.Leads w r c.sets.length (c.sets.flatMap wS)
def rgPlan (p : WPlan) : Prop := (0 ≤ p.type ∧ p.type ≤ 65535) ∧ (0 ≤ p.flags ∧ p.flags ≤ 65535) ∧ ∀ s ∈ p.sets, 0 ≤ s ∧ s ≤ 65535
def okPlan (p : WPlan) : Prop := rgPlan p ∧ p.sets.length ≤ 60
def sB (s : Int) : List Int := putB s 2 ++ putB 9 2
def setsW (l : List WPlan) : List Int := l.flatMap fun p => p.sets.flatMap sB
def rowW (n off : Nat) (p : WPlan) : List Int := putB p.type 2 ++ putB (p.sets.length : Int) 2 ++ putB (12 + 12 * (n : Int) + (off : Int)) 4 ++ putB p.flags 2 ++ putB 7 2
def rowsW (n : Nat) : Nat → List WPlan → List Int
 | _, [] => []
 | off, p :: l => rowW n off p ++ rowsW n (off + 4 * p.sets.length) l
def headW (n : Nat) : List Int := putB 65536 4 ++ putB (n : Int) 2 ++ [0, 0, 0, 0, 0, 0]
def featW (l : List WPlan) : List Int := headW l.length ++ rowsW l.length 0 l ++ setsW l
theorem headW_len (n : Nat) : (headW n).length = 12 := by simp [headW, putB_len]
theorem rowW_len (n off : Nat) (p : WPlan) : (rowW n off p).length = 12 := by simp [rowW, putB_len]
theorem sB_len (s : Int) : (sB s).length = 4 := by simp [sB, putB_len]
theorem setB_len (l : List Int) : (l.flatMap sB).length = 4 * l.length := by
 induction l with
 | nil => rfl
 | cons x l ih => rw [List.flatMap_cons, List.length_append, sB_len, ih, List.length_cons]; omega
theorem rowsW_len (n : Nat) : ∀ (l : List WPlan) (off : Nat), (rowsW n off l).length = 12 * l.length
 | [], _ => rfl
 | p :: l, off => by rw [rowsW, List.length_append, rowW_len, rowsW_len n l, List.length_cons]; omega
theorem setsW_cons (p : WPlan) (l : List WPlan) : (setsW (p :: l)).length = 4 * p.sets.length + (setsW l).length := by
 unfold setsW; rw [List.flatMap_cons, List.length_append, setB_len]
theorem rowsW_snoc (n : Nat) (p : WPlan) : ∀ (l : List WPlan) (off : Nat), rowsW n off (l ++ [p]) = rowsW n off l ++ rowW n (off + (setsW l).length) p
 | [], off => by simp [rowsW, setsW]
 | q :: l, off => by
  rw [List.cons_append, rowsW, rowsW_snoc n p l, rowsW, setsW_cons, List.append_assoc, Nat.add_assoc]
theorem rowsW_take (n : Nat) (l : List WPlan) (k : Nat) (p : WPlan) (h : l[k]? = some p) : rowsW n 0 (l.take (k + 1)) = rowsW n 0 (l.take k) ++ rowW n (setsW (l.take k)).length p := by
 rw [List.take_add_one, h];have := rowsW_snoc n p (l.take k) 0;rw [Nat.zero_add] at this;exact this
theorem setsW_take (l : List WPlan) (k : Nat) (p : WPlan) (h : l[k]? = some p) : setsW (l.take (k + 1)) = setsW (l.take k) ++ p.sets.flatMap sB := Row.take_flat _ l k p h
theorem setsW_le (l : List WPlan) (h : ∀ p ∈ l, okPlan p) (k : Nat) (hk : k ≤ l.length) : (setsW (l.take k)).length ≤ 240 * k :=
 Row.take_len_le _ 240 l k (fun p hp => by rw [setB_len]; have := (h p hp).2; omega) hk
set_option maxRecDepth 100000 in
set_option maxHeartbeats 16000000 in
theorem fwrite_any (v : Value) (l : List WPlan) (w : World) (hl : l.length ≤ 30) (hok : ∀ c ∈ l, okPlan c) (hin : WPlans w v l) :
  Calls Tryz.prog 14 #[v] w fun e w' => ∃ v', e = .returned v' ∧ w'.ownsRow w.heap.size 5 1 v' (featW l).length ((featW l).map (Value.int .u8)) ∧ Below w.heap.size w w' := by
 obtain ⟨rs, hrl, hlead, hel⟩ := hin;obtain ⟨ad, cap, rfl⟩ := Row.leads_slice hlead;obtain ⟨n, hn⟩ : ∃ n, n = l.length := ⟨_, rfl⟩;rw [← hn];have hn30 : n ≤ 30 := by omega
 have HN := Bas.hid hn;have HEL := Bas.hid hel;have HLD := Bas.hid hlead;have HOK := Bas.hid hok;have HRL := Bas.hid hrl;clear hrl hlead hel hok hn;have hemp : w.ownsRow w.heap.size 5 1 (.slice none 0 0) ([] : List Int).length (([] : List Int).map (Value.int .u8)) := Row.owned_nil _ _ _ _;have HE := Bas.hid hemp;clear hemp;go_enter Tryz.func14, Tryz.ntmps14
 go_wp2_with (fail);refine (put_any 65536 4 w.heap.size _ [] w (by omega) (by omega) (by omega) (by simp) (Nat.le_refl _) HE.out).mono ?_
 rintro e w1 ⟨v1, rfl, hg1⟩;go_wp2_with (fail);refine (put_any (n : Int) 2 w.heap.size _ _ w1 (by omega) (by omega) (by omega) (by simp [putB_len]) hg1.grow.size hg1.own).mono ?_
 rintro e w2 ⟨v2, rfl, hg2⟩;have hg12 := hg1.trans hg2;have HG := Bas.hid hg12;clear hg1 hg2 hg12;go_wp2_with (at_builtin; refine Row.fence ?_);refine Row.unfence ?_;have k6 := Bas.heap_new w2 (.cells #[.int .u8 0, .int .u8 0, .int .u8 0, .int .u8 0, .int .u8 0, .int .u8 0] 5);have hb6 := (Below.refl w2.heap.size w2).alloc (Nat.le_refl _) (.cells #[.int .u8 0, .int .u8 0, .int .u8 0, .int .u8 0, .int .u8 0, .int .u8 0] 5);have hO6 := Row.owned_below HG.out.own hb6;have hg6 := Bas.galloc (Bas.grefl w2 v2.ownBlock) (.cells #[.int .u8 0, .int .u8 0, .int .u8 0, .int .u8 0, .int .u8 0, .int .u8 0] 5);have hsz6 : w2.heap.size ≤ (w2.alloc (.cells #[.int .u8 0, .int .u8 0, .int .u8 0, .int .u8 0, .int .u8 0, .int .u8 0] 5)).heap.size := by simp
 have hpl : ([] ++ putB 65536 4 ++ putB (n : Int) 2).length = 6 := by simp [putB_len]
 refine Row.append_at rfl _ _ 47 5 rfl (.int .u8 0) 1 1 Tryz.underlying47 info8 rfl (by decide) w.heap.size v2 _ _ rfl hO6 (.slice (some ⟨w2.heap.size, 0, none⟩) 6 6) 6 [.int .u8 0, .int .u8 0, .int .u8 0, .int .u8 0, .int .u8 0, .int .u8 0] rfl (leads_heap k6) rfl (by simp; rfl) (by unfold maxLen; rw [hpl]; omega) (by rw [hpl]; omega) (Nat.le_trans HG.out.grow.size hsz6) ?_
 intro v3 w3 hown3 hgr3 _ hat3;have hg3 : Grown w w.heap.size (.slice none 0 0) (headW n) v3 w3 := by
  have := HG.out.trans (⟨by simpa [Nat.add_assoc] using hown3, Bas.gtrans hg6 hgr3, hat3.imp id fun h => ⟨_, h, hsz6⟩⟩ : Grown w2 w.heap.size v2 ([] ++ putB 65536 4 ++ putB (n : Int) 2 ++ [0, 0, 0, 0, 0, 0]) v3 w3)
  simpa [headW, List.append_assoc] using this
 have HB3 := Bas.hid (hg3.below (Below.refl w.heap.size w) (Nat.le_refl _) (fun g h => by cases h))
 have HT3 : Hid (TwoRows w3 w.heap.size v3 (headW n ++ rowsW n 0 (l.take 0)) (.slice none 0 0) (setsW (l.take 0))) :=
  ⟨by simpa [rowsW] using hg3.own, Row.owned_nil _ _ _ _, fun g _ h => by cases h⟩
 clear hown3 hgr3 hat3 hg3 k6 hb6 hO6 hg6 hsz6 hpl HG HE;go_wp2_with (fail);go_loopw [3, 4, 6, 8, 18] (fun xb xs _ _ vi wr => ∃ (k : Nat) (vb vs : Value), k ≤ n ∧ vi = .int .i64 k ∧ vb = xb ∧ vs = xs ∧ TwoRows wr w.heap.size vb (headW n ++ rowsW n 0 (l.take k)) vs (setsW (l.take k)) ∧ Below w.heap.size w wr) (fun _ _ _ _ vi _ => n - (intOf vi).toNat)
 case atStart => exact ⟨0, _, _, Nat.zero_le _, rfl, rfl, rfl, HT3.out, HB3.out⟩
 case round =>
  obtain ⟨k, vb, vs, hk, rfl, hvb, hvs, htw, hb⟩ := hrel;rw [← hvb, ← hvs];clear hvb hvs;have HT := Bas.hid htw;have HB := Bas.hid hb;by_cases hkn : k < n
  ·have hlen := HN.out;obtain ⟨c, hc⟩ : ∃ c, l[k]? = some c := ⟨_, List.getElem?_eq_getElem (by omega)⟩
   obtain ⟨r, hr⟩ : ∃ r, rs[k]? = some r := ⟨_, List.getElem?_eq_getElem (by rw [HRL.out]; omega)⟩
   have hse := HEL.out k c r hc hr;obtain ⟨⟨⟨ot1, ot2⟩, ⟨of1, of2⟩, hss⟩, hs60⟩ := HOK.out c (List.mem_of_getElem? hc);have hz : (l.zip rs)[k]? = some (c, r) := List.getElem?_zip_eq_some.2 ⟨hc, hr⟩;obtain ⟨B0, O0, cp0, hv0, hcl⟩ := Row.leads_elem wPC_len HLD.out hz (by omega)
   obtain ⟨as', cs', rfl⟩ := Row.leads_slice hse;cases hv0;have q0 := (hb.cell (p := ⟨B0, O0 + k * 3, none⟩) (World.block_lt_of_cell? _ _ (hcl 0 _ rfl))).trans (hcl 0 _ rfl);have q1 := (hb.cell (p := ⟨B0, O0 + k * 3 + 1, none⟩) (World.block_lt_of_cell? _ _ (hcl 1 _ rfl))).trans (hcl 1 _ rfl);have q2 := (hb.cell (p := ⟨B0, O0 + k * 3 + 2, none⟩) (World.block_lt_of_cell? _ _ (hcl 2 _ rfl))).trans (hcl 2 _ rfl);have HSE := Bas.hid hse;have HSS := Bas.hid hss;have HRW := Bas.hid (rowsW_take n l k c hc);have HSW := Bas.hid (setsW_take l k c hc);have hol := setsW_le l HOK.out k (by omega)
   have hbl : (headW n ++ rowsW n 0 (l.take k)).length = 12 + 12 * k := by rw [List.length_append, headW_len, rowsW_len, List.length_take, Nat.min_eq_left (by omega)]
   obtain ⟨ct, cf, cs⟩ := c;simp only at q0 q1 q2 HSE HSS HRW HSW ot1 ot2 of1 of2 hs60;obtain ⟨ns, hns⟩ : ∃ ns, ns = cs.length := ⟨_, rfl⟩;have HNS := Bas.hid hns;rw [← hns] at q2 HSE hs60;obtain ⟨bb, hbb⟩ : ∃ bb, bb = headW n ++ rowsW n 0 (l.take k) := ⟨_, rfl⟩;have HBBX := Bas.hid hbb.symm;rw [← hbb] at HT hbl;clear hbb;generalize setsW (l.take k) = sw at *;obtain ⟨sl, hsl⟩ : ∃ sl, sl = sw.length := ⟨_, rfl⟩;have HSLN := Bas.hid hsl;rw [← hsl] at hol;clear hcl hse hss hb htw hr hz hlen hc hns hsl HT3 HB3;go_wp2_with (fail);have k8 := Bas.heap_new wr (.cells #[.int .u16 ct, .int .u16 cf, .slice as' ns cs'] 87);have hbW := (Below.refl wr.heap.size wr).alloc (Nat.le_refl _) (.cells #[.int .u16 ct, .int .u16 cf, .slice as' ns cs'] 87);have HT8 := Bas.hid (HT.out.below hbW);have HB8 := Bas.hid (HB.out.trans (hbW.mono HB.out.size));have hnl : vb.ownBlock ≠ some wr.heap.size := fun e => Nat.lt_irrefl _ (Row.own_block HT.out.l e).2
   have hnr : vs.ownBlock ≠ some wr.heap.size := fun e => Nat.lt_irrefl _ (Row.own_block HT.out.r e).2
   generalize wr.alloc (.cells #[.int .u16 ct, .int .u16 cf, .slice as' ns cs'] 87) = W8 at *;generalize wr.heap.size = T8 at k8 hnl hnr ⊢;have hO8 := HT8.out.l;have Abase : w.heap.size ≤ W8.drew.heap.size := HB8.out.size;clear q0 q1 q2 hbW HT HB;have Ad := Row.owned_keep hO8 (w' := W8.drew) (fun _ _ => rfl)
   obtain ⟨AI, AF, Ai, AF0, AFg, AFw, AFb⟩ := Pl.fam_g W8 (vb).ownBlock;have Ac0 := fun i => (Bas.gcell (AFb i) (b := T8) (o := 0) (heap_lt k8) hnl).trans (cell_of_heap (i := 0) (v := .int .u16 ct) k8 rfl)
   have Ac1 := fun i => (Bas.gcell (AFb i) (b := T8) (o := 2) (heap_lt k8) hnl).trans (cell_of_heap (i := 2) (v := .slice as' ns cs') k8 rfl)
   have AFH := Bas.hid AF0;have AhI : Nonempty AI := ⟨Ai⟩;have AFW := Bas.hid AFw;clear AF0 AFw AFg AFb;refine Pl.region_plan0 Ai [(true, 0), (true, 1), (true, 2), (true, 3), (true, 5), (true, 6), (true, 7), (false, 4), (false, 8), (false, 9)] [8, 9] (by kernel_rfl) (by kernel_rfl) (fun _ _ _ _ e h => ⟨e ▸ h.1, h.2⟩) AFH.out ?_
   refine Pl.head_sel0 [(true, 0), (true, 1), (true, 2), (true, 3), (true, 5), (true, 6), (true, 7)] (by kernel_rfl) (by kernel_rfl) ?_
   simp only [Pl.sel, List.drop_succ_cons, List.drop_zero];repeat (go_big_quiet_step (fail))
   refine wpQuiet_nil ?_;rw [← AFH.out];clear Ac0 Ac1 AFH;refine Pl.one_sel (by kernel_rfl) ?_
   intro Q' hQ' hP';simp only [Pl.sel, List.drop_succ_cons, List.drop_zero];go_wp2_with (fail);refine (put_any ct 2 w.heap.size _ _ W8.drew (by omega) (by omega) (by omega) (by first | omega | (simp only [List.length_append, putB_len]; omega)) Abase Ad).mono ?_
   rintro e Aw1 ⟨Av1, rfl, Ag1⟩;have Agg := Bas.gtrans (Bas.gdrew (Bas.grefl W8 _)) Ag1.grow;go_wp2_with (fail);refine hQ' _ _ (fun _ _ => AFW.out _ Agg) ?_
   clear hQ' hP' Q' Agg AFW;refine Pl.tail_sel [(false, 8), (false, 9)] (by kernel_rfl) (by kernel_rfl) ?_
   simp only [Pl.sel, List.drop_succ_cons, List.drop_zero];go_wp2_with (fail);refine (put_any (ns : Int) 2 w.heap.size _ _ Aw1 (by omega) (by omega) (by omega) (by first | omega | (simp only [List.length_append, putB_len]; omega)) (Nat.le_trans Abase Ag1.grow.size) Ag1.own).mono ?_
   rintro e Aw ⟨Av, rfl, Ag2⟩;have Ag := Ag1.trans Ag2;clear Ag1 Ag2;have HTA := Bas.hid ((TwoRows.below HT8.out (show Below W8.heap.size W8 W8.drew from (Below.refl _ _).drew)).growL Ag)
   have HBA := Bas.hid (Ag.below (HB8.out.drew) (by exact HB8.out.size) (fun g hg => (Row.own_block hO8 hg).1))
   have kA := (Ag.grow.block T8 (heap_lt k8) (fun e => hnl e.symm)).trans k8
   have hnlA : Av.ownBlock ≠ some T8 := by
    intro e;rcases Ag.at' with h | ⟨g, h, h2⟩
    ·exact hnl (h ▸ e)
    ·rw [h] at e; cases e;exact absurd (heap_lt k8) (Nat.not_lt.2 h2)
   obtain ⟨ads, cps, hvs⟩ := row_slice HTA.out.r;have hsl2 := HSLN.out;rw [← hsl2] at hvs;clear Ag k8 hnl hO8 HT8 HB8 Abase Ad hsl2;rw [hvs];go_wp2_with (fail);refine (put_any (12 + 12 * (n : Int) + (sl : Int)) 4 w.heap.size _ _ Aw (by omega) (by omega) (by omega) (by simp only [List.length_append, putB_len]; omega) HBA.out.size HTA.out.l).mono ?_
   rintro e wC ⟨vC, rfl, gC⟩;have HTC := Bas.hid (HTA.out.growL gC);have HBC := Bas.hid (gC.below HBA.out HBA.out.size (fun g hg => (Row.own_block HTA.out.l hg).1))
   have kC := (gC.grow.block T8 (heap_lt kA) (fun e => hnlA e.symm)).trans kA
   have hnlC : vC.ownBlock ≠ some T8 := by
    intro e;rcases gC.at' with h | ⟨g, h, h2⟩
    ·exact hnlA (h ▸ e)
    ·rw [h] at e; cases e;exact absurd (heap_lt kA) (Nat.not_lt.2 h2)
   have cC := cell_of_heap (i := 1) (v := .int .u16 cf) kC rfl;clear gC kA hnlA HTA HBA;go_wp2_with (fail);refine (put_any cf 2 w.heap.size _ _ wC (by omega) (by omega) (by omega) (by simp only [List.length_append, putB_len]; omega) HBC.out.size HTC.out.l).mono ?_
   rintro e wD ⟨vD, rfl, gD⟩;have HTD := Bas.hid (HTC.out.growL gD);have HBD := Bas.hid (gD.below HBC.out HBC.out.size (fun g hg => (Row.own_block HTC.out.l hg).1))
   have kD := (gD.grow.block T8 (heap_lt kC) (fun e => hnlC e.symm)).trans kC
   have hnlD : vD.ownBlock ≠ some T8 := by
    intro e;rcases gD.at' with h | ⟨g, h, h2⟩
    ·exact hnlC (h ▸ e)
    ·rw [h] at e; cases e;exact absurd (heap_lt kC) (Nat.not_lt.2 h2)
   clear gD kC cC hnlC HTC HBC;go_wp2_with (fail);refine (put_any 7 2 w.heap.size _ _ wD (by omega) (by omega) (by omega) (by simp only [List.length_append, putB_len]; omega) HBD.out.size HTD.out.l).mono ?_
   rintro e wE ⟨vE, rfl, gE⟩;have HTE := Bas.hid (HTD.out.growL gE);have HBE := Bas.hid (gE.below HBD.out HBD.out.size (fun g hg => (Row.own_block HTD.out.l hg).1))
   have kE := (gE.grow.block T8 (heap_lt kD) (fun e => hnlD e.symm)).trans kD
   have cE := cell_of_heap (i := 2) (v := .slice as' ns cs') kE rfl;clear gE kD hnlD HTD HBD;rw [← hvs];clear hvs;go_wp2_with (fail);clear cE kE;have HTE2 : Hid (TwoRows wE w.heap.size vE (bb ++ rowW n sw.length ⟨ct, cf, cs⟩) vs (sw ++ (cs.take 0).flatMap sB)) := by
    have h := HTE.out;have e1 : bb ++ putB ct 2 ++ putB (ns : Int) 2 ++ putB (12 + 12 * (n : Int) + (sl : Int)) 4 ++ putB cf 2 ++ putB 7 2 = bb ++ rowW n sw.length ⟨ct, cf, cs⟩ := by
     unfold rowW;rw [← HSLN.out, ← HNS.out];simp only [List.append_assoc]
    rw [e1] at h;have e0 : sw ++ (cs.take 0).flatMap sB = sw := by simp
    rw [e0];exact h
   have HRWX : Hid (headW n ++ rowsW n 0 (l.take (k + 1)) = bb ++ rowW n sw.length ⟨ct, cf, cs⟩) := by
    unfold Hid;rw [HRW.out, ← List.append_assoc, HBBX.out]
   generalize bb ++ rowW n sw.length ⟨ct, cf, cs⟩ = bb2 at *;have hsb : wE.heap.size ≤ wE.heap.size := Nat.le_refl _;clear HTE hsb;go_loopw [4, 8, 49] (fun xs _ vi wr => ∃ (j : Nat) (vt : Value), j ≤ ns ∧ vi = .int .i64 j ∧ vt = xs ∧ TwoRows wr w.heap.size vE bb2 vt (sw ++ (cs.take j).flatMap sB) ∧ Below w.heap.size w wr) (fun _ _ vi _ => ns - (intOf vi).toNat)
   case atStart => exact ⟨0, _, Nat.zero_le _, rfl, rfl, HTE2.out, HBE.out⟩
   case round =>
    obtain ⟨j, vt, hj, rfl, hvt, htw, hb⟩ := hrel;rw [← hvt];clear hvt;have HT := Bas.hid htw;have HB := Bas.hid hb;by_cases hjn : j < ns
    ·have hlen := HNS.out;obtain ⟨s, hs⟩ : ∃ s, cs[j]? = some s := ⟨_, List.getElem?_eq_getElem (by omega)⟩
     obtain ⟨B1, O1, cp1, hv1, hcl⟩ := Row.leads_elem wS_len HSE.out hs (by omega)
     cases hv1;have hc0 : w.cell? ⟨B1, O1 + j, none⟩ = some (.int .u16 s) := by
      have h := hcl 0 (.int .u16 s) rfl;simpa using h
     have q0 := (hb.cell (p := ⟨B1, O1 + j, none⟩) (World.block_lt_of_cell? _ _ hc0)).trans hc0;obtain ⟨os1, os2⟩ := HSS.out s (List.mem_of_getElem? hs);have HTK : Hid (sw ++ (cs.take (j + 1)).flatMap sB = sw ++ (cs.take j).flatMap sB ++ (putB s 2 ++ putB 9 2)) := by
      unfold Hid;rw [Row.take_flat sB cs j s hs, ← List.append_assoc];rfl
     have hyl : (sw ++ (cs.take j).flatMap sB).length ≤ 7200 + 240 := by
      rw [List.length_append, setB_len, List.length_take, ← HSLN.out]; omega
     generalize sw ++ (cs.take j).flatMap sB = ys at *;clear hcl hs hlen htw hb hc0;go_wp2_with (fail);refine (put_any s 2 w.heap.size _ _ wr (by omega) (by omega) (by omega) (by omega) HB.out.size HT.out.r).mono ?_
     rintro e wF ⟨vF, rfl, gF⟩;have HTF := Bas.hid (HT.out.growR gF);have HBF := Bas.hid (gF.below HB.out HB.out.size (fun g hg => (Row.own_block HT.out.r hg).1))
     clear gF HT HB;go_wp2_with (fail);refine (put_any 9 2 w.heap.size _ _ wF (by omega) (by omega) (by omega) (by simp only [List.length_append, putB_len]; omega) HBF.out.size HTF.out.r).mono ?_
     rintro e wG ⟨vG, rfl, gG⟩;have HTG := Bas.hid (HTF.out.growR gG);have HBG := Bas.hid (gG.below HBF.out HBF.out.size (fun g hg => (Row.own_block HTF.out.r hg).1))
     clear gG HTF HBF q0;go_wp2_with (fail);go_roundw
     case rel => exact ⟨j + 1, _, by omega, by go_num, rfl, by rw [HTK.out, ← List.append_assoc]; exact HTG.out, HBG.out⟩
     case measure => simp [intOf]; omega
    ·have hjn2 : j = ns := by omega
     have hfl : sw ++ (cs.take j).flatMap sB = setsW (l.take (k + 1)) := by rw [HSW.out, hjn2, HNS.out, List.take_length]
     rw [hfl] at htw;have HTF := Bas.hid htw;have HBF := Bas.hid hb;clear htw hb hfl;go_wp2_with (fail);go_roundw
     case rel => exact ⟨k + 1, _, _, by omega, by go_num, rfl, rfl, by rw [HRWX.out]; exact HTF.out, HBF.out⟩
     case measure => simp [intOf]; omega
  ·have hkn2 : k = n := by omega
   have h := HT.out;rw [hkn2, HN.out, List.take_length] at h;have HF := Bas.hid h;obtain ⟨ad8, cp8, rfl⟩ := row_slice h.r;have hbl : (headW l.length ++ rowsW l.length 0 l).length ≤ 12 + 360 := by rw [List.length_append, headW_len, rowsW_len]; omega
   have hsl : (setsW l).length ≤ 7200 := by
    have := setsW_le l HOK.out l.length (Nat.le_refl _);rw [List.take_length] at this; omega
   obtain ⟨sl, hsl2⟩ : ∃ sl, sl = (setsW l).length := ⟨_, rfl⟩;have HSL := Bas.hid hsl2;rw [← hsl2] at hsl ⊢;clear hb htw h hsl2 HT;go_wp2_with (at_builtin; refine Row.fence ?_);refine Row.unfence ?_;refine Row.append_at rfl _ _ 47 5 rfl (.int .u8 0) 1 1 Tryz.underlying47 info8 rfl (by decide) w.heap.size vb _ _ rfl HF.out.l (.slice ad8 sl cp8) sl _ rfl (by rw [HSL.out]; exact Row.leads_owned HF.out.r) (by simp [HSL.out]) (by simp; intros; rfl) (by unfold maxLen; omega) (by omega) HB.out.size ?_
   intro v9 w9 h91 h92 _ h93;have h91' : w9.ownsRow w.heap.size 5 1 v9 (featW l).length ((featW l).map (Value.int .u8)) := by
    unfold featW;simpa only [List.map_append, List.length_append, HSL.out, Nat.add_assoc, List.append_assoc] using h91
   have HB9 := Bas.hid (HB.out.grown h92 HB.out.size (fun g hg => (Row.own_block HF.out.l hg).1))
   have HO9 := Bas.hid h91';obtain ⟨ad9, cp9, rfl⟩ := row_slice h91';clear h91 h92 h93 h91' HF;go_wp2_with (fail);go_ret;exact ⟨_, rfl, HO9.out, HB9.out⟩
end Ft
namespace Vw
theorem VB_apart {w w' : World} {a : Option Addr} {D : List Int} {r : Option Nat} (h : VB w a D) (hg : w.grownBy w' r) (hr : ∀ g, r = some g → ∀ x, a = some x → D ≠ [] → x.block ≠ g) : VB w' a D :=
 ⟨h.len, h.byte, fun i hi => by
  obtain ⟨b, o, h1, h2⟩ := h.cell i hi;refine ⟨b, o, h1, (Bas.gcell hg (World.block_lt_of_cell? _ _ h2) (fun e => ?_)).trans h2⟩
  exact hr _ e _ h1 (by intro e0; rw [e0] at hi; simp at hi) rfl⟩
end Vw
namespace Ch
open Vw Wr
structure WSub where
 cover : Int
 flags : Int
 data : List Int
structure WChain where
 first : Int
 rules : List RuleD
 subs : List WSub
 more : Int
def wRuleC (r : RuleD) : List Value := [.int .u16 r.type, .int .u16 r.value, .int .u32 r.enable, .int .u32 r.disable]
def wSubC (x : WSub × Value) : List Value := [.int .u32 x.1.cover, .int .u32 x.1.flags, x.2]
def wChainC (x : WChain × (Value × Value)) : List Value := [.int .u32 x.1.first, x.2.1, x.2.2, .int .u8 x.1.more]
def okRule (r : RuleD) : Prop := (0 ≤ r.type ∧ r.type ≤ 65535) ∧ (0 ≤ r.value ∧ r.value ≤ 65535) ∧ (0 ≤ r.enable ∧ r.enable ≤ 4294967295) ∧ (0 ≤ r.disable ∧ r.disable ≤ 4294967295)
def okSub (s : WSub) : Prop := (0 ≤ s.cover ∧ s.cover ≤ 4294967295) ∧ (0 ≤ s.flags ∧ s.flags ≤ 4294967295) ∧ (∀ x ∈ s.data, 0 ≤ x ∧ x ≤ 255) ∧ s.data.length ≤ 400
def okChain (c : WChain) : Prop := (0 ≤ c.first ∧ c.first ≤ 4294967295) ∧ (0 ≤ c.more ∧ c.more ≤ 255) ∧ (∀ r ∈ c.rules, okRule r) ∧ (∀ s ∈ c.subs, okSub s) ∧ c.rules.length ≤ 40 ∧ c.subs.length ≤ 10
def WData (w : World) (v : Value) (D : List Int) : Prop := ∃ a cap, v = .slice a D.length cap ∧ VB w a D ∧ D.length ≤ cap ∧ cap ≤ maxLen ∧ (a = none → cap = 0)
def WSubs (w : World) (v : Value) (l : List WSub) : Prop := ∃ ds : List Value, ds.length = l.length ∧ Row.Leads w v l.length ((l.zip ds).flatMap wSubC) ∧ ∀ (j : Nat) (s : WSub) (d : Value), l[j]? = some s → ds[j]? = some d → WData w d s.data
def WChains (w : World) (v : Value) (l : List WChain) : Prop := ∃ rs : List (Value × Value), rs.length = l.length ∧ Row.Leads w v l.length ((l.zip rs).flatMap wChainC) ∧
 ∀ (i : Nat) (c : WChain) (r : Value × Value), l[i]? = some c → rs[i]? = some r → Row.Leads w r.1 c.rules.length (c.rules.flatMap wRuleC) ∧ WSubs w r.2 c.subs
theorem vb_leads {w : World} {a : Option Addr} {D : List Int} (h : VB w a D) (cap : Nat) (hn : a = none → cap = 0) : Row.Leads w (.slice a D.length cap) D.length (D.map (Value.int .u8)) := by
 cases a with
 | none =>
  have h0 : D = [] := by
   cases D with
   | nil => rfl
   | cons x D => obtain ⟨b, o, h1, _⟩ := h.cell 0 (by simp); cases h1
  subst h0;rw [hn rfl];exact .inl ⟨rfl, rfl, rfl⟩
 | some x =>
  refine .inr ⟨x, cap, rfl, fun j u hu => ?_⟩
  have hj : j < D.length := by have := (List.getElem?_eq_some_iff.1 hu).1; simpa using this
  obtain ⟨b, o, h1, h2⟩ := h.cell j hj;cases h1;rw [Addr.add_lit, h2];rw [List.getElem?_map, List.getElem?_eq_getElem hj] at hu;rw [← hu]; simp [hj]
def ruleB (r : RuleD) : List Int := putB r.type 2 ++ putB r.value 2 ++ putB r.enable 4 ++ putB r.disable 4
def subB (s : WSub) : List Int := putB (12 + (s.data.length : Int)) 4 ++ putB s.cover 4 ++ putB s.flags 4 ++ s.data
def inB (c : WChain) : List Int := c.rules.flatMap ruleB ++ c.subs.flatMap subB ++ List.replicate (c.more % 8).toNat 0
def chainB (c : WChain) : List Int := putB c.first 4 ++ putB (16 + ((inB c).length : Int)) 4 ++ putB (c.rules.length : Int) 4 ++ putB (c.subs.length : Int) 4 ++ inB c
def headB (n : Nat) : List Int := putB 2 2 ++ putB 0 2 ++ putB (n : Int) 4
def writeB (l : List WChain) : List Int := headB l.length ++ l.flatMap chainB
theorem ruleB_len (r : RuleD) : (ruleB r).length = 12 := by simp [ruleB, putB_len]
theorem subB_len (s : WSub) : (subB s).length = 12 + s.data.length := by simp [subB, putB_len]; omega
theorem headB_len (n : Nat) : (headB n).length = 8 := by simp [headB, putB_len]
theorem inB_len_le (c : WChain) (h : okChain c) : (inB c).length ≤ 4607 := by
 obtain ⟨_, h2, _, h4, h5, h6⟩ := h;have a1 := Row.flat_len_le ruleB 12 c.rules (fun r _ => by rw [ruleB_len]; exact Nat.le_refl _)
 have a2 := Row.flat_len_le subB 412 c.subs (fun s hs => by rw [subB_len]; have := (h4 s hs).2.2.2; omega)
 simp only [inB, List.length_append, List.length_replicate];omega
theorem chainB_len_le (c : WChain) (h : okChain c) : (chainB c).length ≤ 4623 := by
 have := inB_len_le c h;simp only [chainB, List.length_append, putB_len];omega
theorem wRuleC_len (r : RuleD) : (wRuleC r).length = 4 := rfl
theorem wSubC_len (x : WSub × Value) : (wSubC x).length = 3 := rfl
theorem wChainC_len (x : WChain × (Value × Value)) : (wChainC x).length = 4 := rfl
end Ch
end Go.Proofs.YtceihjjjmcgmaaaGreat
