/- Parts of a proof: texts VerbB, VerbL, RearTake, RearD, RearRun1, RearRun, LnGlyphs, LnInsert, Swap, StEnts, CtxD, CtxSwap, CtxRun, CtxTake, InsD, InsTake, LigD. -/
import Derived.Test.YtoncnjhhdlpliaaGreatMA04
namespace Go.Proofs.YtoncnjhhdlpliaaGreat
open Go.RowKit
namespace Vb
def orderL (v n : Nat) : List Int := spanL (n - (endsV v).2.1) n (endsV v).2.2.2 ++ spanL (endsV v).1 (n - (endsV v).2.1) false ++ spanL 0 (endsV v).1 (endsV v).2.2.1
def NewIntsB (w : World) (xs : List Int) (e : Ending) (w' : World) : Prop :=
 ∃ v, e = .returned (.tuple #[v, .bool true]) ∧ w'.ownsRow w.heap.size 3 1 v xs.length (xs.map (Value.int .i64)) ∧ Below w.heap.size w w'
def NoIntsB (w : World) (e : Ending) (w' : World) : Prop := e = .returned (.tuple #[.slice none 0 0, .bool false]) ∧ Below w.heap.size w w'
theorem spanL_len (p q : Nat) (t : Bool) : (spanL p q t).length = q - p := by simp [spanL]
set_option maxHeartbeats 1000000 in
theorem order_out (v n : Int) (w : World) (h : v ≤ 0 ∨ 16 ≤ v) : Calls Tryz.prog 81 #[.int .i64 v, .int .i64 n] w (NoIntsB w) := by
 rcases h with h | h
 ·go_enter Tryz.func81, Tryz.ntmps81
  go_wp2_with (fail)
  go_ret2
  exact ⟨rfl, Below.refl _ _⟩
 ·have h' : ¬ v ≤ 0 := by omega
  go_enter Tryz.func81, Tryz.ntmps81
  go_wp2_with (fail)
  go_ret2
  exact ⟨rfl, Below.refl _ _⟩
set_option maxHeartbeats 1000000 in
theorem order_short (v : Nat) (n : Int) (w : World) (h1 : 1 ≤ v) (h2 : v ≤ 15) (h : n < ((endsV v).1 + (endsV v).2.1 : Nat)) : Calls Tryz.prog 81 #[.int .i64 v, .int .i64 n] w (NoIntsB w) := by
 have O := of_any v w h1 h2
 have hl := ends_le v
 generalize (endsV v).1 = l at *
 generalize (endsV v).2.1 = r at *
 generalize (endsV v).2.2.1 = tl at *
 generalize (endsV v).2.2.2 = tr at *
 have HO := Bas.hid O
 clear O
 go_enter Tryz.func81, Tryz.ntmps81
 go_wp2_with (fail)
 refine HO.out.mono ?_
 rintro e w1 ⟨rfl, hb⟩
 go_wp2_with (fail)
 go_ret2
 exact ⟨rfl, hb.alloc hb.size _⟩
set_option maxHeartbeats 2000000 in
theorem order_yes (v n : Nat) (w : World) (h1 : 1 ≤ v) (h2 : v ≤ 15) (h : (endsV v).1 + (endsV v).2.1 ≤ n) (hn : n ≤ 1000000) : Calls Tryz.prog 81 #[.int .i64 v, .int .i64 n] w (NewIntsB w (orderL v n)) := by
 have O := of_any v w h1 h2
 have hl := ends_le v
 unfold orderL
 generalize (endsV v).1 = l at *
 generalize (endsV v).2.1 = r at *
 generalize (endsV v).2.2.1 = tl at *
 generalize (endsV v).2.2.2 = tr at *
 have HO := Bas.hid O
 clear O
 have e1 : ((n : Int) - (r : Int)) = ((n - r : Nat) : Int) := by omega
 have S1 := fun w => span_any (n - r) n tr w (by omega) (by omega)
 have S2 := fun w => span_any l (n - r) false w (by omega) (by omega)
 have S3 := fun w => span_any 0 l tl w (by omega) (by omega)
 have l1 := spanL_len (n - r) n tr
 have l2 := spanL_len l (n - r) false
 have l3 := spanL_len 0 l tl
 rw [← e1] at S1 S2
 generalize spanL (n - r) n tr = x1 at *
 generalize spanL l (n - r) false = x2 at *
 generalize spanL 0 l tl = x3 at *
 have i1 : x1.length ≤ 1000000 := by omega
 have i2 : x2.length ≤ 1000000 := by omega
 have i3 : x3.length ≤ 1000000 := by omega
 obtain ⟨xs, hxs⟩ : ∃ xs, xs = x1 ++ x2 ++ x3 := ⟨_, rfl⟩
 rw [← hxs]
 have HX := Bas.hid hxs
 clear hxs
 have HS1 := Bas.hid S1
 have HS2 := Bas.hid S2
 have HS3 := Bas.hid S3
 have L1 := Bas.hid l1
 have L2 := Bas.hid l2
 have L3 := Bas.hid l3
 clear S1 S2 S3 l1 l2 l3 e1
 go_enter Tryz.func81, Tryz.ntmps81
 go_wp2_with (fail)
 refine HO.out.mono ?_
 clear HO
 rintro e w1 ⟨rfl, hb1⟩
 go_wp2_with (fail)
 have HB2 : Below w.heap.size w (w1.alloc (.cells #[.int .i64 l, .int .i64 r, .bool tl, .bool tr] 210)) := hb1.alloc hb1.size _
 refine (HS1.out _).mono ?_
 rintro e w2 ⟨v2, rfl, hown2, hb2⟩
 obtain ⟨hc2, hf2⟩ := Bas.bcell hb2
 have HB2' := Bas.on HB2 hb2
 go_wp2_with (fail)
 refine (HS2.out _).mono ?_
 rintro e w3 ⟨v3, rfl, hown3, hb3⟩
 have d3' : w3.ownsRow (w1.heap.size + 1) 3 1 v2 x1.length (x1.map (Value.int .i64)) := Row.owned_base (Row.owned_below hown2 hb3) (by simp)
 have d3 : w3.ownsRow w1.heap.size 3 1 v2 x1.length (x1.map (Value.int .i64)) := Row.owned_base (Row.owned_below hown2 hb3) (by simp)
 have HB3 := Bas.on HB2' hb3
 have hs1 := hb1.size
 have hs2 := hb2.size
 have hs3 := hb3.size
 simp only [World.size_alloc] at hs2
 have hcell : ∀ o, w3.cell? ⟨w1.heap.size, o, none⟩ = (w1.alloc (.cells #[.int .i64 l, .int .i64 r, .bool tl, .bool tr] 210)).cell? ⟨w1.heap.size, o, none⟩ := fun o => (hb3.cell (p := ⟨w1.heap.size, o, none⟩) (by show w1.heap.size < _; omega)).trans (hc2 _ _ (by simp))
 have q0 : w3.cell? ⟨w1.heap.size, 0, none⟩ = some (.int .i64 l) := by rw [hcell]; simp
 have q2 : w3.cell? ⟨w1.heap.size, 2, none⟩ = some (.bool tl) := by rw [hcell]; simp
 clear hcell hc2 hf2 hown2
 go_wp2_with (at_builtin; refine Row.append_any rfl _ _ 23 3 rfl (.int .i64 0) 1 8 Tryz.underlying23 infoI rfl (by decide) w1.heap.size v2 x1.length _ rfl d3 v3 x2.length _ rfl (Row.leads_owned hown3) (by simp) (by intro u hu; obtain ⟨y, _, rfl⟩ := List.mem_map.1 hu; rfl) (by unfold maxLen; omega) (by omega) (by omega) ?_)
 intro v4 w4 hown4 hg4 _
 have hv2 : ∀ g, v2.ownBlock = some g → w1.heap.size + 1 ≤ g := fun g hg => by
  rcases Row.owned_parts d3' with ⟨rfl, _⟩ | ⟨g', cp, rfl, hg', _⟩
  ·cases hg
  ·cases hg; exact hg'
 have hg4s := hg4.size
 have HB4 : Below w.heap.size w w4 := HB3.grown hg4 (by omega) (fun g hg => by have := hv2 g hg; omega)
 have r0 : w4.cell? ⟨w1.heap.size, 0, none⟩ = some (.int .i64 l) := (Bas.gcell hg4 (by omega) (fun h => by have := hv2 _ h; omega)).trans q0
 have r2 : w4.cell? ⟨w1.heap.size, 2, none⟩ = some (.bool tl) := (Bas.gcell hg4 (by omega) (fun h => by have := hv2 _ h; omega)).trans q2
 have hown4' : w4.ownsRow w.heap.size 3 1 v4 (x1.length + x2.length) ((x1 ++ x2).map (Value.int .i64)) := by
  rw [List.map_append]; exact Row.owned_base hown4 (by omega)
 clear d3 d3' hown3 q0 q2 hown4 hg4 HB2 HB2' HB3 hb1 hb2 hb3 hs2
 go_wp2_with (fail)
 refine (HS3.out _).mono ?_
 rintro e w5 ⟨v5, rfl, hown5, hb5⟩
 have d5 := Row.owned_below hown4' hb5
 have HB5 := HB4.trans (hb5.mono HB4.size)
 have hs5 := HB5.size
 clear hown4' r0 r2 HB4
 go_wp2_with (at_builtin; refine Row.append_any rfl _ _ 23 3 rfl (.int .i64 0) 1 8 Tryz.underlying23 infoI rfl (by decide) w.heap.size v4 (x1.length + x2.length) _ rfl d5 v5 x3.length _ rfl (Row.leads_owned hown5) (by simp) (by intro u hu; obtain ⟨y, _, rfl⟩ := List.mem_map.1 hu; rfl) (by unfold maxLen; omega) (by omega) (by omega) ?_)
 intro v6 w6 hown6 hg6 _
 have HB6 : Below w.heap.size w w6 := HB5.grown hg6 (by omega) (fun g hg => by
  rcases Row.owned_parts d5 with ⟨rfl, _⟩ | ⟨g', cp, rfl, hg', _⟩
  ·cases hg
  ·cases hg; exact hg')
 have hown7 : w6.ownsRow w.heap.size 3 1 v6 xs.length (xs.map (Value.int .i64)) := by
  rw [HX.out]; simpa only [List.map_append, List.append_assoc, List.length_append, Nat.add_assoc] using hown6
 clear hown6 hg6 d5 hown5
 go_wp2_with (fail)
 go_ret2
 exact ⟨v6, rfl, hown7, HB6⟩
end Vb
end Go.Proofs.YtoncnjhhdlpliaaGreat
namespace Go.Proofs.YtoncnjhhdlpliaaGreat
open Go.RowKit
namespace Vb
def ordF (l r : Nat) (tl tr : Bool) (n i : Nat) : Int :=
 if i < r then (if tr then (n : Int) - 1 - i else (n : Int) - r + i)
 else if i < n - l then (l : Int) + (i - r) else (if tl then (l : Int) - 1 - (i - (n - l)) else (i : Int) - (n - l))
theorem spanL_get (p q : Nat) (t : Bool) (i : Nat) (h : i < q - p) : (spanL p q t)[i]? = some (if t then ((q : Int) - 1 - i) else ((p : Int) + i)) := by
 unfold spanL
 rw [List.getElem?_map, List.getElem?_range h]
 rfl
theorem order_len (v n : Nat) (h : (endsV v).1 + (endsV v).2.1 ≤ n) : (orderL v n).length = n := by
 unfold orderL
 rw [List.length_append, List.length_append, spanL_len, spanL_len, spanL_len]
 omega
theorem order_get (v n i : Nat) (h : (endsV v).1 + (endsV v).2.1 ≤ n) (hi : i < n) : (orderL v n)[i]? = some (ordF (endsV v).1 (endsV v).2.1 (endsV v).2.2.1 (endsV v).2.2.2 n i) := by
 unfold orderL
 generalize (endsV v).1 = l at *
 generalize (endsV v).2.1 = r at *
 generalize (endsV v).2.2.1 = tl at *
 generalize (endsV v).2.2.2 = tr at *
 have l1 := spanL_len (n - r) n tr
 have l2 := spanL_len l (n - r) false
 unfold ordF
 by_cases h1 : i < r
 ·rw [List.getElem?_append_left (by rw [List.length_append]; omega), List.getElem?_append_left (by omega), spanL_get _ _ _ _ (by omega), if_pos h1]
  cases tr <;> simp <;> omega
 ·rw [if_neg h1]
  by_cases h2 : i < n - l
  ·rw [List.getElem?_append_left (by rw [List.length_append]; omega), List.getElem?_append_right (by omega), spanL_get _ _ _ _ (by omega), if_pos h2]
   simp only [Bool.false_eq_true, if_false]
   congr 1
   omega
  ·rw [List.getElem?_append_right (by rw [List.length_append]; omega), if_neg h2, List.length_append, spanL_get _ _ _ _ (by omega)]
   cases tl <;> simp <;> omega
theorem ordF_bd (l r : Nat) (tl tr : Bool) (n i : Nat) (h : l + r ≤ n) (hi : i < n) : 0 ≤ ordF l r tl tr n i ∧ ordF l r tl tr n i < n := by
 unfold ordF
 cases tl <;> cases tr <;> simp only [Bool.false_eq_true, if_false, if_true] <;> split <;> (try split) <;> omega
theorem ordF_inj (l r : Nat) (tl tr : Bool) (n i j : Nat) (h : l + r ≤ n) (hi : i < n) (hj : j < i) : ordF l r tl tr n j ≠ ordF l r tl tr n i := by
 unfold ordF
 cases tl <;> cases tr <;> simp only [Bool.false_eq_true, if_false, if_true] <;> repeat' split <;> omega
end Vb
end Go.Proofs.YtoncnjhhdlpliaaGreat
namespace Go.Proofs.YtoncnjhhdlpliaaGreat
open Go.RowKit
namespace Rr
open Vw Sk Ch Lk St
def RearAt (w : World) (v : Value) (M : MachD) : Prop := ∃ g gm, v = .pointer (some ⟨g, 0, none⟩) ∧ w.heap[g]? = some (.cells #[.pointer (some ⟨gm, 0, none⟩)] 156 (0, 0)) ∧ MachAt w (.pointer (some ⟨gm, 0, none⟩)) M
theorem RearAt.below {w w' : World} {v : Value} {M : MachD} (h : RearAt w v M) (hb : Below w.heap.size w w') : RearAt w' v M := by
 obtain ⟨g, gm, h1, h2, h3⟩ := h
 exact ⟨g, gm, h1, (hb.block _ (heap_lt h2)).trans h2, h3.below hb⟩
def RearTakeP (w : World) (bs : List Int) (gl : Nat) (e : Ending) (w' : World) : Prop :=
 Below w.heap.size w w' ∧ match parseSt bs gl 0 with
  | none => e = .panicked short
  | some M => ∃ v, e = .returned v ∧ Lives w.heap.size (fun u => RearAt u v M) w'
theorem rearTake_any (a : Option Addr) (len cap : Nat) (bs : List Int) (gl : Nat) (w : World) (hl : len ≤ cap) (hc : cap ≤ maxLen) (hv : VB w a bs) (hbl : bs.length = len) (hg1 : 1 ≤ gl) (hg2 : gl ≤ 65536) :
  Calls Tryz.prog 55 #[.agg #[.slice a len cap], .int .i64 gl] w (RearTakeP w bs gl) := by
 have hb1 := (Below.refl w.heap.size w).alloc (Nat.le_refl _) (.cells #[.slice a len cap] 52)
 have k1 := Bas.heap_new w (.cells #[.slice a len cap] 52)
 have HB1 := Bas.hid hb1
 have HT := Bas.hid (stTake_any a len cap bs gl 0 _ hl hc (hv.below hb1) hbl (by omega) hg1 hg2)
 have c0 := cell_of_heap (i := 0) k1 rfl
 have lk := heap_lt k1
 clear hb1 hv
 go_enter Tryz.func55, Tryz.ntmps55
 go_wp2_with (fail)
 generalize w.alloc (.cells #[.slice a len cap] 52) = W1 at *
 refine HT.out.mono ?_
 rintro e w2 ⟨hb2, h2⟩
 have HB2 := Bas.hid (HB1.out.trans (hb2.mono HB1.out.size))
 clear hb2 HT
 cases hp : parseSt bs gl 0 with
 | none =>
  rw [hp] at h2
  simp only at h2
  subst h2
  go_wp2_with (fail)
  exact ⟨rfl, HB2.out, by rw [hp]⟩
 | some M =>
  rw [hp] at h2
  simp only at h2
  obtain ⟨v, rfl, hm⟩ := h2
  have hv2 : ∃ gm, v = .pointer (some ⟨gm, 0, none⟩) := by
   obtain ⟨gm, _, _, _, _, h, _⟩ := hm.now
   exact ⟨gm, h⟩
  obtain ⟨gm, rfl⟩ := hv2
  have HM := Bas.hid (hm.mono HB1.out.size)
  have HP := Bas.hid hp
  clear hm hp
  go_wp2_with (fail)
  have k3 := Bas.heap_new w2 (.cells #[.pointer (some ⟨gm, 0, none⟩)] 156)
  have hb3 := (Below.refl w2.heap.size w2).alloc (Nat.le_refl _) (.cells #[.pointer (some ⟨gm, 0, none⟩)] 156)
  go_ret
  exact ⟨HB2.out.trans (hb3.mono HB2.out.size), by rw [HP.out]; exact ⟨_, rfl, fun u hu => ⟨_, gm, rfl, lives_heap k3 HB2.out.size u hu, HM.out.below hb3 u hu⟩⟩⟩
end Rr
end Go.Proofs.YtoncnjhhdlpliaaGreat
namespace Go.Proofs.YtoncnjhhdlpliaaGreat
open Go.RowKit
namespace Dr
theorem i64_two (x : Int) (k : Nat) (hk : k < 16) (h0 : 0 ≤ x) (h1 : x ≤ 65535) : bits .and .i64 x ((2 ^ k : Nat) : Int) = x / ((2 ^ k : Nat) : Int) % 2 * ((2 ^ k : Nat) : Int) := by
 obtain ⟨n, rfl⟩ := Int.eq_ofNat_of_zero_le h0
 have hp : 2 ^ k < 2 ^ 16 := Nat.pow_lt_pow_right (by omega) hk
 rw [i64_and_nat n (2 ^ k) (by omega) (by omega), nat_bit k n]
 simp
theorem i64_low (x : Int) (k : Nat) (hk : k ≤ 16) (h0 : 0 ≤ x) (h1 : x ≤ 65535) : bits .and .i64 x ((2 ^ k - 1 : Nat) : Int) = x % ((2 ^ k : Nat) : Int) := by
 obtain ⟨n, rfl⟩ := Int.eq_ofNat_of_zero_le h0
 have hp : 2 ^ k ≤ 2 ^ 16 := Nat.pow_le_pow_right (by omega) hk
 rw [i64_and_nat n (2 ^ k - 1) (by omega) (by omega), Nat.and_two_pow_sub_one_eq_mod]
 simp
theorem flag_at (x : Int) (k : Nat) (m : Int) (hm : m = ((2 ^ k : Nat) : Int)) (hk : k < 16) (h0 : 0 ≤ x) (h1 : x ≤ 65535) : bits .and .i64 x m = if x / m % 2 = 1 then m else 0 := by
 subst hm
 rw [i64_two x k hk h0 h1]
 have : x / ((2 ^ k : Nat) : Int) % 2 = 0 ∨ x / ((2 ^ k : Nat) : Int) % 2 = 1 := by omega
 rcases this with h | h <;> rw [h] <;> simp
end Dr
namespace Rr
open Ch Lk St Ln Dr Vb
theorem order_ok (v n : Nat) (h : (endsV v).1 + (endsV v).2.1 ≤ n) : orderB n (orderL v n) = true := by
 simp only [orderB, Bool.and_eq_true, decide_eq_true_eq]
 have hl := order_len v n h
 constructor
 ·intro k hk
  obtain ⟨i, hi⟩ := List.getElem?_of_mem hk
  have hin : i < n := by have := (List.getElem?_eq_some_iff.1 hi).1; omega
  rw [order_get v n i h hin] at hi
  cases hi
  exact ordF_bd _ _ _ _ n i h hin
 ·refine List.pairwise_iff_getElem.2 fun i j hi hj hij => ?_
  rw [hl] at hi hj
  have e1 := order_get v n i h hi
  have e2 := order_get v n j h hj
  have g1 : (orderL v n)[i]? = some (orderL v n)[i] := List.getElem?_eq_getElem (by omega)
  have g2 : (orderL v n)[j]? = some (orderL v n)[j] := List.getElem?_eq_getElem (by omega)
  have e1 := Option.some.inj (g1.symm.trans e1)
  have e2 := Option.some.inj (g2.symm.trans e2)
  rw [e1, e2]
  exact ordF_inj _ _ _ _ n j i h hj hij
theorem ends_pos (v : Nat) (h1 : 1 ≤ v) (h2 : v ≤ 15) : 1 ≤ (endsV v).1 + (endsV v).2.1 := by
 have : v = 1 ∨ v = 2 ∨ v = 3 ∨ v = 4 ∨ v = 5 ∨ v = 6 ∨ v = 7 ∨ v = 8 ∨ v = 9 ∨ v = 10 ∨ v = 11 ∨ v = 12 ∨ v = 13 ∨ v = 14 ∨ v = 15 := by omega
 rcases this with rfl | rfl | rfl | rfl | rfl | rfl | rfl | rfl | rfl | rfl | rfl | rfl | rfl | rfl | rfl <;> decide
def rearA (s : Int × Int) (n : Nat) (i : Int) (e : EntD) : Int := if e.flags / 32768 % 2 = 1 then (if (n : Int) < i then (n : Int) else i) else s.1
def rearB (s : Int × Int) (n : Nat) (i : Int) (e : EntD) : Int := if e.flags / 8192 % 2 = 1 then (if (n : Int) < i + 1 then (n : Int) else i + 1) else s.2
def rearX (xs : List Gl) (v : Nat) (f l : Int) : List Gl :=
 if 1 ≤ v ∧ (((endsV v).1 + (endsV v).2.1 : Nat) : Int) ≤ l - f then ordP xs f.toNat (orderL v (l - f).toNat) else xs
def rearF : PlF (Int × Int) := fun s xs i e => ((rearA s xs.length i e, rearB s xs.length i e), rearX xs (e.flags % 16).toNat (rearA s xs.length i e) (rearB s xs.length i e))
def RearInv (s : Int × Int) (xs : List Gl) : Prop := (0 ≤ s.1 ∧ s.1 ≤ xs.length) ∧ (0 ≤ s.2 ∧ s.2 ≤ xs.length) ∧ xs.length ≤ 1000000
theorem rear_bd {s : Int × Int} {xs : List Gl} (h : RearInv s xs) (i : Int) (hi : 0 ≤ i) (e : EntD) : (0 ≤ rearA s xs.length i e ∧ rearA s xs.length i e ≤ xs.length) ∧ (0 ≤ rearB s xs.length i e ∧ rearB s xs.length i e ≤ xs.length) := by
 obtain ⟨h1, h2, h3⟩ := h
 unfold rearA rearB
 constructor
 ·split
  ·split <;> omega
  ·exact h1
 ·split
  ·split <;> omega
  ·exact h2
theorem rearX_len (xs : List Gl) (v : Nat) (f l : Int) (hf : 0 ≤ f) (hl : l ≤ xs.length) : (rearX xs v f l).length = xs.length := by
 unfold rearX
 split
 ·rename_i h
  exact ordP_len xs _ _ (by rw [order_len v _ (by omega)]; omega)
 ·rfl
theorem rear_inv {s : Int × Int} {xs : List Gl} (h : RearInv s xs) (i : Int) (hi : 0 ≤ i) (e : EntD) : RearInv (rearF s xs i e).1 (rearF s xs i e).2 := by
 obtain ⟨h1, h2⟩ := rear_bd h i hi e
 unfold RearInv
 have hl : (rearF s xs i e).2.length = xs.length := rearX_len xs _ _ _ h1.1 h2.2
 rw [hl]
 exact ⟨h1, h2, h.2.2⟩
def rearBox (bx F L B g : Nat) (s : Int × Int) (u : World) : Prop :=
 u.heap[bx]? = some (.cells #[.pointer (some ⟨g, 0, none⟩)] 32 (0, 0)) ∧ u.heap[F]? = some (.cells #[.int .i64 s.1] 3 (0, 0)) ∧ u.heap[L]? = some (.cells #[.int .i64 s.2] 3 (0, 0)) ∧
 u.heap[B]? = some (.cells #[.func (.func 80) #[] #[.pointer (some ⟨bx, 0, none⟩), .pointer (some ⟨F, 0, none⟩), .pointer (some ⟨L, 0, none⟩)]] 166 (0, 0))
def rearBx (bx F L B : Nat) (k : Nat) : Prop := k = bx ∨ k = F ∨ k = L ∨ k = B
theorem rear_boxes (bx F L B g : Nat) : Boxes (rearBox bx F L B g) (rearBx bx F L B) := by
 refine ⟨fun s u h k hk => ?_, fun s u u' T h hm hT => ?_⟩
 ·obtain ⟨h1, h2, h3, h4⟩ := h
  rcases hk with rfl | rfl | rfl | rfl
  ·exact heap_lt h1
  ·exact heap_lt h2
  ·exact heap_lt h3
  ·exact heap_lt h4
 ·obtain ⟨h1, h2, h3, h4⟩ := h
  exact ⟨hm.heap h1 (fun h => hT _ h (.inl rfl)), hm.heap h2 (fun h => hT _ h (.inr (.inl rfl))), hm.heap h3 (fun h => hT _ h (.inr (.inr (.inl rfl)))), hm.heap h4 (fun h => hT _ h (.inr (.inr (.inr rfl))))⟩
end Rr
end Go.Proofs.YtoncnjhhdlpliaaGreat
namespace Go.Proofs.YtoncnjhhdlpliaaGreat
open Go.RowKit
namespace Rr
open Ch Lk St Ln Dr Vb
set_option maxRecDepth 100000 in
set_option maxHeartbeats 16000000 in
theorem rear1_any (base g bx F L B : Nat) (sv : Value) (s : Int × Int) (xs : List Gl) (u : World) (pl : Int) (e : EntD) (h : LineAt u base g sv xs) (hX : rearBox bx F L B g s u) (hI : RearInv s xs) (hne : bx ≠ F ∧ bx ≠ L ∧ F ≠ L ∧ F ≠ B ∧ L ≠ B)
  (hpl : 0 ≤ pl) (hpl2 : pl ≤ 4398046511104) (hf0 : 0 ≤ e.flags) (hf1 : e.flags ≤ 65535) :
  Calls Tryz.prog 80 (#[.int .i64 pl, .agg #[.int .i64 e.next, .int .i64 e.flags, .int .i64 e.a, .int .i64 e.b]] ++ #[.pointer (some ⟨bx, 0, none⟩), .pointer (some ⟨F, 0, none⟩), .pointer (some ⟨L, 0, none⟩)]) u
   (ActP rearF base g (rearBox bx F L B g) (rearBx bx F L B) RearInv s xs sv u pl e) := by
 have HINV := Bas.hid (rear_inv hI pl hpl e)
 obtain ⟨hA, hBd⟩ := rear_bd hI pl hpl e
 have hXL := hI.2.2
 obtain ⟨s0, s1⟩ := s
 obtain ⟨e0, fl, e2, e3⟩ := e
 obtain ⟨kb0, kF0, kL0, kB0⟩ := hX
 obtain ⟨n1, n2, n3, n4, n5⟩ := hne
 simp only at hf0 hf1 kF0 kL0
 obtain ⟨A, hAA⟩ : ∃ A, rearA (s0, s1) xs.length pl ⟨e0, fl, e2, e3⟩ = A := ⟨_, rfl⟩
 obtain ⟨Z, hZZ⟩ : ∃ Z, rearB (s0, s1) xs.length pl ⟨e0, fl, e2, e3⟩ = Z := ⟨_, rfl⟩
 have HRF : Hid (rearF (s0, s1) xs pl ⟨e0, fl, e2, e3⟩ = ((A, Z), rearX xs (fl % 16).toNat A Z)) := by unfold Hid rearF; rw [hAA, hZZ]
 rw [hAA] at hA
 rw [hZZ] at hBd
 unfold rearA at hAA
 unfold rearB at hZZ
 simp only at hAA hZZ
 have HB1 := Bas.hid ((Below.refl u.heap.size u).alloc (Nat.le_refl _) (.cells #[.int .i64 e0, .int .i64 fl, .int .i64 e2, .int .i64 e3] 162))
 have kE := Bas.heap_new u (.cells #[.int .i64 e0, .int .i64 fl, .int .i64 e2, .int .i64 e3] 162)
 have hL1 := h.below HB1.out
 have kb := (HB1.out.block _ (heap_lt kb0)).trans kb0
 have kF := (HB1.out.block _ (heap_lt kF0)).trans kF0
 have kL := (HB1.out.block _ (heap_lt kL0)).trans kL0
 have kB := (HB1.out.block _ (heap_lt kB0)).trans kB0
 have lu := heap_lt kF0
 have lu2 := heap_lt kL0
 have hgF : g ≠ F := fun e => by rw [e] at h; have := h.head; rw [kF0] at this; cases this
 have hgL : g ≠ L := fun e => by rw [e] at h; have := h.head; rw [kL0] at this; cases this
 have hFl := own_ty h.own kF0 (by decide)
 have hLl := own_ty h.own kL0 (by decide)
 have hbl := own_ty h.own kb0 (by decide)
 have hBl := own_ty h.own kB0 (by decide)
 have hgb : g ≠ bx := fun e => by rw [e] at h; have := h.head; rw [kb0] at this; cases this
 have hgB : g ≠ B := fun e => by rw [e] at h; have := h.head; rw [kB0] at this; cases this
 have HNE := Bas.hid (show (g ≠ F ∧ g ≠ L ∧ g ≠ bx ∧ g ≠ B) ∧ (sv.ownBlock ≠ some F ∧ sv.ownBlock ≠ some L ∧ sv.ownBlock ≠ some bx ∧ sv.ownBlock ≠ some B) from ⟨⟨hgF, hgL, hgb, hgB⟩, hFl, hLl, hbl, hBl⟩)
 have HN := Bas.hid (show bx ≠ F ∧ bx ≠ L ∧ F ≠ L ∧ F ≠ B ∧ L ≠ B from ⟨n1, n2, n3, n4, n5⟩)
 have HE5 := Bas.hid (show F ≠ u.heap.size ∧ L ≠ u.heap.size from ⟨by omega, by omega⟩)
 have HM1 : Hid (Mod (fun k => blk g sv k ∨ rearBx bx F L B k) u (u.alloc (.cells #[.int .i64 e0, .int .i64 fl, .int .i64 e2, .int .i64 e3] 162))) := Mod.of_below HB1.out
 have HLO := Bas.hid h
 have HV0 : 0 ≤ fl % 16 ∧ fl % 16 < 16 := by omega
 have hv16 : bits .and .i64 fl 15 = fl % 16 := i64_low fl 4 (by omega) hf0 hf1
 obtain ⟨vn, hvn⟩ := Int.eq_ofNat_of_zero_le HV0.1
 rw [hvn] at hv16 HV0
 have HVN := Bas.hid hvn
 have q1 := flag_at fl 15 32768 rfl (by omega) hf0 hf1
 have q2 := flag_at fl 13 8192 rfl (by omega) hf0 hf1
 have HXL := Bas.hid hXL
 have HA := Bas.hid hA
 have HZ := Bas.hid hBd
 have HLEN := fun w (hw : LineAt w base g sv xs) => Bas.hid (len_any base g sv xs w hw)
 obtain ⟨m, hm⟩ : ∃ m, xs.length = m := ⟨_, rfl⟩
 have HMM := Bas.hid hm
 rw [hm] at hAA hZZ hXL hA hBd
 have n6 : F ≠ u.heap.size := HE5.out.1
 have n7 : L ≠ u.heap.size := HE5.out.2
 clear h hI kb0 kF0 kL0 kB0 hgF hgL hgb hgB hFl hLl hbl hBl lu lu2 hvn hm
 by_cases z1 : fl / 32768 % 2 = 1
 ·by_cases z2 : fl / 8192 % 2 = 1
  ·rw [if_pos z1] at q1 hAA
   rw [if_pos z2] at q2 hZZ
   clear z1 z2
   have cb := cell_of_heap (i := 0) kb rfl
   have cF := cell_of_heap (i := 0) kF rfl
   have cL := cell_of_heap (i := 0) kL rfl
   have cE := cell_of_heap (i := 1) kE rfl
   have fF := free_of_heap (i := 0) kF
   have fL := free_of_heap (i := 0) kL
   have lb := heap_lt kb
   have lF := heap_lt kF
   have lL := heap_lt kL
   have lE := heap_lt kE
   go_enter Tryz.func80, Tryz.ntmps80
   go_wp2_with (fail)
   generalize (u.alloc (.cells #[.int .i64 e0, .int .i64 fl, .int .i64 e2, .int .i64 e3] 162)) = W1 at *
   have HL0 := Bas.hid (HLEN _ hL1)
   refine HL0.out.mono ?_
   rintro e w2 ⟨rfl, rfl⟩
   rw [HMM.out]
   go_wp2_with (fail)
   clear HL0
   clear cb cF cL cE fF fL lb lF lL lE
   have HM2 := Bas.hid (HM1.out.set (S := fun k => blk g sv k ∨ rearBx bx F L B k) (b := F) (o := 0) (.int .i64 A) (.inl (.inr (.inr (.inl rfl)))))
   have kb2 := (Below.heap_setCell W1 ⟨F, 0, none⟩ (.int .i64 A) bx (by exact HN.out.1)).trans kb
   have kB2 := (Below.heap_setCell W1 ⟨F, 0, none⟩ (.int .i64 A) B (by exact fun e => HN.out.2.2.2.1 e.symm)).trans kB
   have kE2 := (Below.heap_setCell W1 ⟨F, 0, none⟩ (.int .i64 A) u.heap.size (by exact fun e => HE5.out.1 e.symm)).trans kE
   have kF2 := heap_set (i := 0) kF (.int .i64 A)
   have kL2 := (Below.heap_setCell W1 ⟨F, 0, none⟩ (.int .i64 A) L (by exact fun e => HN.out.2.2.1 e.symm)).trans kL
   have hL2 : LineAt (W1.setCell ⟨F, 0, none⟩ (.int .i64 A)) base g sv xs := hL1.mod ((Mod.refl (fun k => k = F) W1).set (.int .i64 A) (.inl rfl)) (fun k hk e => by
    subst e
    rcases hk with hk | hk
    ·exact HNE.out.1.1 hk.symm
    ·exact HNE.out.2.1 hk)
   clear HM1 hL1 kb kF kL kB kE
   have HM1 := HM2
   have hL1 := hL2
   have kb := kb2
   have kF := kF2
   have kL := kL2
   have kB := kB2
   have kE := kE2
   clear HM2 hL2 kb2 kF2 kL2 kB2 kE2
   generalize (W1.setCell ⟨F, 0, none⟩ (.int .i64 A)) = W1 at *
   have cb := cell_of_heap (i := 0) kb rfl
   have cF := cell_of_heap (i := 0) kF rfl
   have cL := cell_of_heap (i := 0) kL rfl
   have cE := cell_of_heap (i := 1) kE rfl
   have fF := free_of_heap (i := 0) kF
   have fL := free_of_heap (i := 0) kL
   have lb := heap_lt kb
   have lF := heap_lt kF
   have lL := heap_lt kL
   have lE := heap_lt kE
   have HL0 := Bas.hid (HLEN _ hL1)
   refine HL0.out.mono ?_
   rintro e w2 ⟨rfl, rfl⟩
   rw [HMM.out]
   go_wp2_with (fail)
   clear HL0
   clear cb cF cL cE fF fL lb lF lL lE
   have HM2 := Bas.hid (HM1.out.set (S := fun k => blk g sv k ∨ rearBx bx F L B k) (b := L) (o := 0) (.int .i64 Z) (.inl (.inr (.inr (.inr (.inl rfl))))))
   have kb2 := (Below.heap_setCell W1 ⟨L, 0, none⟩ (.int .i64 Z) bx (by exact HN.out.2.1)).trans kb
   have kB2 := (Below.heap_setCell W1 ⟨L, 0, none⟩ (.int .i64 Z) B (by exact fun e => HN.out.2.2.2.2 e.symm)).trans kB
   have kE2 := (Below.heap_setCell W1 ⟨L, 0, none⟩ (.int .i64 Z) u.heap.size (by exact fun e => HE5.out.2 e.symm)).trans kE
   have kL2 := heap_set (i := 0) kL (.int .i64 Z)
   have kF2 := (Below.heap_setCell W1 ⟨L, 0, none⟩ (.int .i64 Z) F (by exact HN.out.2.2.1)).trans kF
   have hL2 : LineAt (W1.setCell ⟨L, 0, none⟩ (.int .i64 Z)) base g sv xs := hL1.mod ((Mod.refl (fun k => k = L) W1).set (.int .i64 Z) (.inl rfl)) (fun k hk e => by
    subst e
    rcases hk with hk | hk
    ·exact HNE.out.1.2.1 hk.symm
    ·exact HNE.out.2.2.1 hk)
   clear HM1 hL1 kb kF kL kB kE
   have HM1 := HM2
   have hL1 := hL2
   have kb := kb2
   have kF := kF2
   have kL := kL2
   have kB := kB2
   have kE := kE2
   clear HM2 hL2 kb2 kF2 kL2 kB2 kE2
   generalize (W1.setCell ⟨L, 0, none⟩ (.int .i64 Z)) = W1 at *
   have cb := cell_of_heap (i := 0) kb rfl
   have cF := cell_of_heap (i := 0) kF rfl
   have cL := cell_of_heap (i := 0) kL rfl
   have cE := cell_of_heap (i := 1) kE rfl
   have fF := free_of_heap (i := 0) kF
   have fL := free_of_heap (i := 0) kL
   have lb := heap_lt kb
   have lF := heap_lt kF
   have lL := heap_lt kL
   have lE := heap_lt kE
   have HL1 := Bas.hid hL1
   have HKS := Bas.hid (And.intro (And.intro kb kF) (And.intro kL kB))
   clear hL1 kb kF kL kB kE
   have HDN : Hid (∀ w', Below W1.heap.size W1 w' → rearX xs vn A Z = xs → ActP rearF base g (rearBox bx F L B g) (rearBx bx F L B) RearInv (s0, s1) xs sv u pl ⟨e0, fl, e2, e3⟩ (.returned (.tuple #[])) w') := fun w' hw hx => by
    refine ⟨rfl, sv, ?_, ?_, HINV.out, HM1.out.on hw, fun _ h => .inl h⟩
    ·rw [HRF.out, HVN.out, Int.toNat_natCast, hx]; exact HL1.out.below hw
    ·rw [HRF.out]
     exact ⟨(hw.block _ (heap_lt HKS.out.1.1)).trans HKS.out.1.1, (hw.block _ (heap_lt HKS.out.1.2)).trans HKS.out.1.2, (hw.block _ (heap_lt HKS.out.2.1)).trans HKS.out.2.1, (hw.block _ (heap_lt HKS.out.2.2)).trans HKS.out.2.2⟩
   by_cases hv0 : vn = 0
   ·have HO := Bas.hid (fun w => order_out (vn : Int) (Z - A) w (.inl (by omega)))
    have HNX := Bas.hid (show rearX xs vn A Z = xs by unfold rearX; rw [if_neg (by omega)])
    clear hv0
    with_reducible refine (HO.out _).mono ?_
    rintro e w5 ⟨rfl, hb5⟩
    have HF5 := Bas.hid (HDN.out w5 hb5 HNX.out)
    clear cb cF cL cE fF fL lb lF lL lE
    go_wp2_with (fail)
    go_end0
    exact HF5.out
   ·by_cases hs : Z - A < (((endsV vn).1 + (endsV vn).2.1 : Nat) : Int)
    ·have HO := Bas.hid (fun w => order_short vn (Z - A) w (by omega) (by omega) hs)
     have HNX := Bas.hid (show rearX xs vn A Z = xs by unfold rearX; rw [if_neg (by omega)])
     clear hv0 hs
     with_reducible refine (HO.out _).mono ?_
     rintro e w5 ⟨rfl, hb5⟩
     have HF5 := Bas.hid (HDN.out w5 hb5 HNX.out)
     clear cb cF cL cE fF fL lb lF lL lE
     go_wp2_with (fail)
     go_end0
     exact HF5.out
    ·have hA3 := HA.out
     have hZ3 := HZ.out
     have hX3 := HXL.out
     obtain ⟨nn, hnn⟩ := Int.eq_ofNat_of_zero_le (show 0 ≤ Z - A by omega)
     obtain ⟨an, han⟩ := Int.eq_ofNat_of_zero_le hA3.1
     have hpos : 1 ≤ (endsV vn).1 + (endsV vn).2.1 := ends_pos vn (by omega) (by omega)
     have HO := Bas.hid (fun w => order_yes vn nn w (by omega) (by omega) (by omega) (by omega))
     have HYX : Hid (rearX xs vn A Z = ordP xs an (orderL vn nn)) := by unfold Hid rearX; rw [if_pos (by omega), hnn, han, Int.toNat_natCast, Int.toNat_natCast]
     have HOK := Bas.hid (order_ok vn nn (by omega))
     have HOL := Bas.hid (order_len vn nn (by omega))
     have HFIT : Hid (an + nn ≤ xs.length ∧ 1 ≤ nn) := ⟨by omega, by omega⟩
     have HAN := Bas.hid han
     clear hv0 hs hA3 hZ3 hX3 hpos
     rw [hnn]
     clear hnn
     with_reducible refine (HO.out _).mono ?_
     rintro e w5 ⟨v5, rfl, ho5, hb5⟩
     rw [HOL.out] at ho5
     obtain ⟨a5, c5, rfl⟩ := own_slice ho5
     have hL5 := HL1.out.below hb5
     have kb5 := (hb5.block _ (heap_lt HKS.out.1.1)).trans HKS.out.1.1
     have kF5 := (hb5.block _ (heap_lt HKS.out.1.2)).trans HKS.out.1.2
     have cb5 := cell_of_heap (i := 0) kb5 rfl
     have cF5 := cell_of_heap (i := 0) kF5 rfl
     have lb5 := heap_lt kb5
     have lF5 := heap_lt kF5
     rw [HAN.out] at cF5
     have HORD := Bas.hid (lineOrder_any base g sv _ xs an (orderL vn nn) nn w5 hL5 (fun w' hm' => hm'.leads (Row.leads_owned ho5) (fun ad len cap hv _ hk => by
      have h1 := (Row.own_block ho5 (g := ad.block) (by rw [hv]; rfl)).1
      have h2 := (HL1.out.blk_low _ hk).2
      omega)) HOL.out HFIT.out.2 HFIT.out.1 HOK.out (by have := HXL.out; omega))
     have HB5 := Bas.hid hb5
     clear ho5 hb5 hL5 kb5 kF5 HO
     clear cb cF cL cE fF fL lb lF lL lE
     go_wp2_with (fail)
     refine HORD.out.mono ?_
     rintro e w6 ⟨rfl, sv6, hL6, hm6, ho6⟩
     have hk6 : ∀ {b : Nat} {o : Obj}, W1.heap[b]? = some o → ¬ blk g sv b → w6.heap[b]? = some o := fun h hn => hm6.heap ((HB5.out.block _ (heap_lt h)).trans h) hn
     have HF6 : Hid (ActP rearF base g (rearBox bx F L B g) (rearBx bx F L B) RearInv (s0, s1) xs sv u pl ⟨e0, fl, e2, e3⟩ (.returned (.tuple #[])) w6) := by
      refine ⟨rfl, sv6, ?_, ?_, HINV.out, (HM1.out.on HB5.out).trans hm6 (fun k hk _ => .inl hk), fun k hk => (ho6 k hk).imp id (fun h => Nat.le_trans HM1.out.size (Nat.le_trans HB5.out.size h))⟩
      ·rw [HRF.out, HVN.out, Int.toNat_natCast, HYX.out]; exact hL6
      ·rw [HRF.out]
       exact ⟨hk6 HKS.out.1.1 (fun h => h.elim (fun e => HNE.out.1.2.2.1 e.symm) HNE.out.2.2.2.1), hk6 HKS.out.1.2 (fun h => h.elim (fun e => HNE.out.1.1 e.symm) HNE.out.2.1), hk6 HKS.out.2.1 (fun h => h.elim (fun e => HNE.out.1.2.1 e.symm) HNE.out.2.2.1), hk6 HKS.out.2.2 (fun h => h.elim (fun e => HNE.out.1.2.2.2 e.symm) HNE.out.2.2.2.2)⟩
     clear hL6 hm6 ho6 hk6 cb5 cF5 lb5 lF5 HORD
     go_wp2_with (fail)
     go_end0
     exact HF6.out
  ·rw [if_pos z1] at q1 hAA
   rw [if_neg z2] at q2 hZZ
   rw [hZZ] at kL
   clear hZZ
   clear z1 z2
   have cb := cell_of_heap (i := 0) kb rfl
   have cF := cell_of_heap (i := 0) kF rfl
   have cL := cell_of_heap (i := 0) kL rfl
   have cE := cell_of_heap (i := 1) kE rfl
   have fF := free_of_heap (i := 0) kF
   have fL := free_of_heap (i := 0) kL
   have lb := heap_lt kb
   have lF := heap_lt kF
   have lL := heap_lt kL
   have lE := heap_lt kE
   go_enter Tryz.func80, Tryz.ntmps80
   go_wp2_with (fail)
   generalize (u.alloc (.cells #[.int .i64 e0, .int .i64 fl, .int .i64 e2, .int .i64 e3] 162)) = W1 at *
   have HL0 := Bas.hid (HLEN _ hL1)
   refine HL0.out.mono ?_
   rintro e w2 ⟨rfl, rfl⟩
   rw [HMM.out]
   go_wp2_with (fail)
   clear HL0
   clear cb cF cL cE fF fL lb lF lL lE
   have HM2 := Bas.hid (HM1.out.set (S := fun k => blk g sv k ∨ rearBx bx F L B k) (b := F) (o := 0) (.int .i64 A) (.inl (.inr (.inr (.inl rfl)))))
   have kb2 := (Below.heap_setCell W1 ⟨F, 0, none⟩ (.int .i64 A) bx (by exact HN.out.1)).trans kb
   have kB2 := (Below.heap_setCell W1 ⟨F, 0, none⟩ (.int .i64 A) B (by exact fun e => HN.out.2.2.2.1 e.symm)).trans kB
   have kE2 := (Below.heap_setCell W1 ⟨F, 0, none⟩ (.int .i64 A) u.heap.size (by exact fun e => HE5.out.1 e.symm)).trans kE
   have kF2 := heap_set (i := 0) kF (.int .i64 A)
   have kL2 := (Below.heap_setCell W1 ⟨F, 0, none⟩ (.int .i64 A) L (by exact fun e => HN.out.2.2.1 e.symm)).trans kL
   have hL2 : LineAt (W1.setCell ⟨F, 0, none⟩ (.int .i64 A)) base g sv xs := hL1.mod ((Mod.refl (fun k => k = F) W1).set (.int .i64 A) (.inl rfl)) (fun k hk e => by
    subst e
    rcases hk with hk | hk
    ·exact HNE.out.1.1 hk.symm
    ·exact HNE.out.2.1 hk)
   clear HM1 hL1 kb kF kL kB kE
   have HM1 := HM2
   have hL1 := hL2
   have kb := kb2
   have kF := kF2
   have kL := kL2
   have kB := kB2
   have kE := kE2
   clear HM2 hL2 kb2 kF2 kL2 kB2 kE2
   generalize (W1.setCell ⟨F, 0, none⟩ (.int .i64 A)) = W1 at *
   have cb := cell_of_heap (i := 0) kb rfl
   have cF := cell_of_heap (i := 0) kF rfl
   have cL := cell_of_heap (i := 0) kL rfl
   have cE := cell_of_heap (i := 1) kE rfl
   have fF := free_of_heap (i := 0) kF
   have fL := free_of_heap (i := 0) kL
   have lb := heap_lt kb
   have lF := heap_lt kF
   have lL := heap_lt kL
   have lE := heap_lt kE
   have HL1 := Bas.hid hL1
   have HKS := Bas.hid (And.intro (And.intro kb kF) (And.intro kL kB))
   clear hL1 kb kF kL kB kE
   have HDN : Hid (∀ w', Below W1.heap.size W1 w' → rearX xs vn A Z = xs → ActP rearF base g (rearBox bx F L B g) (rearBx bx F L B) RearInv (s0, s1) xs sv u pl ⟨e0, fl, e2, e3⟩ (.returned (.tuple #[])) w') := fun w' hw hx => by
    refine ⟨rfl, sv, ?_, ?_, HINV.out, HM1.out.on hw, fun _ h => .inl h⟩
    ·rw [HRF.out, HVN.out, Int.toNat_natCast, hx]; exact HL1.out.below hw
    ·rw [HRF.out]
     exact ⟨(hw.block _ (heap_lt HKS.out.1.1)).trans HKS.out.1.1, (hw.block _ (heap_lt HKS.out.1.2)).trans HKS.out.1.2, (hw.block _ (heap_lt HKS.out.2.1)).trans HKS.out.2.1, (hw.block _ (heap_lt HKS.out.2.2)).trans HKS.out.2.2⟩
   by_cases hv0 : vn = 0
   ·have HO := Bas.hid (fun w => order_out (vn : Int) (Z - A) w (.inl (by omega)))
    have HNX := Bas.hid (show rearX xs vn A Z = xs by unfold rearX; rw [if_neg (by omega)])
    clear hv0
    with_reducible refine (HO.out _).mono ?_
    rintro e w5 ⟨rfl, hb5⟩
    have HF5 := Bas.hid (HDN.out w5 hb5 HNX.out)
    clear cb cF cL cE fF fL lb lF lL lE
    go_wp2_with (fail)
    go_end0
    exact HF5.out
   ·by_cases hs : Z - A < (((endsV vn).1 + (endsV vn).2.1 : Nat) : Int)
    ·have HO := Bas.hid (fun w => order_short vn (Z - A) w (by omega) (by omega) hs)
     have HNX := Bas.hid (show rearX xs vn A Z = xs by unfold rearX; rw [if_neg (by omega)])
     clear hv0 hs
     with_reducible refine (HO.out _).mono ?_
     rintro e w5 ⟨rfl, hb5⟩
     have HF5 := Bas.hid (HDN.out w5 hb5 HNX.out)
     clear cb cF cL cE fF fL lb lF lL lE
     go_wp2_with (fail)
     go_end0
     exact HF5.out
    ·have hA3 := HA.out
     have hZ3 := HZ.out
     have hX3 := HXL.out
     obtain ⟨nn, hnn⟩ := Int.eq_ofNat_of_zero_le (show 0 ≤ Z - A by omega)
     obtain ⟨an, han⟩ := Int.eq_ofNat_of_zero_le hA3.1
     have hpos : 1 ≤ (endsV vn).1 + (endsV vn).2.1 := ends_pos vn (by omega) (by omega)
     have HO := Bas.hid (fun w => order_yes vn nn w (by omega) (by omega) (by omega) (by omega))
     have HYX : Hid (rearX xs vn A Z = ordP xs an (orderL vn nn)) := by unfold Hid rearX; rw [if_pos (by omega), hnn, han, Int.toNat_natCast, Int.toNat_natCast]
     have HOK := Bas.hid (order_ok vn nn (by omega))
     have HOL := Bas.hid (order_len vn nn (by omega))
     have HFIT : Hid (an + nn ≤ xs.length ∧ 1 ≤ nn) := ⟨by omega, by omega⟩
     have HAN := Bas.hid han
     clear hv0 hs hA3 hZ3 hX3 hpos
     rw [hnn]
     clear hnn
     with_reducible refine (HO.out _).mono ?_
     rintro e w5 ⟨v5, rfl, ho5, hb5⟩
     rw [HOL.out] at ho5
     obtain ⟨a5, c5, rfl⟩ := own_slice ho5
     have hL5 := HL1.out.below hb5
     have kb5 := (hb5.block _ (heap_lt HKS.out.1.1)).trans HKS.out.1.1
     have kF5 := (hb5.block _ (heap_lt HKS.out.1.2)).trans HKS.out.1.2
     have cb5 := cell_of_heap (i := 0) kb5 rfl
     have cF5 := cell_of_heap (i := 0) kF5 rfl
     have lb5 := heap_lt kb5
     have lF5 := heap_lt kF5
     rw [HAN.out] at cF5
     have HORD := Bas.hid (lineOrder_any base g sv _ xs an (orderL vn nn) nn w5 hL5 (fun w' hm' => hm'.leads (Row.leads_owned ho5) (fun ad len cap hv _ hk => by
      have h1 := (Row.own_block ho5 (g := ad.block) (by rw [hv]; rfl)).1
      have h2 := (HL1.out.blk_low _ hk).2
      omega)) HOL.out HFIT.out.2 HFIT.out.1 HOK.out (by have := HXL.out; omega))
     have HB5 := Bas.hid hb5
     clear ho5 hb5 hL5 kb5 kF5 HO
     clear cb cF cL cE fF fL lb lF lL lE
     go_wp2_with (fail)
     refine HORD.out.mono ?_
     rintro e w6 ⟨rfl, sv6, hL6, hm6, ho6⟩
     have hk6 : ∀ {b : Nat} {o : Obj}, W1.heap[b]? = some o → ¬ blk g sv b → w6.heap[b]? = some o := fun h hn => hm6.heap ((HB5.out.block _ (heap_lt h)).trans h) hn
     have HF6 : Hid (ActP rearF base g (rearBox bx F L B g) (rearBx bx F L B) RearInv (s0, s1) xs sv u pl ⟨e0, fl, e2, e3⟩ (.returned (.tuple #[])) w6) := by
      refine ⟨rfl, sv6, ?_, ?_, HINV.out, (HM1.out.on HB5.out).trans hm6 (fun k hk _ => .inl hk), fun k hk => (ho6 k hk).imp id (fun h => Nat.le_trans HM1.out.size (Nat.le_trans HB5.out.size h))⟩
      ·rw [HRF.out, HVN.out, Int.toNat_natCast, HYX.out]; exact hL6
      ·rw [HRF.out]
       exact ⟨hk6 HKS.out.1.1 (fun h => h.elim (fun e => HNE.out.1.2.2.1 e.symm) HNE.out.2.2.2.1), hk6 HKS.out.1.2 (fun h => h.elim (fun e => HNE.out.1.1 e.symm) HNE.out.2.1), hk6 HKS.out.2.1 (fun h => h.elim (fun e => HNE.out.1.2.1 e.symm) HNE.out.2.2.1), hk6 HKS.out.2.2 (fun h => h.elim (fun e => HNE.out.1.2.2.2 e.symm) HNE.out.2.2.2.2)⟩
     clear hL6 hm6 ho6 hk6 cb5 cF5 lb5 lF5 HORD
     go_wp2_with (fail)
     go_end0
     exact HF6.out
 ·by_cases z2 : fl / 8192 % 2 = 1
  ·rw [if_neg z1] at q1 hAA
   rw [hAA] at kF
   clear hAA
   rw [if_pos z2] at q2 hZZ
   clear z1 z2
   have cb := cell_of_heap (i := 0) kb rfl
   have cF := cell_of_heap (i := 0) kF rfl
   have cL := cell_of_heap (i := 0) kL rfl
   have cE := cell_of_heap (i := 1) kE rfl
   have fF := free_of_heap (i := 0) kF
   have fL := free_of_heap (i := 0) kL
   have lb := heap_lt kb
   have lF := heap_lt kF
   have lL := heap_lt kL
   have lE := heap_lt kE
   go_enter Tryz.func80, Tryz.ntmps80
   go_wp2_with (fail)
   generalize (u.alloc (.cells #[.int .i64 e0, .int .i64 fl, .int .i64 e2, .int .i64 e3] 162)) = W1 at *
   have HL0 := Bas.hid (HLEN _ hL1)
   refine HL0.out.mono ?_
   rintro e w2 ⟨rfl, rfl⟩
   rw [HMM.out]
   go_wp2_with (fail)
   clear HL0
   clear cb cF cL cE fF fL lb lF lL lE
   have HM2 := Bas.hid (HM1.out.set (S := fun k => blk g sv k ∨ rearBx bx F L B k) (b := L) (o := 0) (.int .i64 Z) (.inl (.inr (.inr (.inr (.inl rfl))))))
   have kb2 := (Below.heap_setCell W1 ⟨L, 0, none⟩ (.int .i64 Z) bx (by exact HN.out.2.1)).trans kb
   have kB2 := (Below.heap_setCell W1 ⟨L, 0, none⟩ (.int .i64 Z) B (by exact fun e => HN.out.2.2.2.2 e.symm)).trans kB
   have kE2 := (Below.heap_setCell W1 ⟨L, 0, none⟩ (.int .i64 Z) u.heap.size (by exact fun e => HE5.out.2 e.symm)).trans kE
   have kL2 := heap_set (i := 0) kL (.int .i64 Z)
   have kF2 := (Below.heap_setCell W1 ⟨L, 0, none⟩ (.int .i64 Z) F (by exact HN.out.2.2.1)).trans kF
   have hL2 : LineAt (W1.setCell ⟨L, 0, none⟩ (.int .i64 Z)) base g sv xs := hL1.mod ((Mod.refl (fun k => k = L) W1).set (.int .i64 Z) (.inl rfl)) (fun k hk e => by
    subst e
    rcases hk with hk | hk
    ·exact HNE.out.1.2.1 hk.symm
    ·exact HNE.out.2.2.1 hk)
   clear HM1 hL1 kb kF kL kB kE
   have HM1 := HM2
   have hL1 := hL2
   have kb := kb2
   have kF := kF2
   have kL := kL2
   have kB := kB2
   have kE := kE2
   clear HM2 hL2 kb2 kF2 kL2 kB2 kE2
   generalize (W1.setCell ⟨L, 0, none⟩ (.int .i64 Z)) = W1 at *
   have cb := cell_of_heap (i := 0) kb rfl
   have cF := cell_of_heap (i := 0) kF rfl
   have cL := cell_of_heap (i := 0) kL rfl
   have cE := cell_of_heap (i := 1) kE rfl
   have fF := free_of_heap (i := 0) kF
   have fL := free_of_heap (i := 0) kL
   have lb := heap_lt kb
   have lF := heap_lt kF
   have lL := heap_lt kL
   have lE := heap_lt kE
   have HL1 := Bas.hid hL1
   have HKS := Bas.hid (And.intro (And.intro kb kF) (And.intro kL kB))
   clear hL1 kb kF kL kB kE
   have HDN : Hid (∀ w', Below W1.heap.size W1 w' → rearX xs vn A Z = xs → ActP rearF base g (rearBox bx F L B g) (rearBx bx F L B) RearInv (s0, s1) xs sv u pl ⟨e0, fl, e2, e3⟩ (.returned (.tuple #[])) w') := fun w' hw hx => by
    refine ⟨rfl, sv, ?_, ?_, HINV.out, HM1.out.on hw, fun _ h => .inl h⟩
    ·rw [HRF.out, HVN.out, Int.toNat_natCast, hx]; exact HL1.out.below hw
    ·rw [HRF.out]
     exact ⟨(hw.block _ (heap_lt HKS.out.1.1)).trans HKS.out.1.1, (hw.block _ (heap_lt HKS.out.1.2)).trans HKS.out.1.2, (hw.block _ (heap_lt HKS.out.2.1)).trans HKS.out.2.1, (hw.block _ (heap_lt HKS.out.2.2)).trans HKS.out.2.2⟩
   by_cases hv0 : vn = 0
   ·have HO := Bas.hid (fun w => order_out (vn : Int) (Z - A) w (.inl (by omega)))
    have HNX := Bas.hid (show rearX xs vn A Z = xs by unfold rearX; rw [if_neg (by omega)])
    clear hv0
    with_reducible refine (HO.out _).mono ?_
    rintro e w5 ⟨rfl, hb5⟩
    have HF5 := Bas.hid (HDN.out w5 hb5 HNX.out)
    clear cb cF cL cE fF fL lb lF lL lE
    go_wp2_with (fail)
    go_end0
    exact HF5.out
   ·by_cases hs : Z - A < (((endsV vn).1 + (endsV vn).2.1 : Nat) : Int)
    ·have HO := Bas.hid (fun w => order_short vn (Z - A) w (by omega) (by omega) hs)
     have HNX := Bas.hid (show rearX xs vn A Z = xs by unfold rearX; rw [if_neg (by omega)])
     clear hv0 hs
     with_reducible refine (HO.out _).mono ?_
     rintro e w5 ⟨rfl, hb5⟩
     have HF5 := Bas.hid (HDN.out w5 hb5 HNX.out)
     clear cb cF cL cE fF fL lb lF lL lE
     go_wp2_with (fail)
     go_end0
     exact HF5.out
    ·have hA3 := HA.out
     have hZ3 := HZ.out
     have hX3 := HXL.out
     obtain ⟨nn, hnn⟩ := Int.eq_ofNat_of_zero_le (show 0 ≤ Z - A by omega)
     obtain ⟨an, han⟩ := Int.eq_ofNat_of_zero_le hA3.1
     have hpos : 1 ≤ (endsV vn).1 + (endsV vn).2.1 := ends_pos vn (by omega) (by omega)
     have HO := Bas.hid (fun w => order_yes vn nn w (by omega) (by omega) (by omega) (by omega))
     have HYX : Hid (rearX xs vn A Z = ordP xs an (orderL vn nn)) := by unfold Hid rearX; rw [if_pos (by omega), hnn, han, Int.toNat_natCast, Int.toNat_natCast]
     have HOK := Bas.hid (order_ok vn nn (by omega))
     have HOL := Bas.hid (order_len vn nn (by omega))
     have HFIT : Hid (an + nn ≤ xs.length ∧ 1 ≤ nn) := ⟨by omega, by omega⟩
     have HAN := Bas.hid han
     clear hv0 hs hA3 hZ3 hX3 hpos
     rw [hnn]
     clear hnn
     with_reducible refine (HO.out _).mono ?_
     rintro e w5 ⟨v5, rfl, ho5, hb5⟩
     rw [HOL.out] at ho5
     obtain ⟨a5, c5, rfl⟩ := own_slice ho5
     have hL5 := HL1.out.below hb5
     have kb5 := (hb5.block _ (heap_lt HKS.out.1.1)).trans HKS.out.1.1
     have kF5 := (hb5.block _ (heap_lt HKS.out.1.2)).trans HKS.out.1.2
     have cb5 := cell_of_heap (i := 0) kb5 rfl
     have cF5 := cell_of_heap (i := 0) kF5 rfl
     have lb5 := heap_lt kb5
     have lF5 := heap_lt kF5
     rw [HAN.out] at cF5
     have HORD := Bas.hid (lineOrder_any base g sv _ xs an (orderL vn nn) nn w5 hL5 (fun w' hm' => hm'.leads (Row.leads_owned ho5) (fun ad len cap hv _ hk => by
      have h1 := (Row.own_block ho5 (g := ad.block) (by rw [hv]; rfl)).1
      have h2 := (HL1.out.blk_low _ hk).2
      omega)) HOL.out HFIT.out.2 HFIT.out.1 HOK.out (by have := HXL.out; omega))
     have HB5 := Bas.hid hb5
     clear ho5 hb5 hL5 kb5 kF5 HO
     clear cb cF cL cE fF fL lb lF lL lE
     go_wp2_with (fail)
     refine HORD.out.mono ?_
     rintro e w6 ⟨rfl, sv6, hL6, hm6, ho6⟩
     have hk6 : ∀ {b : Nat} {o : Obj}, W1.heap[b]? = some o → ¬ blk g sv b → w6.heap[b]? = some o := fun h hn => hm6.heap ((HB5.out.block _ (heap_lt h)).trans h) hn
     have HF6 : Hid (ActP rearF base g (rearBox bx F L B g) (rearBx bx F L B) RearInv (s0, s1) xs sv u pl ⟨e0, fl, e2, e3⟩ (.returned (.tuple #[])) w6) := by
      refine ⟨rfl, sv6, ?_, ?_, HINV.out, (HM1.out.on HB5.out).trans hm6 (fun k hk _ => .inl hk), fun k hk => (ho6 k hk).imp id (fun h => Nat.le_trans HM1.out.size (Nat.le_trans HB5.out.size h))⟩
      ·rw [HRF.out, HVN.out, Int.toNat_natCast, HYX.out]; exact hL6
      ·rw [HRF.out]
       exact ⟨hk6 HKS.out.1.1 (fun h => h.elim (fun e => HNE.out.1.2.2.1 e.symm) HNE.out.2.2.2.1), hk6 HKS.out.1.2 (fun h => h.elim (fun e => HNE.out.1.1 e.symm) HNE.out.2.1), hk6 HKS.out.2.1 (fun h => h.elim (fun e => HNE.out.1.2.1 e.symm) HNE.out.2.2.1), hk6 HKS.out.2.2 (fun h => h.elim (fun e => HNE.out.1.2.2.2 e.symm) HNE.out.2.2.2.2)⟩
     clear hL6 hm6 ho6 hk6 cb5 cF5 lb5 lF5 HORD
     go_wp2_with (fail)
     go_end0
     exact HF6.out
  ·rw [if_neg z1] at q1 hAA
   rw [hAA] at kF
   clear hAA
   rw [if_neg z2] at q2 hZZ
   rw [hZZ] at kL
   clear hZZ
   clear z1 z2
   have cb := cell_of_heap (i := 0) kb rfl
   have cF := cell_of_heap (i := 0) kF rfl
   have cL := cell_of_heap (i := 0) kL rfl
   have cE := cell_of_heap (i := 1) kE rfl
   have fF := free_of_heap (i := 0) kF
   have fL := free_of_heap (i := 0) kL
   have lb := heap_lt kb
   have lF := heap_lt kF
   have lL := heap_lt kL
   have lE := heap_lt kE
   go_enter Tryz.func80, Tryz.ntmps80
   go_wp2_with (fail)
   generalize (u.alloc (.cells #[.int .i64 e0, .int .i64 fl, .int .i64 e2, .int .i64 e3] 162)) = W1 at *
   have HL1 := Bas.hid hL1
   have HKS := Bas.hid (And.intro (And.intro kb kF) (And.intro kL kB))
   clear hL1 kb kF kL kB kE
   have HDN : Hid (∀ w', Below W1.heap.size W1 w' → rearX xs vn A Z = xs → ActP rearF base g (rearBox bx F L B g) (rearBx bx F L B) RearInv (s0, s1) xs sv u pl ⟨e0, fl, e2, e3⟩ (.returned (.tuple #[])) w') := fun w' hw hx => by
    refine ⟨rfl, sv, ?_, ?_, HINV.out, HM1.out.on hw, fun _ h => .inl h⟩
    ·rw [HRF.out, HVN.out, Int.toNat_natCast, hx]; exact HL1.out.below hw
    ·rw [HRF.out]
     exact ⟨(hw.block _ (heap_lt HKS.out.1.1)).trans HKS.out.1.1, (hw.block _ (heap_lt HKS.out.1.2)).trans HKS.out.1.2, (hw.block _ (heap_lt HKS.out.2.1)).trans HKS.out.2.1, (hw.block _ (heap_lt HKS.out.2.2)).trans HKS.out.2.2⟩
   by_cases hv0 : vn = 0
   ·have HO := Bas.hid (fun w => order_out (vn : Int) (Z - A) w (.inl (by omega)))
    have HNX := Bas.hid (show rearX xs vn A Z = xs by unfold rearX; rw [if_neg (by omega)])
    clear hv0
    with_reducible refine (HO.out _).mono ?_
    rintro e w5 ⟨rfl, hb5⟩
    have HF5 := Bas.hid (HDN.out w5 hb5 HNX.out)
    clear cb cF cL cE fF fL lb lF lL lE
    go_wp2_with (fail)
    go_end0
    exact HF5.out
   ·by_cases hs : Z - A < (((endsV vn).1 + (endsV vn).2.1 : Nat) : Int)
    ·have HO := Bas.hid (fun w => order_short vn (Z - A) w (by omega) (by omega) hs)
     have HNX := Bas.hid (show rearX xs vn A Z = xs by unfold rearX; rw [if_neg (by omega)])
     clear hv0 hs
     with_reducible refine (HO.out _).mono ?_
     rintro e w5 ⟨rfl, hb5⟩
     have HF5 := Bas.hid (HDN.out w5 hb5 HNX.out)
     clear cb cF cL cE fF fL lb lF lL lE
     go_wp2_with (fail)
     go_end0
     exact HF5.out
    ·have hA3 := HA.out
     have hZ3 := HZ.out
     have hX3 := HXL.out
     obtain ⟨nn, hnn⟩ := Int.eq_ofNat_of_zero_le (show 0 ≤ Z - A by omega)
     obtain ⟨an, han⟩ := Int.eq_ofNat_of_zero_le hA3.1
     have hpos : 1 ≤ (endsV vn).1 + (endsV vn).2.1 := ends_pos vn (by omega) (by omega)
     have HO := Bas.hid (fun w => order_yes vn nn w (by omega) (by omega) (by omega) (by omega))
     have HYX : Hid (rearX xs vn A Z = ordP xs an (orderL vn nn)) := by unfold Hid rearX; rw [if_pos (by omega), hnn, han, Int.toNat_natCast, Int.toNat_natCast]
     have HOK := Bas.hid (order_ok vn nn (by omega))
     have HOL := Bas.hid (order_len vn nn (by omega))
     have HFIT : Hid (an + nn ≤ xs.length ∧ 1 ≤ nn) := ⟨by omega, by omega⟩
     have HAN := Bas.hid han
     clear hv0 hs hA3 hZ3 hX3 hpos
     rw [hnn]
     clear hnn
     with_reducible refine (HO.out _).mono ?_
     rintro e w5 ⟨v5, rfl, ho5, hb5⟩
     rw [HOL.out] at ho5
     obtain ⟨a5, c5, rfl⟩ := own_slice ho5
     have hL5 := HL1.out.below hb5
     have kb5 := (hb5.block _ (heap_lt HKS.out.1.1)).trans HKS.out.1.1
     have kF5 := (hb5.block _ (heap_lt HKS.out.1.2)).trans HKS.out.1.2
     have cb5 := cell_of_heap (i := 0) kb5 rfl
     have cF5 := cell_of_heap (i := 0) kF5 rfl
     have lb5 := heap_lt kb5
     have lF5 := heap_lt kF5
     rw [HAN.out] at cF5
     have HORD := Bas.hid (lineOrder_any base g sv _ xs an (orderL vn nn) nn w5 hL5 (fun w' hm' => hm'.leads (Row.leads_owned ho5) (fun ad len cap hv _ hk => by
      have h1 := (Row.own_block ho5 (g := ad.block) (by rw [hv]; rfl)).1
      have h2 := (HL1.out.blk_low _ hk).2
      omega)) HOL.out HFIT.out.2 HFIT.out.1 HOK.out (by have := HXL.out; omega))
     have HB5 := Bas.hid hb5
     clear ho5 hb5 hL5 kb5 kF5 HO
     clear cb cF cL cE fF fL lb lF lL lE
     go_wp2_with (fail)
     refine HORD.out.mono ?_
     rintro e w6 ⟨rfl, sv6, hL6, hm6, ho6⟩
     have hk6 : ∀ {b : Nat} {o : Obj}, W1.heap[b]? = some o → ¬ blk g sv b → w6.heap[b]? = some o := fun h hn => hm6.heap ((HB5.out.block _ (heap_lt h)).trans h) hn
     have HF6 : Hid (ActP rearF base g (rearBox bx F L B g) (rearBx bx F L B) RearInv (s0, s1) xs sv u pl ⟨e0, fl, e2, e3⟩ (.returned (.tuple #[])) w6) := by
      refine ⟨rfl, sv6, ?_, ?_, HINV.out, (HM1.out.on HB5.out).trans hm6 (fun k hk _ => .inl hk), fun k hk => (ho6 k hk).imp id (fun h => Nat.le_trans HM1.out.size (Nat.le_trans HB5.out.size h))⟩
      ·rw [HRF.out, HVN.out, Int.toNat_natCast, HYX.out]; exact hL6
      ·rw [HRF.out]
       exact ⟨hk6 HKS.out.1.1 (fun h => h.elim (fun e => HNE.out.1.2.2.1 e.symm) HNE.out.2.2.2.1), hk6 HKS.out.1.2 (fun h => h.elim (fun e => HNE.out.1.1 e.symm) HNE.out.2.1), hk6 HKS.out.2.1 (fun h => h.elim (fun e => HNE.out.1.2.1 e.symm) HNE.out.2.2.1), hk6 HKS.out.2.2 (fun h => h.elim (fun e => HNE.out.1.2.2.2 e.symm) HNE.out.2.2.2.2)⟩
     clear hL6 hm6 ho6 hk6 cb5 cF5 lb5 lF5 HORD
     go_wp2_with (fail)
     go_end0
     exact HF6.out
end Rr
end Go.Proofs.YtoncnjhhdlpliaaGreat
namespace Go.Proofs.YtoncnjhhdlpliaaGreat
open Go.RowKit
namespace Rr
open Ch Lk St Ln Dr Vb
def rearRun (M : MachD) (xs : List Gl) : List Gl × Int := ((dall M (plF rearF) (0, 0) xs).1.xs, (dall M (plF rearF) (0, 0) xs).2)
set_option maxRecDepth 100000 in
set_option maxHeartbeats 8000000 in
theorem rearRun_any (base g : Nat) (sv v : Value) (xs : List Gl) (M : MachD) (W0 w : World) (hT : RearAt W0 v M) (hok : MachOk M) (hb0 : Below W0.heap.size W0 w) (hbase : W0.heap.size ≤ base) (hL : LineAt w base g sv xs) (hlen : xs.length ≤ 1000000) :
  Calls Tryz.prog 56 #[v, .pointer (some ⟨g, 0, none⟩)] w fun e w' => e = .returned (.int .i64 (rearRun M xs).2) ∧ LnTo w base g sv (rearRun M xs).1 w' := by
 have hmf : ∀ (fn : Fn) (first cap : Array Value) (w : World), (Instr.makeFunc fn first cap).run Tryz.prog w = .ok (.func fn first cap) w := fun _ _ _ _ => rfl
 obtain ⟨gt, gm, rfl, hgt, hm⟩ := hT
 have kt := (hb0.block _ (heap_lt hgt)).trans hgt
 have HGT0 := Bas.hid (heap_lt hgt)
 have HCT0 := Bas.hid (cell_of_heap (i := 0) kt rfl)
 have HL := Bas.hid hL
 have HM := Bas.hid hm
 have HB0 := Bas.hid hb0
 have HBA := Bas.hid hbase
 have hb3 := ((((Below.refl w.heap.size w).alloc (Nat.le_refl _) (.cells #[.pointer (some ⟨g, 0, none⟩)] 32)).alloc (by simp) (.cells #[.int .i64 0] 3)).alloc (by simp; omega) (.cells #[.int .i64 0] 3))
 have z1 := World.size_alloc w (.cells #[.pointer (some ⟨g, 0, none⟩)] 32)
 have z2 := World.size_alloc (w.alloc (.cells #[.pointer (some ⟨g, 0, none⟩)] 32)) (.cells #[.int .i64 0] 3)
 have kb := (Below.heap_alloc ((w.alloc (.cells #[.pointer (some ⟨g, 0, none⟩)] 32)).alloc (.cells #[.int .i64 0] 3)) (.cells #[.int .i64 0] 3) w.heap.size (by omega)).trans ((Below.heap_alloc (w.alloc (.cells #[.pointer (some ⟨g, 0, none⟩)] 32)) (.cells #[.int .i64 0] 3) w.heap.size (by omega)).trans (Bas.heap_new w (.cells #[.pointer (some ⟨g, 0, none⟩)] 32)))
 have kF := (Below.heap_alloc ((w.alloc (.cells #[.pointer (some ⟨g, 0, none⟩)] 32)).alloc (.cells #[.int .i64 0] 3)) (.cells #[.int .i64 0] 3) (w.heap.size + 1) (by omega)).trans (Bas.heap_new2 w (.cells #[.pointer (some ⟨g, 0, none⟩)] 32) (.cells #[.int .i64 0] 3))
 have kL := Bas.heap_new ((w.alloc (.cells #[.pointer (some ⟨g, 0, none⟩)] 32)).alloc (.cells #[.int .i64 0] 3)) (.cells #[.int .i64 0] 3)
 rw [z2, z1] at kL
 have kt1 := (hb3.block _ (heap_lt kt)).trans kt
 clear hL hm hb0 hbase
 go_enter Tryz.func56, Tryz.ntmps56
 go_wp2_with (fail)
 generalize (((w.alloc (.cells #[.pointer (some ⟨g, 0, none⟩)] 32)).alloc (.cells #[.int .i64 0] 3)).alloc (.cells #[.int .i64 0] 3)) = W3 at *
 clear z1 z2
 have HB3 := Bas.hid hb3
 have cb := cell_of_heap (i := 0) kb rfl
 have lb := heap_lt kb
 have ct := cell_of_heap (i := 0) kt1 rfl
 have lt := heap_lt kt1
 have HKB := Bas.hid kb
 have HKF := Bas.hid kF
 have HKL := Bas.hid kL
 clear hb3 kb kF kL kt kt1 hgt
 have hLT : LineAt W3 base g sv xs := HL.out.below HB3.out
 obtain ⟨RI, RF, Ri, RF0, RFk, RFw⟩ := Pl.fam_of W3 (fun u => u.cell? ⟨gt, 0, none⟩ = some (.pointer (some ⟨gm, 0, none⟩)) ∧ u.cell? ⟨w.heap.size, 0, none⟩ = some (.pointer (some ⟨g, 0, none⟩))) ⟨ct, cb⟩
 have RFH := Bas.hid RF0
 have RhI : Nonempty RI := ⟨Ri⟩
 have RFW := Bas.hid RFw
 have z0 := fun i => (RFk i).1
 have z1 := fun i => (RFk i).2
 have HCT := Bas.hid ct
 have HCB := Bas.hid cb
 clear RF0 RFw RFk ct cb lb lt
 refine Pl.region_plan0 Ri [(true, 0), (true, 1), (true, 2), (true, 3), (true, 4), (true, 5), (false, 6), (false, 7), (true, 8), (true, 9), (true, 10), (true, 11), (true, 12)] [] (by kernel_rfl) (by kernel_rfl) (fun _ _ _ _ e h => ⟨e ▸ h.1, h.2⟩) RFH.out ?_
 refine Pl.head_sel0 [(true, 0), (true, 1), (true, 2), (true, 3), (true, 4), (true, 5)] (by kernel_rfl) (by kernel_rfl) ?_
 simp only [Pl.sel, List.drop_succ_cons, List.drop_zero]
 repeat (go_big_quiet_step (fail))
 refine wpQuiet_nil ?_
 rw [← RFH.out]
 clear z0 z1
 refine Pl.one_sel (by kernel_rfl) ?_
 intro Q' hQ' hP'
 simp only [Pl.sel, List.drop_succ_cons, List.drop_zero]
 go_wp2_with (fail)
 refine (plain_any 80 _ W3.drew).mono ?_
 rintro e w4 ⟨rfl, hb4, kB⟩
 have hb4' : Below W3.heap.size W3 w4 := (Bas.below_drewN (Below.refl W3.heap.size W3) 1).trans hb4
 have HB4 := Bas.hid hb4'
 have HKB4 := Bas.hid kB
 have hct4 : w4.cell? ⟨gt, 0, none⟩ = some (.pointer (some ⟨gm, 0, none⟩)) := (hb4'.cell (p := ⟨gt, 0, none⟩) (World.block_lt_of_cell? _ _ HCT.out)).trans HCT.out
 have hcb4 : w4.cell? ⟨w.heap.size, 0, none⟩ = some (.pointer (some ⟨g, 0, none⟩)) := (hb4'.cell (p := ⟨w.heap.size, 0, none⟩) (World.block_lt_of_cell? _ _ HCB.out)).trans HCB.out
 have HX4 : Hid (rearBox w.heap.size (w.heap.size + 1) (w.heap.size + 1 + 1) W3.heap.size g (0, 0) w4) := ⟨(hb4'.block _ (heap_lt HKB.out)).trans HKB.out, (hb4'.block _ (heap_lt HKF.out)).trans HKF.out, (hb4'.block _ (heap_lt HKL.out)).trans HKL.out, kB⟩
 clear hb4 hb4' kB
 go_wp2_with (fail)
 refine hQ' _ _ (fun _ _ => RFW.out _ ⟨hct4, hcb4⟩) ?_
 clear hct4 hcb4 hQ' hP' Q'
 refine Pl.one_sel (by kernel_rfl) ?_
 intro Q' hQ' hP'
 simp only [Pl.sel, List.drop_succ_cons, List.drop_zero]
 go_wp2_with (fail)
 have hz3 := HB3.out.size
 have hlF := heap_lt HKL.out
 have HWAY := Bas.hid (plain_way M rearF W0 w w4 base gm g sv xs 80 W3.heap.size #[.pointer (some ⟨w.heap.size, 0, none⟩), .pointer (some ⟨w.heap.size + 1, 0, none⟩), .pointer (some ⟨w.heap.size + 1 + 1, 0, none⟩)]
  (rearBox w.heap.size (w.heap.size + 1) (w.heap.size + 1 + 1) W3.heap.size g) (rearBx w.heap.size (w.heap.size + 1) (w.heap.size + 1 + 1) W3.heap.size) RearInv (0, 0) hok HM.out HB0.out HBA.out HL.out (by omega) (rear_boxes _ _ _ _ _)
  (fun k hk => by rcases hk with h | h | h | h <;> omega) (fun s u h => h.2.2.2) (fun args w => by simp [go_sem]) (HB3.out.trans (HB4.out.mono hz3)) HX4.out ⟨⟨by simp, by simp⟩, ⟨by simp, by simp⟩, hlen⟩
  (fun s xs sv' u pl e hL hb hx hi hp hp2 he hown => rear1_any base g _ _ _ _ sv' s xs u pl e hL hx hi ⟨by omega, by omega, by omega, by omega, by omega⟩ hp hp2 (hok.ents e he).2.1.1 (hok.ents e he).2.1.2))
 clear hz3 hlF
 refine HWAY.out.mono ?_
 rintro e w5 ⟨rfl, hto, s', hx⟩
 have HTO := Bas.hid hto
 have HX5 := Bas.hid hx
 have hct5 : w5.cell? ⟨gt, 0, none⟩ = some (.pointer (some ⟨gm, 0, none⟩)) := by
  obtain ⟨sv', _, hm', _⟩ := hto
  have hlt : gt < W0.heap.size := HGT0.out
  have hcw := HCT0.out
  refine hm'.cell hcw (fun hk => ?_)
  have h1 := (HL.out.blk_low _ hk).1
  have h2 := HBA.out
  omega
 have hcb5 : w5.cell? ⟨w.heap.size, 0, none⟩ = some (.pointer (some ⟨g, 0, none⟩)) := cell_of_heap hx.1 rfl
 clear hto hx HWAY
 go_wp2_with (fail)
 refine hQ' _ _ (fun _ _ => RFW.out _ ⟨hct5, hcb5⟩) ?_
 clear hct5 hcb5 hQ' hP' Q'
 refine Pl.head_sel0 (rest := []) [(true, 8), (true, 9), (true, 10), (true, 11), (true, 12)] (by kernel_rfl) (by kernel_rfl) ?_
 simp only [Pl.sel, List.drop_succ_cons, List.drop_zero]
 repeat (go_big_quiet_step (fail))
 refine wpQuiet_nil ?_
 simp only [Pl.walkM]
 go_wp2_with (fail)
 go_ret
 exact ⟨rfl, HTO.out⟩
end Rr
end Go.Proofs.YtoncnjhhdlpliaaGreat
namespace Go.Proofs.YtoncnjhhdlpliaaGreat
open Go.RowKit
namespace Ln
open Ch
theorem glyphs_any (base g : Nat) (sv : Value) (xs : List Gl) (w : World) (h : LineAt w base g sv xs) (hn : xs.length ≤ 4294967296) :
  Calls Tryz.prog 12 #[.pointer (some ⟨g, 0, none⟩)] w fun e w' => Below w.heap.size w w' ∧ ∃ v', e = .returned v' ∧ w'.ownsRow w.heap.size 47 2 v' xs.length (xs.flatMap glC) := by
 have HC := Bas.hid (clone_any sv xs xs.length w (Row.leads_owned h.own) rfl hn)
 obtain ⟨ad, cp, rfl⟩ := own_slice h.own
 have g0 := cell_of_heap (i := 0) (v := .slice ad xs.length cp) h.head rfl
 have lg := h.lt
 clear h
 go_enter Tryz.func12, Tryz.ntmps12
 go_wp2_with (fail)
 refine HC.out.mono ?_
 rintro e w2 ⟨hb, v', rfl, ho⟩
 have HB := Bas.hid hb
 have HO := Bas.hid ho
 clear hb ho HC
 go_wp2_with (fail)
 go_ret
 exact ⟨HB.out, v', rfl, HO.out⟩
end Ln
end Go.Proofs.YtoncnjhhdlpliaaGreat
namespace Go.Proofs.YtoncnjhhdlpliaaGreat
open Go.RowKit
namespace Ln
open Ch
def insC (xs : List Gl) (i : Int) : Int := match glAt xs i with
 | some g => g.2
 | none => match glAt xs (i - 1) with
  | some g => g.2
  | none => 0
theorem insL_eq {xs : List Gl} {i : Nat} (h : i ≤ xs.length) (ids : List Int) : insL xs i ids = xs.take i ++ ids.map (fun id => (id, insC xs i)) ++ xs.drop i := by
 unfold insL insC
 rw [if_neg (by omega)]
 rfl
theorem insL_out {xs : List Gl} {i : Int} (h : i < 0 ∨ (xs.length : Int) < i) (ids : List Int) : insL xs i ids = xs := by unfold insL; rw [if_pos h]
theorem LnTo.behind {w w1 w' : World} {base g : Nat} {sv : Value} {ys : List Gl} (hb : Below w.heap.size w w1) (h : LnTo w1 base g sv ys w') : LnTo w base g sv ys w' := by
 obtain ⟨sv', h1, h2, h3⟩ := h
 exact ⟨sv', h1, (Mod.of_below hb).trans h2 (fun _ h _ => h), fun k hk => (h3 k hk).imp id (fun h => Nat.le_trans hb.size h)⟩
set_option maxRecDepth 100000 in
set_option maxHeartbeats 16000000 in
theorem lineInsert_any (base g : Nat) (sv va : Value) (xs : List Gl) (i : Int) (ids : List Int) (n : Nat) (w : World) (h : LineAt w base g sv xs) (hl : Row.Leads w va n (ids.map (Value.int .i64))) (hn : ids.length = n) (hbase : base ≤ w.heap.size) (h32 : xs.length + n ≤ 4294967296) :
  Calls Tryz.prog 139 #[.pointer (some ⟨g, 0, none⟩), .int .i64 i, va] w fun e w' => e = .returned (.bool (decide (0 ≤ i ∧ i ≤ (xs.length : Int)))) ∧ LnTo w base g sv (insL xs i ids) w' := by
 obtain ⟨ad, cp, rfl⟩ := Row.leads_slice hl
 obtain ⟨as', cs, rfl⟩ := own_slice h.own
 have HH := Bas.hid h
 have HL := Bas.hid hl
 have HN := Bas.hid hn
 have g0 := cell_of_heap (i := 0) (v := .slice as' xs.length cs) h.head rfl
 have lg := h.lt
 obtain ⟨B, hB⟩ : ∃ B, decide (0 ≤ i ∧ i ≤ (xs.length : Int)) = B := ⟨_, rfl⟩
 rw [hB]
 have HBB := Bas.hid hB
 obtain ⟨m, hm⟩ : ∃ m, xs.length = m := ⟨_, rfl⟩
 have HM := Bas.hid hm
 rw [hm] at g0 h32
 clear hl hn h hm hB
 by_cases h0 : i < 0
 ·have e1 : decide (i < 0) = true := by simpa using h0
  have HR : Hid (B = false) := by unfold Hid; rw [← HBB.out]; simp; omega
  have HX := Bas.hid (insL_out (xs := xs) (.inl h0) ids)
  go_enter Tryz.func139, Tryz.ntmps139
  go_wp2_with (fail)
  go_ret
  exact ⟨by rw [HR.out]; rfl, by rw [HX.out]; exact LnTo.refl HH.out⟩
 ·have e1 : decide (i < 0) = false := by simpa using h0
  obtain ⟨k, rfl⟩ := Int.eq_ofNat_of_zero_le (show 0 ≤ i by omega)
  by_cases h1 : m < k
  ·have e2 : decide ((m : Int) < (k : Int)) = true := by simp; omega
   have HR : Hid (B = false) := by unfold Hid; rw [← HBB.out, HM.out]; simp; omega
   have HX := Bas.hid (insL_out (xs := xs) (i := k) (.inr (by rw [HM.out]; omega)) ids)
   go_enter Tryz.func139, Tryz.ntmps139
   go_wp2_with (fail)
   go_ret
   exact ⟨by rw [HR.out]; rfl, by rw [HX.out]; exact LnTo.refl HH.out⟩
  ·have e2 : decide ((m : Int) < (k : Int)) = false := by simp; omega
   have HR : Hid (B = true) := by unfold Hid; rw [← HBB.out, HM.out]; simp; omega
   have HX := Bas.hid (insL_eq (xs := xs) (i := k) (by rw [HM.out]; omega) ids)
   have HAT := Bas.hid (at_any base g _ xs k w HH.out)
   have HKM : Hid (k ≤ xs.length) := by unfold Hid; rw [HM.out]; omega
   clear HBB
   obtain ⟨o1, ho1⟩ : ∃ o1, glAt xs (k : Int) = o1 := ⟨_, rfl⟩
   rw [ho1] at HAT
   cases o1 with
   | some x =>
    obtain ⟨x0, x1⟩ := x
    have HC : Hid (insC xs (k : Int) = x1) := by unfold Hid insC; rw [ho1]
    clear ho1
    simp only [atV] at HAT
    go_enter Tryz.func139, Tryz.ntmps139
    go_wp2_with (fail)
    refine HAT.out.mono ?_
    rintro e w1 ⟨rfl, hb1⟩
    have k2 := Bas.heap_new w1 (.cells #[.int .i64 x0, .int .i64 x1] 47)
    have hb2 := hb1.trans ((Below.refl w1.heap.size w1).alloc (Nat.le_refl _) (.cells #[.int .i64 x0, .int .i64 x1] 47) |>.mono hb1.size)
    have hT : w.heap.size ≤ w1.heap.size := hb1.size
    clear HAT hb1
    go_wp2_with (fail)
    obtain ⟨T, hTT⟩ : ∃ T, w1.heap.size = T := ⟨_, rfl⟩
    rw [hTT] at k2 hT ⊢
    generalize (w1.alloc (.cells #[.int .i64 x0, .int .i64 x1] 47)) = W2 at *
    have HB2 := Bas.hid hb2
    have HK2 := Bas.hid k2
    have lT2 := heap_lt k2
    have HT := Bas.hid hT
    clear hb2 k2 hT hTT
    go_loopw [9, 40] (fun v9 vi wr => ∃ j : Nat, j ≤ n ∧ vi = .int .i64 j ∧ wr.ownsRow W2.heap.size 47 2 v9 j (((ids.take j).map (fun id => (id, (x1 : Int)))).flatMap glC) ∧ Below W2.heap.size W2 wr) (fun _ vi _ => n - (intOf vi).toNat)
    case atStart => exact ⟨0, Nat.zero_le _, rfl, Row.owned_nil _ _ _ _, Below.refl _ _⟩
    case round =>
     obtain ⟨j, hj, rfl, ho, hb⟩ := hrel
     have HO := Bas.hid ho
     have HB := Bas.hid hb
     have kw := (hb.block _ lT2).trans HK2.out
     have HKW := Bas.hid kw
     by_cases hin : j < n
     ·have e5 : decide ((j : Int) < (n : Int)) = true := by simp; omega
      obtain ⟨y, hy⟩ : ∃ y, ids[j]? = some y := ⟨_, List.getElem?_eq_getElem (by rw [HN.out]; exact hin)⟩
      have hlw : Row.Leads wr (.slice ad n cp) n (ids.map (Value.int .i64)) := Row.leads_below (Row.leads_below HL.out HB2.out) (hb.mono (Nat.le_refl _))
      obtain ⟨bo, oo, c2, hv, hc⟩ := St.leads_at hlw (i := j) (u := .int .i64 y) (by rw [List.getElem?_map, hy]; rfl)
      cases hv
      have t1 := cell_of_heap (i := 1) (v := .int .i64 x1) kw rfl
      have lTw := heap_lt kw
      have lb := World.block_lt_of_cell? _ _ hc
      have HY : Hid ((ids.take (j + 1)).map (fun id => (id, (x1 : Int))) = (ids.take j).map (fun id => (id, (x1 : Int))) ++ [(y, x1)]) := by unfold Hid; rw [List.take_add_one, hy, List.map_append]; rfl
      obtain ⟨a9, c9, rfl⟩ := own_slice ho
      clear ho hb hlw hy kw
      go_wp2_with (at_builtin; refine Row.fence ?_)
      refine Row.unfence ?_
      have q2 := Bas.heap_new wr (.cells #[.int .i64 y, .int .i64 x1] 47)
      have hb3 := (Below.refl wr.heap.size wr).alloc (Nat.le_refl _) (.cells #[.int .i64 y, .int .i64 x1] 47)
      have HO3 := Bas.hid (Row.owned_below HO.out hb3)
      have HB3 := Bas.hid (HB.out.trans (hb3.mono HB.out.size))
      have hW3 : W2.heap.size ≤ (wr.alloc (.cells #[.int .i64 y, .int .i64 x1] 47)).heap.size := Nat.le_trans HB.out.size hb3.size
      clear hb3 t1 hc lb lTw
      generalize wr.alloc (.cells #[.int .i64 y, .int .i64 x1] 47) = W3 at *
      refine Row.append_any rfl _ _ 39 47 rfl (.agg #[.int .i64 0, .int .i64 0]) 2 16 Tryz.underlying39 infoG rfl (by decide) W2.heap.size (.slice a9 j c9) j _ rfl HO3.out (.slice (some ⟨wr.heap.size, 0, none⟩) 1 1) 1 [.int .i64 y, .int .i64 x1] rfl (leads_heap q2) rfl (by simp; first | exact ⟨rfl, rfl⟩ | exact rfl) (by unfold maxLen; omega) (by omega) hW3 ?_
      intro v7 w7 ho7 hg7 _
      have HO7 : Hid (w7.ownsRow W2.heap.size 47 2 v7 (j + 1) (((ids.take (j + 1)).map (fun id => (id, (x1 : Int)))).flatMap glC)) := by
       unfold Hid
       rw [HY.out, List.flatMap_append]
       exact ho7
      have HB7 := Bas.hid (HB3.out.grown hg7 hW3 (fun g' hg' => (Row.own_block HO3.out hg').1))
      clear hg7 ho7 q2
      go_wp2_with (fail)
      go_roundw
      case rel => exact ⟨j + 1, by omega, by go_num, HO7.out, HB7.out⟩
      case measure => simp [intOf]; omega
     ·have hin2 : j = n := by omega
      have e5 : decide ((j : Int) < (n : Int)) = false := by simp; omega
      have hO : wr.ownsRow W2.heap.size 47 2 u9 n ((ids.map (fun id => (id, (x1 : Int)))).flatMap glC) := by
       have h := ho
       rw [hin2, List.take_of_length_le (by rw [HN.out]; exact Nat.le_refl _)] at h
       exact h
      have hBw := HB2.out.trans (hb.mono HB2.out.size)
      have HBW := Bas.hid hBw
      have hLw := HH.out.below hBw
      have HLW := Bas.hid hLw
      have HINS := Bas.hid (insert_any base W2.heap.size _ u9 xs (ids.map (fun id => (id, (x1 : Int)))) m n k wr (HM.out ▸ hLw.own) HM.out hO (by rw [List.length_map]; exact HN.out) (by rw [← HM.out]; exact HKM.out) (fun q hq e => by
       have h1 := (Row.own_block HH.out.own (g := q) (by rw [HM.out]; exact hq)).2
       have h2 := (Row.own_block hO e).1
       have := HB2.out.size
       omega) h32 (Nat.le_trans hbase hBw.size))
      obtain ⟨ys, hys⟩ : ∃ ys, xs.take k ++ ids.map (fun id => (id, (x1 : Int))) ++ xs.drop k = ys := ⟨_, rfl⟩
      rw [hys] at HINS
      have HYS := Bas.hid hys
      clear hys
      have kg := hLw.head
      rw [HM.out] at kg
      have g1 := cell_of_heap (i := 0) (v := .slice as' m cs) kg rfl
      have lg1 := heap_lt kg
      clear ho hb hO hBw hLw kg HO HB hin2
      go_wp2_with (fail)
      refine HINS.out.mono ?_
      rintro e w5 ⟨sv5, rfl, ho5, hg5, hat5⟩
      have HR5 := Bas.hid (LnTo.behind HBW.out (lnTo_store HLW.out ho5 (by rw [HM.out]; exact hg5) (by rw [HM.out]; exact hat5)))
      have k7 := (hg5.block g HLW.out.lt (fun e => by have h := HLW.out.ne; rw [HM.out] at h; exact h e.symm)).trans HLW.out.head
      obtain ⟨a5, c5, rfl⟩ := own_slice ho5
      have c0 := cell_of_heap (i := 0) k7 rfl
      have f0 := free_of_heap (i := 0) k7
      have lk := heap_lt k7
      clear ho5 hg5 hat5 k7 g1 lg1 HINS
      go_wp2_with (fail)
      go_ret
      refine ⟨by rw [HR.out]; rfl, ?_⟩
      rw [HX.out, HC.out, HYS.out]
      exact HR5.out
   | none =>
    have HAT2 := Bas.hid (fun w' (hb : Below w.heap.size w w') => at_any base g _ xs ((k : Int) - 1) w' (HH.out.below hb))
    obtain ⟨o2, ho2⟩ : ∃ o2, glAt xs ((k : Int) - 1) = o2 := ⟨_, rfl⟩
    rw [ho2] at HAT2
    cases o2 with
    | some x =>
     obtain ⟨x0, x1⟩ := x
     have HC : Hid (insC xs (k : Int) = x1) := by unfold Hid insC; rw [ho1]; simp only; rw [ho2]
     clear ho1 ho2
     simp only [atV] at HAT HAT2
     go_enter Tryz.func139, Tryz.ntmps139
     go_wp2_with (fail)
     refine HAT.out.mono ?_
     rintro e w0 ⟨rfl, hb0⟩
     have k1 := Bas.heap_new w0 (.cells #[.int .i64 0, .int .i64 0] 47)
     have hb1 := hb0.trans ((Below.refl w0.heap.size w0).alloc (Nat.le_refl _) (.cells #[.int .i64 0, .int .i64 0] 47) |>.mono hb0.size)
     have hT : w.heap.size ≤ w0.heap.size := hb0.size
     clear HAT hb0
     go_wp2_with (fail)
     refine (HAT2.out _ hb1).mono ?_
     rintro e w1 ⟨rfl, hb3⟩
     have k4 := (hb3.block _ (heap_lt k1)).trans k1
     have hb4 := hb1.trans (hb3.mono hb1.size)
     have c0 := cell_of_heap (i := 0) k4 rfl
     have c1 := cell_of_heap (i := 1) k4 rfl
     have f0 := free_of_heap (i := 0) k4
     have f1 := free_of_heap (i := 1) k4
     have lT := heap_lt k4
     have k2 := (set2 k4 (.int .i64 x0) (.int .i64 x1)).1
     have hb2 := (hb4.setCell (p := ⟨w0.heap.size, 0, none⟩) hT (.int .i64 x0)).setCell (p := ⟨w0.heap.size, 1, none⟩) hT (.int .i64 x1)
     clear HAT2 k1 hb1 hb3 k4 hb4
     go_wp2_with (fail)
     clear c0 c1 f0 f1 lT
     obtain ⟨T, hTT⟩ : ∃ T, w0.heap.size = T := ⟨_, rfl⟩
     rw [hTT] at k2 hT hb2 ⊢
     generalize ((w1.setCell ⟨T, 0, none⟩ (.int .i64 x0)).setCell ⟨T, 1, none⟩ (.int .i64 x1)) = W2 at *
     have HB2 := Bas.hid hb2
     have HK2 := Bas.hid k2
     have lT2 := heap_lt k2
     have HT := Bas.hid hT
     clear hb2 k2 hT hTT
     go_loopw [9, 40] (fun v9 vi wr => ∃ j : Nat, j ≤ n ∧ vi = .int .i64 j ∧ wr.ownsRow W2.heap.size 47 2 v9 j (((ids.take j).map (fun id => (id, (x1 : Int)))).flatMap glC) ∧ Below W2.heap.size W2 wr) (fun _ vi _ => n - (intOf vi).toNat)
     case atStart => exact ⟨0, Nat.zero_le _, rfl, Row.owned_nil _ _ _ _, Below.refl _ _⟩
     case round =>
      obtain ⟨j, hj, rfl, ho, hb⟩ := hrel
      have HO := Bas.hid ho
      have HB := Bas.hid hb
      have kw := (hb.block _ lT2).trans HK2.out
      have HKW := Bas.hid kw
      by_cases hin : j < n
      ·have e5 : decide ((j : Int) < (n : Int)) = true := by simp; omega
       obtain ⟨y, hy⟩ : ∃ y, ids[j]? = some y := ⟨_, List.getElem?_eq_getElem (by rw [HN.out]; exact hin)⟩
       have hlw : Row.Leads wr (.slice ad n cp) n (ids.map (Value.int .i64)) := Row.leads_below (Row.leads_below HL.out HB2.out) (hb.mono (Nat.le_refl _))
       obtain ⟨bo, oo, c2, hv, hc⟩ := St.leads_at hlw (i := j) (u := .int .i64 y) (by rw [List.getElem?_map, hy]; rfl)
       cases hv
       have t1 := cell_of_heap (i := 1) (v := .int .i64 x1) kw rfl
       have lTw := heap_lt kw
       have lb := World.block_lt_of_cell? _ _ hc
       have HY : Hid ((ids.take (j + 1)).map (fun id => (id, (x1 : Int))) = (ids.take j).map (fun id => (id, (x1 : Int))) ++ [(y, x1)]) := by unfold Hid; rw [List.take_add_one, hy, List.map_append]; rfl
       obtain ⟨a9, c9, rfl⟩ := own_slice ho
       clear ho hb hlw hy kw
       go_wp2_with (at_builtin; refine Row.fence ?_)
       refine Row.unfence ?_
       have q2 := Bas.heap_new wr (.cells #[.int .i64 y, .int .i64 x1] 47)
       have hb3 := (Below.refl wr.heap.size wr).alloc (Nat.le_refl _) (.cells #[.int .i64 y, .int .i64 x1] 47)
       have HO3 := Bas.hid (Row.owned_below HO.out hb3)
       have HB3 := Bas.hid (HB.out.trans (hb3.mono HB.out.size))
       have hW3 : W2.heap.size ≤ (wr.alloc (.cells #[.int .i64 y, .int .i64 x1] 47)).heap.size := Nat.le_trans HB.out.size hb3.size
       clear hb3 t1 hc lb lTw
       generalize wr.alloc (.cells #[.int .i64 y, .int .i64 x1] 47) = W3 at *
       refine Row.append_any rfl _ _ 39 47 rfl (.agg #[.int .i64 0, .int .i64 0]) 2 16 Tryz.underlying39 infoG rfl (by decide) W2.heap.size (.slice a9 j c9) j _ rfl HO3.out (.slice (some ⟨wr.heap.size, 0, none⟩) 1 1) 1 [.int .i64 y, .int .i64 x1] rfl (leads_heap q2) rfl (by simp; first | exact ⟨rfl, rfl⟩ | exact rfl) (by unfold maxLen; omega) (by omega) hW3 ?_
       intro v7 w7 ho7 hg7 _
       have HO7 : Hid (w7.ownsRow W2.heap.size 47 2 v7 (j + 1) (((ids.take (j + 1)).map (fun id => (id, (x1 : Int)))).flatMap glC)) := by
        unfold Hid
        rw [HY.out, List.flatMap_append]
        exact ho7
       have HB7 := Bas.hid (HB3.out.grown hg7 hW3 (fun g' hg' => (Row.own_block HO3.out hg').1))
       clear hg7 ho7 q2
       go_wp2_with (fail)
       go_roundw
       case rel => exact ⟨j + 1, by omega, by go_num, HO7.out, HB7.out⟩
       case measure => simp [intOf]; omega
      ·have hin2 : j = n := by omega
       have e5 : decide ((j : Int) < (n : Int)) = false := by simp; omega
       have hO : wr.ownsRow W2.heap.size 47 2 u9 n ((ids.map (fun id => (id, (x1 : Int)))).flatMap glC) := by
        have h := ho
        rw [hin2, List.take_of_length_le (by rw [HN.out]; exact Nat.le_refl _)] at h
        exact h
       have hBw := HB2.out.trans (hb.mono HB2.out.size)
       have HBW := Bas.hid hBw
       have hLw := HH.out.below hBw
       have HLW := Bas.hid hLw
       have HINS := Bas.hid (insert_any base W2.heap.size _ u9 xs (ids.map (fun id => (id, (x1 : Int)))) m n k wr (HM.out ▸ hLw.own) HM.out hO (by rw [List.length_map]; exact HN.out) (by rw [← HM.out]; exact HKM.out) (fun q hq e => by
        have h1 := (Row.own_block HH.out.own (g := q) (by rw [HM.out]; exact hq)).2
        have h2 := (Row.own_block hO e).1
        have := HB2.out.size
        omega) h32 (Nat.le_trans hbase hBw.size))
       obtain ⟨ys, hys⟩ : ∃ ys, xs.take k ++ ids.map (fun id => (id, (x1 : Int))) ++ xs.drop k = ys := ⟨_, rfl⟩
       rw [hys] at HINS
       have HYS := Bas.hid hys
       clear hys
       have kg := hLw.head
       rw [HM.out] at kg
       have g1 := cell_of_heap (i := 0) (v := .slice as' m cs) kg rfl
       have lg1 := heap_lt kg
       clear ho hb hO hBw hLw kg HO HB hin2
       go_wp2_with (fail)
       refine HINS.out.mono ?_
       rintro e w5 ⟨sv5, rfl, ho5, hg5, hat5⟩
       have HR5 := Bas.hid (LnTo.behind HBW.out (lnTo_store HLW.out ho5 (by rw [HM.out]; exact hg5) (by rw [HM.out]; exact hat5)))
       have k7 := (hg5.block g HLW.out.lt (fun e => by have h := HLW.out.ne; rw [HM.out] at h; exact h e.symm)).trans HLW.out.head
       obtain ⟨a5, c5, rfl⟩ := own_slice ho5
       have c0 := cell_of_heap (i := 0) k7 rfl
       have f0 := free_of_heap (i := 0) k7
       have lk := heap_lt k7
       clear ho5 hg5 hat5 k7 g1 lg1 HINS
       go_wp2_with (fail)
       go_ret
       refine ⟨by rw [HR.out]; rfl, ?_⟩
       rw [HX.out, HC.out, HYS.out]
       exact HR5.out
    | none =>
     have HC : Hid (insC xs (k : Int) = 0) := by unfold Hid insC; rw [ho1]; simp only; rw [ho2]
     clear ho1 ho2
     simp only [atV] at HAT HAT2
     go_enter Tryz.func139, Tryz.ntmps139
     go_wp2_with (fail)
     refine HAT.out.mono ?_
     rintro e w0 ⟨rfl, hb0⟩
     have k1 := Bas.heap_new w0 (.cells #[.int .i64 0, .int .i64 0] 47)
     have hb1 := hb0.trans ((Below.refl w0.heap.size w0).alloc (Nat.le_refl _) (.cells #[.int .i64 0, .int .i64 0] 47) |>.mono hb0.size)
     have hT : w.heap.size ≤ w0.heap.size := hb0.size
     clear HAT hb0
     go_wp2_with (fail)
     refine (HAT2.out _ hb1).mono ?_
     rintro e w1 ⟨rfl, hb3⟩
     have k4 := (hb3.block _ (heap_lt k1)).trans k1
     have hb4 := hb1.trans (hb3.mono hb1.size)
     have c0 := cell_of_heap (i := 0) k4 rfl
     have c1 := cell_of_heap (i := 1) k4 rfl
     have f0 := free_of_heap (i := 0) k4
     have f1 := free_of_heap (i := 1) k4
     have lT := heap_lt k4
     have k2 := (set2 k4 (.int .i64 0) (.int .i64 0)).1
     have hb2 := (hb4.setCell (p := ⟨w0.heap.size, 0, none⟩) hT (.int .i64 0)).setCell (p := ⟨w0.heap.size, 1, none⟩) hT (.int .i64 0)
     clear HAT2 k1 hb1 hb3 k4 hb4
     go_wp2_with (fail)
     clear c0 c1 f0 f1 lT
     obtain ⟨T, hTT⟩ : ∃ T, w0.heap.size = T := ⟨_, rfl⟩
     rw [hTT] at k2 hT hb2 ⊢
     generalize ((w1.setCell ⟨T, 0, none⟩ (.int .i64 0)).setCell ⟨T, 1, none⟩ (.int .i64 0)) = W2 at *
     have HB2 := Bas.hid hb2
     have HK2 := Bas.hid k2
     have lT2 := heap_lt k2
     have HT := Bas.hid hT
     clear hb2 k2 hT hTT
     go_loopw [9, 40] (fun v9 vi wr => ∃ j : Nat, j ≤ n ∧ vi = .int .i64 j ∧ wr.ownsRow W2.heap.size 47 2 v9 j (((ids.take j).map (fun id => (id, (0 : Int)))).flatMap glC) ∧ Below W2.heap.size W2 wr) (fun _ vi _ => n - (intOf vi).toNat)
     case atStart => exact ⟨0, Nat.zero_le _, rfl, Row.owned_nil _ _ _ _, Below.refl _ _⟩
     case round =>
      obtain ⟨j, hj, rfl, ho, hb⟩ := hrel
      have HO := Bas.hid ho
      have HB := Bas.hid hb
      have kw := (hb.block _ lT2).trans HK2.out
      have HKW := Bas.hid kw
      by_cases hin : j < n
      ·have e5 : decide ((j : Int) < (n : Int)) = true := by simp; omega
       obtain ⟨y, hy⟩ : ∃ y, ids[j]? = some y := ⟨_, List.getElem?_eq_getElem (by rw [HN.out]; exact hin)⟩
       have hlw : Row.Leads wr (.slice ad n cp) n (ids.map (Value.int .i64)) := Row.leads_below (Row.leads_below HL.out HB2.out) (hb.mono (Nat.le_refl _))
       obtain ⟨bo, oo, c2, hv, hc⟩ := St.leads_at hlw (i := j) (u := .int .i64 y) (by rw [List.getElem?_map, hy]; rfl)
       cases hv
       have t1 := cell_of_heap (i := 1) (v := .int .i64 0) kw rfl
       have lTw := heap_lt kw
       have lb := World.block_lt_of_cell? _ _ hc
       have HY : Hid ((ids.take (j + 1)).map (fun id => (id, (0 : Int))) = (ids.take j).map (fun id => (id, (0 : Int))) ++ [(y, 0)]) := by unfold Hid; rw [List.take_add_one, hy, List.map_append]; rfl
       obtain ⟨a9, c9, rfl⟩ := own_slice ho
       clear ho hb hlw hy kw
       go_wp2_with (at_builtin; refine Row.fence ?_)
       refine Row.unfence ?_
       have q2 := Bas.heap_new wr (.cells #[.int .i64 y, .int .i64 0] 47)
       have hb3 := (Below.refl wr.heap.size wr).alloc (Nat.le_refl _) (.cells #[.int .i64 y, .int .i64 0] 47)
       have HO3 := Bas.hid (Row.owned_below HO.out hb3)
       have HB3 := Bas.hid (HB.out.trans (hb3.mono HB.out.size))
       have hW3 : W2.heap.size ≤ (wr.alloc (.cells #[.int .i64 y, .int .i64 0] 47)).heap.size := Nat.le_trans HB.out.size hb3.size
       clear hb3 t1 hc lb lTw
       generalize wr.alloc (.cells #[.int .i64 y, .int .i64 0] 47) = W3 at *
       refine Row.append_any rfl _ _ 39 47 rfl (.agg #[.int .i64 0, .int .i64 0]) 2 16 Tryz.underlying39 infoG rfl (by decide) W2.heap.size (.slice a9 j c9) j _ rfl HO3.out (.slice (some ⟨wr.heap.size, 0, none⟩) 1 1) 1 [.int .i64 y, .int .i64 0] rfl (leads_heap q2) rfl (by simp; first | exact ⟨rfl, rfl⟩ | exact rfl) (by unfold maxLen; omega) (by omega) hW3 ?_
       intro v7 w7 ho7 hg7 _
       have HO7 : Hid (w7.ownsRow W2.heap.size 47 2 v7 (j + 1) (((ids.take (j + 1)).map (fun id => (id, (0 : Int)))).flatMap glC)) := by
        unfold Hid
        rw [HY.out, List.flatMap_append]
        exact ho7
       have HB7 := Bas.hid (HB3.out.grown hg7 hW3 (fun g' hg' => (Row.own_block HO3.out hg').1))
       clear hg7 ho7 q2
       go_wp2_with (fail)
       go_roundw
       case rel => exact ⟨j + 1, by omega, by go_num, HO7.out, HB7.out⟩
       case measure => simp [intOf]; omega
      ·have hin2 : j = n := by omega
       have e5 : decide ((j : Int) < (n : Int)) = false := by simp; omega
       have hO : wr.ownsRow W2.heap.size 47 2 u9 n ((ids.map (fun id => (id, (0 : Int)))).flatMap glC) := by
        have h := ho
        rw [hin2, List.take_of_length_le (by rw [HN.out]; exact Nat.le_refl _)] at h
        exact h
       have hBw := HB2.out.trans (hb.mono HB2.out.size)
       have HBW := Bas.hid hBw
       have hLw := HH.out.below hBw
       have HLW := Bas.hid hLw
       have HINS := Bas.hid (insert_any base W2.heap.size _ u9 xs (ids.map (fun id => (id, (0 : Int)))) m n k wr (HM.out ▸ hLw.own) HM.out hO (by rw [List.length_map]; exact HN.out) (by rw [← HM.out]; exact HKM.out) (fun q hq e => by
        have h1 := (Row.own_block HH.out.own (g := q) (by rw [HM.out]; exact hq)).2
        have h2 := (Row.own_block hO e).1
        have := HB2.out.size
        omega) h32 (Nat.le_trans hbase hBw.size))
       obtain ⟨ys, hys⟩ : ∃ ys, xs.take k ++ ids.map (fun id => (id, (0 : Int))) ++ xs.drop k = ys := ⟨_, rfl⟩
       rw [hys] at HINS
       have HYS := Bas.hid hys
       clear hys
       have kg := hLw.head
       rw [HM.out] at kg
       have g1 := cell_of_heap (i := 0) (v := .slice as' m cs) kg rfl
       have lg1 := heap_lt kg
       clear ho hb hO hBw hLw kg HO HB hin2
       go_wp2_with (fail)
       refine HINS.out.mono ?_
       rintro e w5 ⟨sv5, rfl, ho5, hg5, hat5⟩
       have HR5 := Bas.hid (LnTo.behind HBW.out (lnTo_store HLW.out ho5 (by rw [HM.out]; exact hg5) (by rw [HM.out]; exact hat5)))
       have k7 := (hg5.block g HLW.out.lt (fun e => by have h := HLW.out.ne; rw [HM.out] at h; exact h e.symm)).trans HLW.out.head
       obtain ⟨a5, c5, rfl⟩ := own_slice ho5
       have c0 := cell_of_heap (i := 0) k7 rfl
       have f0 := free_of_heap (i := 0) k7
       have lk := heap_lt k7
       clear ho5 hg5 hat5 k7 g1 lg1 HINS
       go_wp2_with (fail)
       go_ret
       refine ⟨by rw [HR.out]; rfl, ?_⟩
       rw [HX.out, HC.out, HYS.out]
       exact HR5.out
end Ln
end Go.Proofs.YtoncnjhhdlpliaaGreat
namespace Go.Proofs.YtoncnjhhdlpliaaGreat
open Go.RowKit
namespace Ln
theorem LnTo.step {w wr w' : World} {base g : Nat} {sv sv' : Value} {zs : List Gl} (hg : g < w.heap.size) (hm : Mod (blk g sv) w wr) (ho : ∀ k, sv'.ownBlock = some k → sv.ownBlock = some k ∨ w.heap.size ≤ k) (h : LnTo wr base g sv' zs w') : LnTo w base g sv zs w' := by
 obtain ⟨sv2, h1, h2, h3⟩ := h
 refine ⟨sv2, h1, hm.trans h2 (fun k hk hlt => ?_), fun k hk => ?_⟩
 ·rcases hk with rfl | hk
  ·exact .inl rfl
  ·rcases ho k hk with h | h
   ·exact .inr h
   ·omega
 ·rcases h3 k hk with h | h
  ·exact ho k h
  ·exact .inr (Nat.le_trans hm.size h)
end Ln
namespace Sw
open Vw Ch Lk Ln
def SwapAt (w : World) (v : Value) (ps : List PartD) : Prop := ∃ g lk, v = .pointer (some ⟨g, 0, none⟩) ∧ w.heap[g]? = some (.cells #[.pointer (some ⟨lk, 0, none⟩)] 182 (0, 0)) ∧ LkAt w (.pointer (some ⟨lk, 0, none⟩)) ps
theorem SwapAt.below {w w' : World} {v : Value} {ps : List PartD} (h : SwapAt w v ps) (hb : Below w.heap.size w w') : SwapAt w' v ps := by
 obtain ⟨g, lk, h1, h2, h3⟩ := h
 exact ⟨g, lk, h1, (hb.block _ (heap_lt h2)).trans h2, h3.below hb⟩
def SwapTakeP (w : World) (bs : List Int) (gl : Nat) (e : Ending) (w' : World) : Prop :=
 Below w.heap.size w w' ∧ match parseLk bs gl 2 with
  | none => e = .panicked short
  | some ps => ∃ v, e = .returned v ∧ Lives w.heap.size (fun u => SwapAt u v ps) w'
theorem swapTake_any (a : Option Addr) (len cap : Nat) (bs : List Int) (gl : Nat) (w : World) (hl : len ≤ cap) (hc : cap ≤ maxLen) (hv : VB w a bs) (hbl : bs.length = len) (hg1 : 1 ≤ gl) (hg2 : gl ≤ 65536) :
  Calls Tryz.prog 61 #[.agg #[.slice a len cap], .int .i64 gl] w (SwapTakeP w bs gl) := by
 have hb1 := (Below.refl w.heap.size w).alloc (Nat.le_refl _) (.cells #[.slice a len cap] 52)
 have k1 := Bas.heap_new w (.cells #[.slice a len cap] 52)
 have HB1 := Bas.hid hb1
 have HT := Bas.hid (lkTake_any a len cap bs gl 2 _ hl hc (hv.below hb1) hbl (.inl rfl) hg1 hg2)
 have c0 := cell_of_heap (i := 0) k1 rfl
 have lk := heap_lt k1
 clear hb1 hv
 go_enter Tryz.func61, Tryz.ntmps61
 go_wp2_with (fail)
 generalize w.alloc (.cells #[.slice a len cap] 52) = W1 at *
 refine HT.out.mono ?_
 rintro e w2 ⟨hb2, h2⟩
 have HB2 := Bas.hid (HB1.out.trans (hb2.mono HB1.out.size))
 clear hb2 HT
 cases hp : parseLk bs gl 2 with
 | none =>
  rw [hp] at h2
  simp only at h2
  subst h2
  go_wp2_with (fail)
  exact ⟨rfl, HB2.out, by rw [hp]⟩
 | some ps =>
  rw [hp] at h2
  simp only at h2
  obtain ⟨v, rfl, hm⟩ := h2
  have hv2 : ∃ gm, v = .pointer (some ⟨gm, 0, none⟩) := by
   obtain ⟨gm, _, _, _, h, _⟩ := hm.now
   exact ⟨gm, h⟩
  obtain ⟨gm, rfl⟩ := hv2
  have HM := Bas.hid (hm.mono HB1.out.size)
  have HP := Bas.hid hp
  clear hm hp
  go_wp2_with (fail)
  have k3 := Bas.heap_new w2 (.cells #[.pointer (some ⟨gm, 0, none⟩)] 182)
  have hb3 := (Below.refl w2.heap.size w2).alloc (Nat.le_refl _) (.cells #[.pointer (some ⟨gm, 0, none⟩)] 182)
  go_ret
  exact ⟨HB2.out.trans (hb3.mono HB2.out.size), by rw [HP.out]; exact ⟨_, rfl, fun u hu => ⟨_, gm, rfl, lives_heap k3 HB2.out.size u hu, HM.out.below hb3 u hu⟩⟩⟩
def swapG (ps : List PartD) (x : Gl) : Gl := if x.1 = 65535 then x else match getL ps x.1 with
 | some n => (n, x.2)
 | none => x
def swapRun (ps : List PartD) (xs : List Gl) : List Gl × Int := (xs.map (swapG ps), 0)
def swapPre (ps : List PartD) (xs : List Gl) (i : Nat) : List Gl := (xs.take i).map (swapG ps) ++ xs.drop i
theorem swapPre_len (ps : List PartD) (xs : List Gl) (i : Nat) : (swapPre ps xs i).length = xs.length := by unfold swapPre; simp; omega
theorem swapPre_zero (ps : List PartD) (xs : List Gl) : swapPre ps xs 0 = xs := by simp [swapPre]
theorem swapPre_at (ps : List PartD) {xs : List Gl} {i : Nat} {x : Gl} (hx : xs[i]? = some x) : (swapPre ps xs i)[i]? = some x := by
 have hi := (List.getElem?_eq_some_iff.1 hx).1
 unfold swapPre
 rw [List.getElem?_append_right (by simp; omega), List.length_map, List.length_take, Nat.min_eq_left (by omega), List.getElem?_drop, Nat.sub_self]
 exact hx
theorem swapPre_succ (ps : List PartD) {xs : List Gl} {i : Nat} {x : Gl} (hx : xs[i]? = some x) : swapPre ps xs (i + 1) = (swapPre ps xs i).set i (swapG ps x) := by
 have hi := (List.getElem?_eq_some_iff.1 hx).1
 unfold swapPre
 rw [List.take_add_one, hx, List.set_append_right _ _ (by simp; omega)]
 simp only [List.length_map, List.length_take, Nat.min_eq_left (Nat.le_of_lt hi), Nat.sub_self, Option.toList_some, List.map_append, List.map_cons, List.map_nil, List.append_assoc]
 congr 1
 have hd : xs.drop i = x :: xs.drop (i + 1) := by
  rw [List.drop_eq_getElem_cons hi]
  congr 1
  exact Option.some.inj ((List.getElem?_eq_getElem hi).symm.trans hx)
 rw [hd]
 rfl
theorem swapPre_end (ps : List PartD) (xs : List Gl) (n : Nat) (h : xs.length = n) : swapPre ps xs n = xs.map (swapG ps) := by
 unfold swapPre; rw [List.take_of_length_le (by omega), List.drop_of_length_le (by omega), List.append_nil]
theorem swapPre_same (ps : List PartD) {xs : List Gl} {i : Nat} {x : Gl} (hx : xs[i]? = some x) (h : swapG ps x = x) : swapPre ps xs (i + 1) = swapPre ps xs i := by
 rw [swapPre_succ ps hx, h]
 apply List.ext_getElem?
 intro k
 by_cases hk : k = i
 ·subst hk
  rw [List.getElem?_set_self (by rw [swapPre_len]; exact (List.getElem?_eq_some_iff.1 hx).1), swapPre_at ps hx]
 ·rw [List.getElem?_set_ne (by omega)]
set_option maxRecDepth 100000 in
set_option maxHeartbeats 8000000 in
theorem swapRun_any (base g : Nat) (sv v : Value) (xs : List Gl) (ps : List PartD) (W0 w : World) (hT : SwapAt W0 v ps) (hp : ∀ p ∈ ps, PartOk p) (hr : rises ps = true) (hps : ps.length ≤ 4294967296) (hb0 : Below W0.heap.size W0 w) (hbase : W0.heap.size ≤ base) (hL : LineAt w base g sv xs) (hlen : xs.length ≤ 1000000) :
  Calls Tryz.prog 62 #[v, .pointer (some ⟨g, 0, none⟩)] w fun e w' => e = .returned (.int .i64 (swapRun ps xs).2) ∧ LnTo w base g sv (swapRun ps xs).1 w' := by
 obtain ⟨gt, gm, rfl, hgt, hm⟩ := hT
 have HGT := Bas.hid hgt
 have HLK := Bas.hid hm
 have HL := Bas.hid hL
 have HB0 := Bas.hid hb0
 have HBA := Bas.hid hbase
 have HP := Bas.hid hp
 have HR := Bas.hid hr
 have HGL := Bas.hid (glyphs_any base g sv xs w hL (by omega))
 obtain ⟨n, hn⟩ : ∃ n, xs.length = n := ⟨_, rfl⟩
 have HN := Bas.hid hn
 rw [hn] at HGL hlen
 clear hgt hm hL hb0 hbase hp hr hn
 go_enter Tryz.func62, Tryz.ntmps62
 go_wp2_with (fail)
 refine HGL.out.mono ?_
 rintro e w1 ⟨hb1, v1, rfl, ho1⟩
 obtain ⟨a1, c1, rfl⟩ := own_slice ho1
 have HB1 := Bas.hid hb1
 have HO1 := Bas.hid ho1
 have HL1 := Bas.hid (HL.out.below hb1)
 clear hb1 ho1 HGL
 go_wp2_with (fail)
 go_loopw [12] (fun vi wr => ∃ (i : Nat) (sv' : Value), i ≤ n ∧ vi = .int .i64 i ∧ LineAt wr base g sv' (swapPre ps xs i) ∧ Mod (blk g sv) w wr ∧ (∀ k, sv'.ownBlock = some k → sv.ownBlock = some k ∨ w.heap.size ≤ k) ∧ wr.ownsRow w.heap.size 47 2 (.slice a1 n c1) n (xs.flatMap glC) ∧ (∀ k, sv'.ownBlock = some k → (Value.slice a1 n c1).ownBlock ≠ some k)) (fun vi _ => n - (intOf vi).toNat)
 case atStart => exact ⟨0, sv, Nat.zero_le _, rfl, by rw [swapPre_zero]; exact HL1.out, Mod.of_below HB1.out, fun _ h => .inl h, HO1.out, fun k hk e => by
  have h1 := (Row.own_block HL.out.own hk).2
  have h2 := (Row.own_block HO1.out e).1
  omega⟩
 case round =>
  obtain ⟨i, sv', hi, rfl, hA, hmod, hown, hO, hdis⟩ := hrel
  have HA := Bas.hid hA
  have HMD := Bas.hid hmod
  have HOW := Bas.hid hown
  have HO := Bas.hid hO
  have HDI := Bas.hid hdis
  have hb := hmod.below HB0.out (fun k hk => Nat.le_trans HBA.out (HL.out.blk_low k hk).1) HB0.out.size
  have HB := Bas.hid hb
  by_cases hin : i < n
  ·have e1 : decide ((i : Int) < (n : Int)) = true := by simp; omega
   obtain ⟨⟨x0, x1⟩, hx⟩ : ∃ x, xs[i]? = some x := ⟨_, List.getElem?_eq_getElem (by rw [HN.out]; exact hin)⟩
   have HX := Bas.hid hx
   obtain ⟨bo, cp', hv, hlt, hbb, c0, c1', _⟩ := own_cells hO hx
   cases hv
   simp only at c0 c1'
   have kt := (hb.block _ (heap_lt HGT.out)).trans HGT.out
   have kT := Bas.heap_new wr (.cells #[.int .i64 x0, .int .i64 x1] 47)
   have hb2 := (Below.refl wr.heap.size wr).alloc (Nat.le_refl _) (.cells #[.int .i64 x0, .int .i64 x1] 47)
   have kt2 := (hb2.block _ (heap_lt kt)).trans kt
   have d0 := cell_of_heap (i := 0) kT rfl
   have lT := heap_lt kT
   have HKT := Bas.hid kT
   have HB2 := Bas.hid hb2
   have HKt2 := Bas.hid kt2
   have HLK2 := Bas.hid (HLK.out.below (HB.out.trans (hb2.mono HB.out.size)))
   clear hA hmod hown hO hdis hb hx kt kT hb2 kt2
   by_cases h5 : x0 = 65535
   ·have e5 : (x0 == 65535) = true := by simpa using h5
    have HS := Bas.hid (swapPre_same ps HX.out (by unfold swapG; rw [if_pos h5]))
    clear h5
    go_wp2_with (fail)
    go_roundw
    case rel => exact ⟨i + 1, sv', by omega, by go_num, by rw [HS.out]; exact HA.out.below HB2.out, HMD.out.on HB2.out, HOW.out, Row.owned_below HO.out HB2.out, HDI.out⟩
    case measure => simp [intOf]; omega
   ·have e5 : (x0 == 65535) = false := by simpa using h5
    have HN5 := Bas.hid h5
    clear h5
    go_wp2_with (fail)
    generalize (wr.alloc (.cells #[.int .i64 x0, .int .i64 x1] 47)) = W2 at *
    obtain ⟨RI, RF, Ri, RF0, RFk, RFw⟩ := Pl.fam_of W2 (fun u => u.cell? ⟨gt, 0, none⟩ = some (.pointer (some ⟨gm, 0, none⟩)) ∧ u.cell? ⟨wr.heap.size, 0, none⟩ = some (.int .i64 x0)) ⟨cell_of_heap (i := 0) HKt2.out rfl, d0⟩
    have RFH := Bas.hid RF0
    have RhI : Nonempty RI := ⟨Ri⟩
    have RFW := Bas.hid RFw
    have z0 := fun i => (RFk i).1
    have z1 := fun i => (RFk i).2
    clear RF0 RFw RFk c0 c1' d0 lT hlt
    refine Pl.region_plan0 Ri [(true, 0), (true, 1), (true, 2), (true, 3), (true, 4), (true, 5), (false, 6), (true, 7), (true, 8), (true, 9), (true, 10), (true, 11)] [] (by kernel_rfl) (by kernel_rfl) (fun _ _ _ _ e h => ⟨e ▸ h.1, h.2⟩) RFH.out ?_
    refine Pl.head_sel0 [(true, 0), (true, 1), (true, 2), (true, 3), (true, 4), (true, 5)] (by kernel_rfl) (by kernel_rfl) ?_
    simp only [Pl.sel, List.drop_succ_cons, List.drop_zero]
    repeat (go_big_quiet_step (fail))
    refine wpQuiet_nil ?_
    rw [← RFH.out]
    clear z0 z1
    refine Pl.one_sel (by kernel_rfl) ?_
    intro Q' hQ' hP'
    simp only [Pl.sel, List.drop_succ_cons, List.drop_zero]
    go_wp2_with (fail)
    have hbd := Bas.below_drewN (Below.refl W2.heap.size W2) 1
    refine (get_any _ ps x0 W2.drew (HLK2.out.below hbd) HP.out HR.out hps).mono ?_
    rintro e w4 ⟨rfl, hb4⟩
    have hb4' : Below W2.heap.size W2 w4 := hbd.trans hb4
    have HB4 := Bas.hid (HB2.out.trans (hb4'.mono HB2.out.size))
    have hct4 : w4.cell? ⟨gt, 0, none⟩ = some (.pointer (some ⟨gm, 0, none⟩)) := cell_of_heap (i := 0) ((hb4'.block _ (heap_lt HKt2.out)).trans HKt2.out) rfl
    have hcb4 : w4.cell? ⟨wr.heap.size, 0, none⟩ = some (.int .i64 x0) := cell_of_heap (i := 0) ((hb4'.block _ (heap_lt HKT.out)).trans HKT.out) rfl
    clear hb4 hb4' hbd
    go_wp2_with (fail)
    refine hQ' _ _ (fun _ _ => RFW.out _ ⟨hct4, hcb4⟩) ?_
    clear hct4 hcb4 hQ' hP' Q' RFW RFH
    refine Pl.head_sel0 (rest := []) [(true, 7), (true, 8), (true, 9), (true, 10), (true, 11)] (by kernel_rfl) (by kernel_rfl) ?_
    simp only [Pl.sel, List.drop_succ_cons, List.drop_zero]
    repeat (go_big_quiet_step (fail))
    refine wpQuiet_nil ?_
    simp only [Pl.walkM]
    obtain ⟨o, ho⟩ : ∃ o, getL ps x0 = o := ⟨_, rfl⟩
    have HGO := Bas.hid ho
    rw [ho]
    clear ho RhI Ri
    cases o with
    | none =>
     have HS := Bas.hid (swapPre_same ps HX.out (by unfold swapG; rw [if_neg HN5.out, HGO.out]))
     simp only [Option.getD_none, Option.isSome_none]
     go_wp2_with (fail)
     go_roundw
     case rel => exact ⟨i + 1, sv', by omega, by go_num, by rw [HS.out]; exact HA.out.below HB4.out, HMD.out.on HB4.out, HOW.out, Row.owned_below HO.out HB4.out, HDI.out⟩
     case measure => simp [intOf]; omega
    | some y =>
     have HS : Hid (swapPre ps xs (i + 1) = setId (swapPre ps xs i) (i : Int) y) := by
      unfold Hid setId
      have hg : glAt (swapPre ps xs i) (i : Int) = some (x0, x1) := by unfold glAt; rw [if_pos (by omega), Int.toNat_natCast, swapPre_at ps HX.out]
      rw [hg, swapPre_succ ps HX.out]
      unfold swapG
      rw [if_neg HN5.out, HGO.out]
      rfl
     have HSET := Bas.hid (set_any base g sv' (swapPre ps xs i) (i : Int) y w4 (HA.out.below HB4.out))
     simp only [Option.getD_some, Option.isSome_some]
     go_wp2_with (fail)
     refine HSET.out.mono ?_
     rintro e w6 ⟨rfl, hto⟩
     have hto2 := LnTo.step (sv := sv) HL.out.lt (HMD.out.on HB4.out) HOW.out hto
     rw [← HS.out] at hto hto2
     obtain ⟨sv6, h61, h62, h63⟩ := hto
     obtain ⟨sv7, h71, h72, h73⟩ := hto2
     have HA6 := Bas.hid h61
     have HM6 : Hid (Mod (blk g sv) w w6) := h72
     have HW6 : Hid (∀ k, sv6.ownBlock = some k → sv.ownBlock = some k ∨ w.heap.size ≤ k) := fun k hk => (h63 k hk).elim (HOW.out k) (fun h => .inr (Nat.le_trans HMD.out.size (Nat.le_trans HB4.out.size h)))
     have hO4 := Row.owned_below HO.out HB4.out
     have HO6 : Hid (w6.ownsRow w.heap.size 47 2 (.slice (some ⟨bo, 0, none⟩) n c1) n (xs.flatMap glC)) := h62.owned hO4 (fun k hk hb => by
      rcases hb with rfl | hb
      ·have := (Row.own_block hO4 hk).1; have := HL.out.lt; omega
      ·exact HDI.out k hb hk)
     have HD6 : Hid (∀ k, sv6.ownBlock = some k → (Value.slice (some ⟨bo, 0, none⟩) n c1).ownBlock ≠ some k) := fun k hk e => by
      rcases h63 k hk with h | h
      ·exact HDI.out k h e
      ·have := (Row.own_block hO4 e).2; omega
     clear h61 h62 h63 h71 h72 h73 hO4 HSET
     go_wp2_with (fail)
     go_roundw
     case rel => exact ⟨i + 1, sv6, by omega, by go_num, HA6.out, HM6.out, HW6.out, HO6.out, HD6.out⟩
     case measure => simp [intOf]; omega
  ·have e1 : decide ((i : Int) < (n : Int)) = false := by simp; omega
   have e2 : decide (i < n) = false := by simp; omega
   have e3 : ¬ (i : Int) < (n : Int) := by omega
   have hin2 : i = n := by omega
   have HF : Hid (LnTo w base g sv (swapRun ps xs).1 wr) := by
    unfold Hid swapRun
    rw [hin2, swapPre_end ps xs n HN.out] at hA
    exact ⟨sv', hA, hmod, hown⟩
   clear hA hmod hown hO hdis hb hin2
   go_wp2_with (fail)
   go_ret
   exact ⟨rfl, HF.out⟩
end Sw
end Go.Proofs.YtoncnjhhdlpliaaGreat
namespace Go.Proofs.YtoncnjhhdlpliaaGreat
open Go.RowKit
namespace St
open Vw Sk Ch Lk
set_option maxRecDepth 100000 in
theorem entries_any (v : Value) (M : MachD) (w : World) (h : MachAt w v M) (hok : MachOk M) :
  Calls Tryz.prog 83 #[v] w fun e w' => Below w.heap.size w w' ∧ ∃ v', e = .returned v' ∧ w'.ownsRow w.heap.size 162 4 v' M.ents.length (M.ents.flatMap enC) := by
 have hE6 := hok.nents
 obtain ⟨g, vt, vr, ve, us, rfl, hg, _, _, _, _, hL⟩ := h
 obtain ⟨ad, cp, rfl⟩ : ∃ ad cp, ve = .slice ad M.ents.length cp := by
  rcases hL with ⟨rfl, h2, _⟩ | ⟨ad, cp, rfl, _⟩
  ·exact ⟨none, 0, by rw [h2]⟩
  ·exact ⟨_, _, rfl⟩
 have hb1 := (Below.refl w.heap.size w).alloc (Nat.le_refl _) (.cells #[] 162)
 have HO := Bas.hid (Ln.own_zero (size := 4) (Bas.heap_new w (.cells #[] 162)) (Nat.le_refl w.heap.size))
 have HL1 := Bas.hid (Row.leads_below hL hb1)
 have HB1 := Bas.hid hb1
 have hsz := hb1.size
 have HFL := Bas.hid (enC_flat M.ents)
 have hon := enC_one M.ents
 have k1 := (hb1.block _ (heap_lt hg)).trans hg
 obtain ⟨n, hn⟩ : ∃ n, M.ents.length = n := ⟨_, rfl⟩
 rw [hn] at k1 hE6 HL1 HFL ⊢
 have g3 := cell_of_heap (i := 3) (v := .slice ad n cp) k1 rfl
 have lg := heap_lt k1
 clear hb1 hL hg k1 hn hok
 go_enter Tryz.func83, Tryz.ntmps83
 go_wp2_with (at_builtin; refine Row.fence ?_)
 refine Row.unfence ?_
 generalize w.alloc (.cells #[] 162) = W1 at *
 refine Row.append_any rfl _ _ 170 162 rfl (.agg #[.int .i64 0, .int .i64 0, .int .i64 0, .int .i64 0]) 4 32 Tryz.underlying170 infoE6 rfl (by decide) w.heap.size (.slice (some ⟨w.heap.size, 0, none⟩) 0 0) 0 [] rfl HO.out (.slice ad n cp) n (M.ents.flatMap enC) rfl HL1.out HFL.out hon (by unfold maxLen; omega) (by omega) hsz ?_
 intro v7 w7 ho7 hg7 _
 have HO7 := Bas.hid ho7
 have HB7 := Bas.hid (HB1.out.grown hg7 hsz (fun g' hg' => by cases hg'; exact Nat.le_refl _))
 clear ho7 hg7
 go_wp2_with (fail)
 go_ret
 refine ⟨HB7.out, v7, rfl, ?_⟩
 have h := HO7.out
 rw [Nat.zero_add, List.nil_append] at h
 exact h
end St
end Go.Proofs.YtoncnjhhdlpliaaGreat
namespace Go.Proofs.YtoncnjhhdlpliaaGreat
open Go.RowKit
namespace Cx
open Vw Ch Lk St Ln Dr
structure CtxD where
 m : MachD
 subs : List (List PartD)
def manyStep (m x : Int) : Int := if x = 65535 then m else if m < x + 1 then x + 1 else m
def manyE (m : Int) (e : EntD) : Int := manyStep (manyStep m e.a) e.b
def manyOf (l : List EntD) : Int := l.foldl manyE 0
def subsL (sub : List Int) (gl : Nat) : Nat → Option (List (List PartD))
 | 0 => some []
 | k + 1 => (subsL sub gl k).bind fun l => if 4 * k + 4 ≤ sub.length ∧ be sub (4 * k) 4 ≤ sub.length then (parseLk (sub.drop (be sub (4 * k) 4).toNat) gl 2).map fun ps => l ++ [ps] else none
def ctxParse (bs : List Int) (gl : Nat) : Option CtxD := (parseSt bs gl 2).bind fun M =>
 if 20 ≤ bs.length ∧ be bs 16 4 ≤ bs.length then (subsL (bs.drop (be bs 16 4).toNat) gl (manyOf M.ents).toNat).map fun l => ⟨M, l⟩ else none
theorem subsL_none {sub : List Int} {gl k : Nat} (h : subsL sub gl k = none) : ∀ n, k ≤ n → subsL sub gl n = none := by
  intro n hn
  induction n with
  | zero => obtain rfl : k = 0 := by omega
            exact h
  | succ n ih =>
    by_cases hk : k = n + 1
    · subst hk; exact h
    · unfold subsL; rw [ih (by omega)]; rfl
theorem subsL_len {sub : List Int} {gl : Nat} : ∀ {k : Nat} {l : List (List PartD)}, subsL sub gl k = some l → l.length = k
 | 0, l, h => by simp [subsL] at h; subst h; rfl
 | k + 1, l, h => by
  unfold subsL at h
  cases h1 : subsL sub gl k with
  | none => rw [h1] at h; cases h
  | some l1 =>
   rw [h1] at h
   simp only [Option.bind_some] at h
   split at h
   ·cases h2 : parseLk (sub.drop (be sub (4 * k) 4).toNat) gl 2 with
    | none => rw [h2] at h; cases h
    | some ps =>
     rw [h2] at h
     cases h
     rw [List.length_append, subsL_len h1]; rfl
   ·cases h
def SubOk (ps : List PartD) : Prop := (∀ p ∈ ps, PartOk p) ∧ rises ps = true
theorem subsL_ok {sub : List Int} (hb : ∀ x ∈ sub, 0 ≤ x ∧ x ≤ 255) {gl : Nat} (h1 : 1 ≤ gl) (h2 : gl ≤ 65536) : ∀ {k : Nat} {l : List (List PartD)}, subsL sub gl k = some l → ∀ ps ∈ l, SubOk ps
 | 0, l, h => by simp [subsL] at h; subst h; intro ps h; cases h
 | k + 1, l, h => by
  unfold subsL at h
  cases h3 : subsL sub gl k with
  | none => rw [h3] at h; cases h
  | some l1 =>
   rw [h3] at h
   simp only [Option.bind_some] at h
   split at h
   ·cases h4 : parseLk (sub.drop (be sub (4 * k) 4).toNat) gl 2 with
    | none => rw [h4] at h; cases h
    | some ps =>
     rw [h4] at h
     cases h
     intro qs hq
     rcases List.mem_append.1 hq with hq | hq
     ·exact subsL_ok hb h1 h2 h3 qs hq
     ·simp at hq
      subst hq
      obtain ⟨o1, o2⟩ := parseLk_ok (fun x hx => hb x (List.mem_of_mem_drop hx)) h1 h2 (by omega) h4
      exact ⟨o1, o2⟩
   ·cases h
def NeedOk (e : EntD) (n : Nat) : Prop := (e.a = 65535 ∨ e.a < n) ∧ (e.b = 65535 ∨ e.b < n)
theorem manyStep_ge (m x : Int) : m ≤ manyStep m x ∧ (x = 65535 ∨ x < manyStep m x) := by
 unfold manyStep; split
 ·exact ⟨by omega, .inl (by assumption)⟩
 ·split <;> exact ⟨by omega, .inr (by omega)⟩
theorem many_mono : ∀ (l : List EntD) (m : Int), m ≤ l.foldl manyE m
 | [], m => Int.le_refl _
 | e :: l, m => by
  have h1 := (manyStep_ge m e.a).1
  have h2 := (manyStep_ge (manyStep m e.a) e.b).1
  have h3 := many_mono l (manyE m e)
  rw [List.foldl_cons]
  unfold manyE at h3 ⊢
  omega
theorem many_need : ∀ (l : List EntD) (m : Int) (e : EntD), e ∈ l → (e.a = 65535 ∨ e.a < l.foldl manyE m) ∧ (e.b = 65535 ∨ e.b < l.foldl manyE m)
 | [], _, e, h => by cases h
 | x :: l, m, e, h => by
  rw [List.foldl_cons]
  rcases List.mem_cons.1 h with rfl | h
  ·have h1 := manyStep_ge m e.a
   have h2 := manyStep_ge (manyStep m e.a) e.b
   have h3 := many_mono l (manyE m e)
   unfold manyE at h3 ⊢
   constructor
   ·rcases h1.2 with h | h
    ·exact .inl h
    ·right; omega
   ·rcases h2.2 with h | h
    ·exact .inl h
    ·right; omega
  ·exact many_need l _ e h
theorem many_bd : ∀ (l : List EntD) (m : Int), 0 ≤ m → m ≤ 65535 → (∀ e ∈ l, (0 ≤ e.a ∧ e.a ≤ 65535) ∧ (0 ≤ e.b ∧ e.b ≤ 65535)) → 0 ≤ l.foldl manyE m ∧ l.foldl manyE m ≤ 65535
 | [], m, h1, h2, _ => ⟨h1, h2⟩
 | e :: l, m, h1, h2, h3 => by
  rw [List.foldl_cons]
  have h := h3 e (by simp)
  refine many_bd l _ ?_ ?_ (fun x hx => h3 x (by simp [hx]))
  ·have := (manyStep_ge m e.a).1; have := (manyStep_ge (manyStep m e.a) e.b).1; unfold manyE; omega
  ·unfold manyE manyStep; repeat' split
   all_goals omega
structure CtxOk (T : CtxD) : Prop where
 m : MachOk T.m
 subs : ∀ ps ∈ T.subs, SubOk ps
 need : ∀ e ∈ T.m.ents, NeedOk e T.subs.length
theorem ctx_ok {bs : List Int} (hb : ∀ x ∈ bs, 0 ≤ x ∧ x ≤ 255) {gl : Nat} (h1 : 1 ≤ gl) (h2 : gl ≤ 65536) {T : CtxD} (h : ctxParse bs gl = some T) : CtxOk T := by
 unfold ctxParse at h
 cases hM : parseSt bs gl 2 with
 | none => rw [hM] at h; cases h
 | some M =>
  rw [hM] at h
  simp only [Option.bind_some] at h
  split at h
  ·cases hs : subsL (bs.drop (be bs 16 4).toNat) gl (manyOf M.ents).toNat with
   | none => rw [hs] at h; cases h
   | some l =>
    rw [hs] at h
    cases h
    have hok := parseSt_ok hb h1 h2 hM
    refine ⟨hok, subsL_ok (fun x hx => hb x (List.mem_of_mem_drop hx)) h1 h2 hs, fun e he => ?_⟩
    have hn := many_need M.ents 0 e he
    have hbd := many_bd M.ents 0 (by omega) (by omega) (fun e he => ⟨(hok.ents e he).2.2.1, (hok.ents e he).2.2.2⟩)
    have hl := subsL_len hs
    unfold manyOf at hl
    unfold NeedOk
    simp only
    rw [hl]
    omega
  ·cases h
def CtxAt (w : World) (v : Value) (T : CtxD) : Prop :=
 ∃ g gm vs us, v = .pointer (some ⟨g, 0, none⟩) ∧ w.heap[g]? = some (.cells #[.pointer (some ⟨gm, 0, none⟩), vs] 169 (0, 0)) ∧ MachAt w (.pointer (some ⟨gm, 0, none⟩)) T.m ∧ us.length = T.subs.length ∧ Row.Leads w vs T.subs.length us ∧
  ∀ (i : Nat) (ps : List PartD) (u : Value), T.subs[i]? = some ps → us[i]? = some u → LkAt w u ps
theorem CtxAt.below {w w' : World} {v : Value} {T : CtxD} (h : CtxAt w v T) (hb : Below w.heap.size w w') : CtxAt w' v T := by
 obtain ⟨g, gm, vs, us, h1, h2, h3, h4, h5, h6⟩ := h
 exact ⟨g, gm, vs, us, h1, (hb.block _ (heap_lt h2)).trans h2, h3.below hb, h4, Row.leads_below h5 hb, fun i ps u hi hu => (h6 i ps u hi hu).below hb⟩
def ctxSwap (subs : List (List PartD)) (xs : List Gl) (i which : Int) : List Gl := if which = 65535 then xs else match glAt xs i with
 | none => xs
 | some g => match getL (subs.getD which.toNat []) g.1 with
  | some n => setId xs i n
  | none => xs
def ctxF (T : CtxD) : PlF Int := fun mark xs i e =>
 (if e.flags / 32768 % 2 = 1 ∧ i < xs.length then i else mark, ctxSwap T.subs (ctxSwap T.subs xs mark e.a) i e.b)
def ctxRun (T : CtxD) (xs : List Gl) : List Gl × Int := ((dall T.m (plF (ctxF T)) (-1) xs).1.xs, (dall T.m (plF (ctxF T)) (-1) xs).2)
theorem setId_len (xs : List Gl) (i n : Int) : (setId xs i n).length = xs.length := by unfold setId; split <;> simp
theorem ctxSwap_len (subs : List (List PartD)) (xs : List Gl) (i which : Int) : (ctxSwap subs xs i which).length = xs.length := by
 unfold ctxSwap; split
 ·rfl
 ·split
  ·rfl
  ·split
   ·exact setId_len _ _ _
   ·rfl
end Cx
end Go.Proofs.YtoncnjhhdlpliaaGreat
namespace Go.Proofs.YtoncnjhhdlpliaaGreat
open Go.RowKit
namespace Cx
open Vw Ch Lk St Ln Dr
set_option maxRecDepth 100000 in
set_option maxHeartbeats 8000000 in
theorem ctxSwap_any (base g : Nat) (sv v : Value) (xs : List Gl) (T : CtxD) (i which : Int) (u : World) (hT : CtxAt u v T) (hok : CtxOk T) (hL : LineAt u base g sv xs) (hw0 : 0 ≤ which) (hw : which = 65535 ∨ which < T.subs.length) :
  Calls Tryz.prog 86 #[v, .pointer (some ⟨g, 0, none⟩), .int .i64 i, .int .i64 which] u fun e w' => e = .returned (.tuple #[]) ∧ LnTo u base g sv (ctxSwap T.subs xs i which) w' := by
 have HAT := Bas.hid (at_any base g sv xs i u hL)
 have HL := Bas.hid hL
 obtain ⟨gt, gm, vs, us, rfl, hgt, hm, hul, hle, hsub⟩ := hT
 have HGT := Bas.hid hgt
 have HLE := Bas.hid hle
 have HSUB := Bas.hid hsub
 clear hgt hm hle hsub hL
 obtain ⟨o1, ho1⟩ : ∃ o1, glAt xs i = o1 := ⟨_, rfl⟩
 have HO1 := Bas.hid ho1
 rw [ho1] at HAT
 clear ho1
 obtain ⟨y0, y1, bk, hat⟩ : ∃ y0 y1 bk, atV o1 = .tuple #[.agg #[.int .i64 y0, .int .i64 y1], .bool bk] := by
  cases o1 with
  | none => exact ⟨0, 0, false, rfl⟩
  | some x => exact ⟨x.1, x.2, true, rfl⟩
 rw [hat] at HAT
 have HATV := Bas.hid hat
 clear hat
 have HSAME := Bas.hid (fun (w' : World) (hb : Below u.heap.size u w') (h : ctxSwap T.subs xs i which = xs) => (show LnTo u base g sv (ctxSwap T.subs xs i which) w' by
  rw [h]; exact LnTo.behind hb (LnTo.refl (HL.out.below hb))))
 by_cases h1 : which = 65535
 ·have HS : Hid (ctxSwap T.subs xs i which = xs) := by unfold Hid ctxSwap; rw [if_pos h1]
  have e1 : (which == 65535) = true := by simpa using h1
  clear hw h1
  go_enter Tryz.func86, Tryz.ntmps86
  go_wp2_with (fail)
  refine HAT.out.mono ?_
  rintro e w1 ⟨rfl, hb1⟩
  have HF := Bas.hid (HSAME.out _ (hb1.trans ((Below.refl w1.heap.size w1).alloc (Nat.le_refl _) (.cells #[.int .i64 y0, .int .i64 y1] 47) |>.mono hb1.size)) HS.out)
  clear hb1 HAT
  go_wp2_with (fail)
  refine bodyPost_ret (results_none rfl _ _ _) rfl ?_
  exact ⟨rfl, HF.out⟩
 ·have e1 : (which == 65535) = false := by simpa using h1
  have hwl : which < T.subs.length := hw.resolve_left h1
  cases o1 with
  | none =>
   have HS : Hid (ctxSwap T.subs xs i which = xs) := by unfold Hid ctxSwap; rw [if_neg h1, HO1.out]
   have hv := HATV.out
   simp only [atV] at hv
   cases hv
   clear hw h1
   go_enter Tryz.func86, Tryz.ntmps86
   go_wp2_with (fail)
   refine HAT.out.mono ?_
   rintro e w1 ⟨rfl, hb1⟩
   have HF := Bas.hid (HSAME.out _ (hb1.trans ((Below.refl w1.heap.size w1).alloc (Nat.le_refl _) (.cells #[.int .i64 0, .int .i64 0] 47) |>.mono hb1.size)) HS.out)
   clear hb1 HAT
   go_wp2_with (fail)
   refine bodyPost_ret (results_none rfl _ _ _) rfl ?_
   exact ⟨rfl, HF.out⟩
  | some x =>
   obtain ⟨x0, x1⟩ := x
   have hv := HATV.out
   simp only [atV] at hv
   cases hv
   obtain ⟨k, rfl⟩ := Int.eq_ofNat_of_zero_le hw0
   obtain ⟨ps, hps⟩ : ∃ ps, T.subs[k]? = some ps := ⟨_, List.getElem?_eq_getElem (by omega)⟩
   obtain ⟨uk, huk⟩ : ∃ uk, us[k]? = some uk := ⟨_, List.getElem?_eq_getElem (by omega)⟩
   have hlk := HSUB.out k ps uk hps huk
   obtain ⟨lkg, hlkg⟩ : ∃ lkg, uk = .pointer (some ⟨lkg, 0, none⟩) := by
    obtain ⟨q, _, _, _, h, _⟩ := hlk
    exact ⟨q, h⟩
   subst hlkg
   obtain ⟨hp1, hp2⟩ := hok.subs ps (List.mem_of_getElem? hps)
   have hp3 := parts_few hp1 hp2
   obtain ⟨B, O, cap, hvs, hcell⟩ := leads_at HLE.out huk
   subst hvs
   have HCS : Hid (ctxSwap T.subs xs i (k : Int) = match getL ps y0 with | some n => setId xs i n | none => xs) := by
    unfold Hid ctxSwap
    rw [if_neg h1, HO1.out]
    simp only [Int.toNat_natCast, List.getD_eq_getElem?_getD, hps, Option.getD_some] <;> cases getL ps y0 <;> rfl
   have HLK := Bas.hid hlk
   have HCELL := Bas.hid hcell
   have HP1 := Bas.hid hp1
   have HP2 := Bas.hid hp2
   have hkl : k < T.subs.length := by omega
   generalize T.subs.length = m at *
   have e2 : decide ((k : Int) < (m : Int)) = true := by simp; omega
   have e3 : decide (k < m) = true := by simp; omega
   clear hw h1 hps huk hlk hp1 hp2 hcell hwl hul
   go_enter Tryz.func86, Tryz.ntmps86
   go_wp2_with (fail)
   refine HAT.out.mono ?_
   rintro e w1 ⟨rfl, hb1⟩
   have kT := Bas.heap_new w1 (.cells #[.int .i64 y0, .int .i64 y1] 47)
   have hb2 := hb1.trans ((Below.refl w1.heap.size w1).alloc (Nat.le_refl _) (.cells #[.int .i64 y0, .int .i64 y1] 47) |>.mono hb1.size)
   have d0 := cell_of_heap (i := 0) kT rfl
   have kt := (hb2.block _ (heap_lt HGT.out)).trans HGT.out
   have ct := cell_of_heap (i := 1) kt rfl
   have cl := (hb2.cell (p := ⟨B, O + k, none⟩) (World.block_lt_of_cell? _ _ HCELL.out)).trans HCELL.out
   have HKT := Bas.hid kT
   have HKt := Bas.hid kt
   have HCL := Bas.hid cl
   have HB2 := Bas.hid hb2
   clear hb1 hb2 kT kt HAT
   go_wp2_with (fail)
   generalize (w1.alloc (.cells #[.int .i64 y0, .int .i64 y1] 47)) = W2 at *
   obtain ⟨RI, RF, Ri, RF0, RFk, RFw⟩ := Pl.fam_of W2 (fun u => u.cell? ⟨gt, 1, none⟩ = some (.slice (some ⟨B, O, none⟩) m cap) ∧ u.cell? ⟨B, O + k, none⟩ = some (.pointer (some ⟨lkg, 0, none⟩)) ∧ u.cell? ⟨w1.heap.size, 0, none⟩ = some (.int .i64 y0)) ⟨ct, cl, d0⟩
   have RFH := Bas.hid RF0
   have RhI : Nonempty RI := ⟨Ri⟩
   have RFW := Bas.hid RFw
   have z0 := fun i => (RFk i).1
   have z1 := fun i => (RFk i).2.1
   have z2 := fun i => (RFk i).2.2
   clear RF0 RFw RFk ct cl d0
   refine Pl.region_plan0 Ri [(true, 0), (true, 1), (true, 2), (true, 3), (true, 4), (true, 5), (true, 6), (true, 7), (true, 8), (false, 9), (true, 10), (true, 11), (true, 12), (true, 13), (true, 14)] [] (by kernel_rfl) (by kernel_rfl) (fun _ _ _ _ e h => ⟨e ▸ h.1, h.2⟩) RFH.out ?_
   refine Pl.head_sel0 [(true, 0), (true, 1), (true, 2), (true, 3), (true, 4), (true, 5), (true, 6), (true, 7), (true, 8)] (by kernel_rfl) (by kernel_rfl) ?_
   simp only [Pl.sel, List.drop_succ_cons, List.drop_zero]
   repeat (go_big_quiet_step (fail))
   refine wpQuiet_nil ?_
   rw [← RFH.out]
   clear z0 z1 z2
   refine Pl.one_sel (by kernel_rfl) ?_
   intro Q' hQ' hP'
   simp only [Pl.sel, List.drop_succ_cons, List.drop_zero]
   go_wp2_with (fail)
   have hbd := Bas.below_drewN (Below.refl W2.heap.size W2) 1
   refine (get_any _ ps y0 W2.drew (HLK.out.below (HB2.out.trans (hbd.mono HB2.out.size))) HP1.out HP2.out hp3).mono ?_
   rintro e w4 ⟨rfl, hb4⟩
   have hb4' : Below W2.heap.size W2 w4 := hbd.trans hb4
   have HB4 := Bas.hid (HB2.out.trans (hb4'.mono HB2.out.size))
   have q0 : w4.cell? ⟨gt, 1, none⟩ = some (.slice (some ⟨B, O, none⟩) m cap) := cell_of_heap (i := 1) ((hb4'.block _ (heap_lt HKt.out)).trans HKt.out) rfl
   have q1 : w4.cell? ⟨w1.heap.size, 0, none⟩ = some (.int .i64 y0) := cell_of_heap (i := 0) ((hb4'.block _ (heap_lt HKT.out)).trans HKT.out) rfl
   have q2 : w4.cell? ⟨B, O + k, none⟩ = some (.pointer (some ⟨lkg, 0, none⟩)) := (hb4'.cell (p := ⟨B, O + k, none⟩) (World.block_lt_of_cell? _ _ HCL.out)).trans HCL.out
   clear hb4 hb4' hbd
   go_wp2_with (fail)
   refine hQ' _ _ (fun _ _ => RFW.out _ ⟨q0, q2, q1⟩) ?_
   clear q0 q1 q2 hQ' hP' Q' RFW RFH
   refine Pl.head_sel0 (rest := []) [(true, 10), (true, 11), (true, 12), (true, 13), (true, 14)] (by kernel_rfl) (by kernel_rfl) ?_
   simp only [Pl.sel, List.drop_succ_cons, List.drop_zero]
   repeat (go_big_quiet_step (fail))
   refine wpQuiet_nil ?_
   simp only [Pl.walkM]
   obtain ⟨o, ho⟩ : ∃ o, getL ps y0 = o := ⟨_, rfl⟩
   rw [ho] at HCS ⊢
   clear ho RhI Ri
   cases o with
   | none =>
    have HF := Bas.hid (HSAME.out _ HB4.out HCS.out)
    simp only [Option.getD_none, Option.isSome_none]
    go_wp2_with (fail)
    go_end0
    exact ⟨rfl, HF.out⟩
   | some y =>
    have HSET := Bas.hid (set_any base g sv xs i y w4 (HL.out.below HB4.out))
    simp only [Option.getD_some, Option.isSome_some]
    go_wp2_with (fail)
    refine HSET.out.mono ?_
    rintro e w6 ⟨rfl, hto⟩
    have HF : Hid (LnTo u base g sv (ctxSwap T.subs xs i (k : Int)) w6) := by unfold Hid; rw [HCS.out]; exact LnTo.behind HB4.out hto
    clear hto HSET
    go_wp2_with (fail)
    go_end0
    exact ⟨rfl, HF.out⟩
end Cx
end Go.Proofs.YtoncnjhhdlpliaaGreat
namespace Go.Proofs.YtoncnjhhdlpliaaGreat
open Go.RowKit
namespace Cx
open Vw Ch Lk St Ln Dr
def ctxBox (bt bx K B gt g : Nat) (s : Int) (u : World) : Prop :=
 u.heap[bt]? = some (.cells #[.pointer (some ⟨gt, 0, none⟩)] 128 (0, 0)) ∧ u.heap[bx]? = some (.cells #[.pointer (some ⟨g, 0, none⟩)] 32 (0, 0)) ∧ u.heap[K]? = some (.cells #[.int .i64 s] 3 (0, 0)) ∧
 u.heap[B]? = some (.cells #[.func (.func 85) #[] #[.pointer (some ⟨bt, 0, none⟩), .pointer (some ⟨bx, 0, none⟩), .pointer (some ⟨K, 0, none⟩)]] 166 (0, 0))
def ctxBx (bt bx K B : Nat) (k : Nat) : Prop := k = bt ∨ k = bx ∨ k = K ∨ k = B
theorem ctx_boxes (bt bx K B gt g : Nat) : Boxes (ctxBox bt bx K B gt g) (ctxBx bt bx K B) := by
 refine ⟨fun s u h k hk => ?_, fun s u u' T h hm hT => ?_⟩
 ·obtain ⟨h1, h2, h3, h4⟩ := h
  rcases hk with rfl | rfl | rfl | rfl
  ·exact heap_lt h1
  ·exact heap_lt h2
  ·exact heap_lt h3
  ·exact heap_lt h4
 ·obtain ⟨h1, h2, h3, h4⟩ := h
  exact ⟨hm.heap h1 (fun h => hT _ h (.inl rfl)), hm.heap h2 (fun h => hT _ h (.inr (.inl rfl))), hm.heap h3 (fun h => hT _ h (.inr (.inr (.inl rfl)))), hm.heap h4 (fun h => hT _ h (.inr (.inr (.inr rfl))))⟩
def CtxInv (_ : Int) (xs : List Gl) : Prop := xs.length ≤ 1000000
set_option maxRecDepth 100000 in
set_option maxHeartbeats 8000000 in
theorem ctx1_any (base g bt bx K B gt : Nat) (sv : Value) (s : Int) (xs : List Gl) (T : CtxD) (W0 u : World) (pl : Int) (e : EntD) (hT : CtxAt W0 (.pointer (some ⟨gt, 0, none⟩)) T) (hok : CtxOk T) (hb0 : Below W0.heap.size W0 u) (hbase : W0.heap.size ≤ base) (h : LineAt u base g sv xs) (hX : ctxBox bt bx K B gt g s u) (hI : CtxInv s xs)
  (hne : bt ≠ K ∧ bx ≠ K ∧ K ≠ B) (hown : ∀ k, sv.ownBlock = some k → ¬ ctxBx bt bx K B k) (_hpl : 0 ≤ pl) (he : e ∈ T.m.ents) :
  Calls Tryz.prog 85 (#[.int .i64 pl, .agg #[.int .i64 e.next, .int .i64 e.flags, .int .i64 e.a, .int .i64 e.b]] ++ #[.pointer (some ⟨bt, 0, none⟩), .pointer (some ⟨bx, 0, none⟩), .pointer (some ⟨K, 0, none⟩)]) u
   (ActP (ctxF T) base g (ctxBox bt bx K B gt g) (ctxBx bt bx K B) CtxInv s xs sv u pl e) := by
 obtain ⟨hn1, hn2⟩ := hok.need e he
 obtain ⟨_, ⟨hf0, hf1⟩, ⟨ha0, _⟩, ⟨hb0', _⟩⟩ := hok.m.ents e he
 obtain ⟨e0, fl, e2, e3⟩ := e
 obtain ⟨kb0, kx0, kK0, kB0⟩ := hX
 simp only at hf0 hf1 ha0 hb0' hn1 hn2
 have HB1 := Bas.hid ((Below.refl u.heap.size u).alloc (Nat.le_refl _) (.cells #[.int .i64 e0, .int .i64 fl, .int .i64 e2, .int .i64 e3] 162))
 have kE := Bas.heap_new u (.cells #[.int .i64 e0, .int .i64 fl, .int .i64 e2, .int .i64 e3] 162)
 have hL1 := h.below HB1.out
 have kb := (HB1.out.block _ (heap_lt kb0)).trans kb0
 have kx := (HB1.out.block _ (heap_lt kx0)).trans kx0
 have kK := (HB1.out.block _ (heap_lt kK0)).trans kK0
 have kB := (HB1.out.block _ (heap_lt kB0)).trans kB0
 have hxl := heap_lt kb0
 have hxl2 := heap_lt kx0
 have hxl3 := heap_lt kK0
 have hxl4 := heap_lt kB0
 have HXL := Bas.hid (show bt < u.heap.size ∧ bx < u.heap.size ∧ K < u.heap.size ∧ B < u.heap.size from ⟨hxl, hxl2, hxl3, hxl4⟩)
 have HG : Hid (g ≠ bt ∧ g ≠ bx ∧ g ≠ K ∧ g ≠ B) := by
  have hh := h.head
  refine ⟨fun e => ?_, fun e => ?_, fun e => ?_, fun e => ?_⟩ <;> subst e
  ·rw [kb0] at hh; cases hh
  ·rw [kx0] at hh; cases hh
  ·rw [kK0] at hh; cases hh
  ·rw [kB0] at hh; cases hh
 have HOWN := Bas.hid hown
 have HL := Bas.hid h
 have HTB := Bas.hid (fun (w' : World) (hm : Mod (fun k => blk g sv k ∨ ctxBx bt bx K B k) u w') => hT)
 have HBW := Bas.hid hb0
 have HBS := Bas.hid hbase
 have HT := Bas.hid hT
 have HI := Bas.hid hI
 have HLOW := Bas.hid (show ∀ k, blk g sv k → W0.heap.size ≤ k from fun k hk => Nat.le_trans hbase (h.blk_low k hk).1)
 have n1 := hne.1
 have n2 := hne.2.1
 have n3 := hne.2.2
 have hgE : u.heap.size ≠ K := by omega
 clear h kb0 kx0 kK0 kB0 hL1 hT hb0 hbase hown hI hxl hxl2 hxl3 hxl4 hne
 obtain ⟨xs1, hx1⟩ : ∃ xs1, ctxSwap T.subs xs s e2 = xs1 := ⟨_, rfl⟩
 have HX1 := Bas.hid hx1
 obtain ⟨xs2, hx2⟩ : ∃ xs2, ctxSwap T.subs xs1 pl e3 = xs2 := ⟨_, rfl⟩
 have HX2 := Bas.hid hx2
 have HLEN : Hid (xs2.length = xs.length) := by unfold Hid; rw [← hx2, ctxSwap_len, ← hx1, ctxSwap_len]
 have HS1 := Bas.hid (ctxSwap_any base g sv (.pointer (some ⟨gt, 0, none⟩)) xs T s e2 (u.alloc (.cells #[.int .i64 e0, .int .i64 fl, .int .i64 e2, .int .i64 e3] 162)) (HT.out.below (HBW.out.trans (HB1.out.mono HBW.out.size))) hok (HL.out.below HB1.out) ha0 hn1)
 rw [hx1] at HS1
 have q1 := flag_at fl 15 32768 rfl (by omega) hf0 hf1
 have HN2 := Bas.hid (And.intro hb0' hn2)
 have cb := cell_of_heap (i := 0) kb rfl
 have cx := cell_of_heap (i := 0) kx rfl
 have cK := cell_of_heap (i := 0) kK rfl
 have c2 := cell_of_heap (i := 2) kE rfl
 have lb := heap_lt kb
 have lx := heap_lt kx
 have lK := heap_lt kK
 have lE := heap_lt kE
 clear hx1 hx2 hn1 hn2 ha0 hb0'
 go_enter Tryz.func85, Tryz.ntmps85
 go_wp2_with (fail)
 generalize hW : (u.alloc (.cells #[.int .i64 e0, .int .i64 fl, .int .i64 e2, .int .i64 e3] 162)) = W1 at *
 have HSZ : Hid (W1.heap.size = u.heap.size + 1) := by unfold Hid; rw [← hW]; exact World.size_alloc _ _
 clear hW
 refine HS1.out.mono ?_
 rintro e w2 ⟨rfl, sv2, hL2, hm2, ho2⟩
 have hnb : ∀ k, ctxBx bt bx K B k → ¬ blk g sv k := fun k hk hb => by
  rcases hb with rfl | hb
  ·have hg := HG.out
   rcases hk with h | h | h | h
   ·exact hg.1 h
   ·exact hg.2.1 h
   ·exact hg.2.2.1 h
   ·exact hg.2.2.2 h
  ·exact HOWN.out k hb hk
 have kb2 := hm2.heap kb (hnb _ (.inl rfl))
 have kx2 := hm2.heap kx (hnb _ (.inr (.inl rfl)))
 have kK2 := hm2.heap kK (hnb _ (.inr (.inr (.inl rfl))))
 have kB2 := hm2.heap kB (hnb _ (.inr (.inr (.inr rfl))))
 have kE2 := hm2.heap kE (fun hk => by have := (HL.out.blk_low _ hk).2; omega)
 have hbw2 : Below W0.heap.size W0 w2 := hm2.below (HBW.out.trans (HB1.out.mono HBW.out.size)) (fun k hk => HLOW.out k hk) (HBW.out.trans (HB1.out.mono HBW.out.size)).size
 have HS2 := Bas.hid (ctxSwap_any base g sv2 (.pointer (some ⟨gt, 0, none⟩)) xs1 T pl e3 w2 (HT.out.below hbw2) hok hL2 HN2.out.1 HN2.out.2)
 rw [HX2.out] at HS2
 have HO2 : Hid (∀ k, sv2.ownBlock = some k → sv.ownBlock = some k ∨ u.heap.size < k) := fun k hk => (ho2 k hk).imp id (fun h => by have := HSZ.out; omega)
 have HM2 : Hid (Mod (fun k => blk g sv k ∨ ctxBx bt bx K B k) u w2) := (Mod.of_below HB1.out).trans hm2 (fun k hk _ => .inl hk)
 have HL2 := Bas.hid hL2
 clear cb cx cK c2 lb lx lK lE kb kx kK kB kE HS1 hL2 hm2 ho2 hnb hbw2
 have cb := cell_of_heap (i := 0) kb2 rfl
 have cx := cell_of_heap (i := 0) kx2 rfl
 have cK := cell_of_heap (i := 0) kK2 rfl
 have c2 := cell_of_heap (i := 3) kE2 rfl
 have lb := heap_lt kb2
 have lx := heap_lt kx2
 have lK := heap_lt kK2
 have lE := heap_lt kE2
 go_wp2_with (fail)
 refine HS2.out.mono ?_
 rintro e w3 ⟨rfl, sv3, hL3, hm3, ho3⟩
 have hnb : ∀ k, k < u.heap.size → ctxBx bt bx K B k → ¬ blk g sv2 k := fun k hlt hk hb => by
  rcases hb with rfl | hb
  ·have hg := HG.out
   rcases hk with h | h | h | h
   ·exact hg.1 h
   ·exact hg.2.1 h
   ·exact hg.2.2.1 h
   ·exact hg.2.2.2 h
  ·rcases HO2.out k hb with h | h
   ·exact HOWN.out k h hk
   ·omega
 have kb3 := hm3.heap kb2 (hnb _ HXL.out.1 (.inl rfl))
 have kx3 := hm3.heap kx2 (hnb _ HXL.out.2.1 (.inr (.inl rfl)))
 have kK3 := hm3.heap kK2 (hnb _ HXL.out.2.2.1 (.inr (.inr (.inl rfl))))
 have kB3 := hm3.heap kB2 (hnb _ HXL.out.2.2.2 (.inr (.inr (.inr rfl))))
 have kE3 := hm3.heap kE2 (fun hk => by
  rcases hk with rfl | hk
  ·have := HL.out.lt; omega
  ·rcases HO2.out _ hk with h | h
   ·have := (Row.own_block HL.out.own h).2; omega
   ·omega)
 have HM3 : Hid (Mod (fun k => blk g sv k ∨ ctxBx bt bx K B k) u w3) := HM2.out.trans hm3 (fun k hk hlt => by
  rcases hk with rfl | hk
  ·exact .inl (.inl rfl)
  ·rcases HO2.out k hk with h | h
   ·exact .inl (.inr h)
   ·omega)
 have HO3 : Hid (∀ k, sv3.ownBlock = some k → sv.ownBlock = some k ∨ u.heap.size ≤ k) := fun k hk => (ho3 k hk).elim (fun h => (HO2.out k h).imp id Nat.le_of_lt) (fun h => .inr (Nat.le_trans HM2.out.size h))
 have HL3 := Bas.hid hL3
 have HDIS : Hid (∀ k, blk g sv3 k → k ≠ K) := fun k hk e => by
  subst e
  rcases hk with h | h
  ·exact HG.out.2.2.1 h.symm
  ·rcases HO3.out k h with h | h
   ·exact HOWN.out k h (.inr (.inr (.inl rfl)))
   ·have := HXL.out.2.2.1; omega
 have HLEN3 := Bas.hid (len_any base g sv3 xs2 w3 hL3)
 clear cb cx cK c2 lb lx lK lE kb2 kx2 kK2 kB2 kE2 HS2 hL3 hm3 ho3 hnb
 have cb := cell_of_heap (i := 0) kb3 rfl
 have cx := cell_of_heap (i := 0) kx3 rfl
 have fK := free_of_heap (i := 0) kK3
 have cK := cell_of_heap (i := 0) kK3 rfl
 have c2 := cell_of_heap (i := 1) kE3 rfl
 have lx := heap_lt kx3
 have lK := heap_lt kK3
 have lE := heap_lt kE3
 have HRF := Bas.hid (show ctxF T s xs pl ⟨e0, fl, e2, e3⟩ = (if fl / 32768 % 2 = 1 ∧ pl < xs.length then pl else s, xs2) by
  unfold ctxF; simp only; rw [HX1.out, HX2.out])
 have HDONE : Hid (∀ (v : Int) (w' : World), w' = w3.setCell ⟨K, 0, none⟩ (.int .i64 v) ∨ (w' = w3 ∧ v = s) → v = (if fl / 32768 % 2 = 1 ∧ pl < xs.length then pl else s) → ActP (ctxF T) base g (ctxBox bt bx K B gt g) (ctxBx bt bx K B) CtxInv s xs sv u pl ⟨e0, fl, e2, e3⟩ (.returned (.tuple #[])) w') := by
  intro v w' hw' hv
  unfold ActP
  rw [HRF.out, ← hv]
  have hin : CtxInv v xs2 := by unfold CtxInv; rw [HLEN.out]; exact HI.out
  rcases hw' with rfl | ⟨rfl, rfl⟩
  ·refine ⟨rfl, sv3, HL3.out.mod ((Mod.refl (fun k => k = K) w3).set (.int .i64 v) (.inl rfl)) HDIS.out, ?_, hin, HM3.out.set (.int .i64 v) (.inl (.inr (.inr (.inr (.inl rfl))))), HO3.out⟩
   exact ⟨(Below.heap_setCell _ _ _ _ (by exact n1)).trans kb3, (Below.heap_setCell _ _ _ _ (by exact n2)).trans kx3, heap_set (i := 0) kK3 _, (Below.heap_setCell _ _ _ _ (by exact fun e => n3 e.symm)).trans kB3⟩
  ·exact ⟨rfl, sv3, HL3.out, ⟨kb3, kx3, kK3, kB3⟩, hin, HM3.out, HO3.out⟩
 obtain ⟨n, hn⟩ : ∃ n, xs.length = n := ⟨_, rfl⟩
 rw [HLEN.out, hn] at HLEN3
 rw [hn] at HDONE
 clear kb3 kx3 kK3 kB3 kE3 hn
 by_cases z1 : fl / 32768 % 2 = 1
 ·rw [if_pos z1] at q1
  by_cases z2 : pl < (n : Int)
  ·have e9 : decide (pl < (n : Int)) = true := by simpa using z2
   have HF := Bas.hid (HDONE.out pl (w3.setCell ⟨K, 0, none⟩ (.int .i64 pl)) (.inl rfl) (by rw [if_pos ⟨z1, z2⟩]))
   clear z1 HDONE
   go_wp2_with (fail)
   refine HLEN3.out.mono ?_
   rintro e w4 ⟨rfl, rfl⟩
   go_wp2_with (fail)
   go_end0
   exact HF.out
  ·have e9 : decide (pl < (n : Int)) = false := by simpa using z2
   have HF := Bas.hid (HDONE.out s w3 (.inr ⟨rfl, rfl⟩) (by rw [if_neg (fun h => z2 h.2)]))
   clear z1 HDONE
   go_wp2_with (fail)
   refine HLEN3.out.mono ?_
   rintro e w4 ⟨rfl, rfl⟩
   go_wp2_with (fail)
   go_end0
   exact HF.out
 ·rw [if_neg z1] at q1
  have HF := Bas.hid (HDONE.out s w3 (.inr ⟨rfl, rfl⟩) (by rw [if_neg (fun h => z1 h.1)]))
  clear z1 HDONE
  go_wp2_with (fail)
  go_end0
  exact HF.out
set_option maxRecDepth 100000 in
set_option maxHeartbeats 8000000 in
theorem ctxRun_any (base g : Nat) (sv v : Value) (xs : List Gl) (T : CtxD) (W0 w : World) (hT : CtxAt W0 v T) (hok : CtxOk T) (hb0 : Below W0.heap.size W0 w) (hbase : W0.heap.size ≤ base) (hL : LineAt w base g sv xs) (hlen : xs.length ≤ 1000000) :
  Calls Tryz.prog 58 #[v, .pointer (some ⟨g, 0, none⟩)] w fun e w' => e = .returned (.int .i64 (ctxRun T xs).2) ∧ LnTo w base g sv (ctxRun T xs).1 w' := by
 have hmf : ∀ (fn : Fn) (first cap : Array Value) (w : World), (Instr.makeFunc fn first cap).run Tryz.prog w = .ok (.func fn first cap) w := fun _ _ _ _ => rfl
 have HT := Bas.hid hT
 obtain ⟨gt, gm, vs, us, rfl, hgt, hm, _, _, _⟩ := hT
 have kt := (hb0.block _ (heap_lt hgt)).trans hgt
 have HGT0 := Bas.hid (heap_lt hgt)
 have HCT0 := Bas.hid (cell_of_heap (i := 0) kt rfl)
 have HL := Bas.hid hL
 have HM := Bas.hid hm
 have HB0 := Bas.hid hb0
 have HBA := Bas.hid hbase
 have hb3 := ((((Below.refl w.heap.size w).alloc (Nat.le_refl _) (.cells #[.pointer (some ⟨gt, 0, none⟩)] 128)).alloc (by simp) (.cells #[.pointer (some ⟨g, 0, none⟩)] 32)).alloc (by simp; omega) (.cells #[.int .i64 (-1)] 3))
 have z1 := World.size_alloc w (.cells #[.pointer (some ⟨gt, 0, none⟩)] 128)
 have z2 := World.size_alloc (w.alloc (.cells #[.pointer (some ⟨gt, 0, none⟩)] 128)) (.cells #[.pointer (some ⟨g, 0, none⟩)] 32)
 have kb := (Below.heap_alloc ((w.alloc (.cells #[.pointer (some ⟨gt, 0, none⟩)] 128)).alloc (.cells #[.pointer (some ⟨g, 0, none⟩)] 32)) (.cells #[.int .i64 (-1)] 3) w.heap.size (by omega)).trans ((Below.heap_alloc (w.alloc (.cells #[.pointer (some ⟨gt, 0, none⟩)] 128)) (.cells #[.pointer (some ⟨g, 0, none⟩)] 32) w.heap.size (by omega)).trans (Bas.heap_new w (.cells #[.pointer (some ⟨gt, 0, none⟩)] 128)))
 have kF := (Below.heap_alloc ((w.alloc (.cells #[.pointer (some ⟨gt, 0, none⟩)] 128)).alloc (.cells #[.pointer (some ⟨g, 0, none⟩)] 32)) (.cells #[.int .i64 (-1)] 3) (w.heap.size + 1) (by omega)).trans (Bas.heap_new2 w (.cells #[.pointer (some ⟨gt, 0, none⟩)] 128) (.cells #[.pointer (some ⟨g, 0, none⟩)] 32))
 have kL := Bas.heap_new ((w.alloc (.cells #[.pointer (some ⟨gt, 0, none⟩)] 128)).alloc (.cells #[.pointer (some ⟨g, 0, none⟩)] 32)) (.cells #[.int .i64 (-1)] 3)
 rw [z2, z1] at kL
 have kt1 := (hb3.block _ (heap_lt kt)).trans kt
 clear hL hm hb0 hbase
 go_enter Tryz.func58, Tryz.ntmps58
 go_wp2_with (fail)
 generalize (((w.alloc (.cells #[.pointer (some ⟨gt, 0, none⟩)] 128)).alloc (.cells #[.pointer (some ⟨g, 0, none⟩)] 32)).alloc (.cells #[.int .i64 (-1)] 3)) = W3 at *
 clear z1 z2
 have HB3 := Bas.hid hb3
 have cb := cell_of_heap (i := 0) kb rfl
 have lb := heap_lt kb
 have cx := cell_of_heap (i := 0) kF rfl
 have lx := heap_lt kF
 have ct := cell_of_heap (i := 0) kt1 rfl
 have lt := heap_lt kt1
 have HKB := Bas.hid kb
 have HKF := Bas.hid kF
 have HKL := Bas.hid kL
 clear hb3 kb kF kL kt kt1 hgt
 have hLT : LineAt W3 base g sv xs := HL.out.below HB3.out
 obtain ⟨RI, RF, Ri, RF0, RFk, RFw⟩ := Pl.fam_of W3 (fun u => u.cell? ⟨gt, 0, none⟩ = some (.pointer (some ⟨gm, 0, none⟩)) ∧ u.cell? ⟨w.heap.size, 0, none⟩ = some (.pointer (some ⟨gt, 0, none⟩)) ∧ u.cell? ⟨w.heap.size + 1, 0, none⟩ = some (.pointer (some ⟨g, 0, none⟩))) ⟨ct, cb, cx⟩
 have RFH := Bas.hid RF0
 have RhI : Nonempty RI := ⟨Ri⟩
 have RFW := Bas.hid RFw
 have z0 := fun i => (RFk i).1
 have z1 := fun i => (RFk i).2.1
 have z2 := fun i => (RFk i).2.2
 have HCT := Bas.hid ct
 have HCB := Bas.hid cb
 have HCX := Bas.hid cx
 clear RF0 RFw RFk ct cb cx lb lt lx
 refine Pl.region_plan0 Ri [(true, 0), (true, 1), (true, 2), (true, 3), (true, 4), (true, 5), (false, 6), (false, 7), (true, 8), (true, 9), (true, 10), (true, 11), (true, 12)] [] (by kernel_rfl) (by kernel_rfl) (fun _ _ _ _ e h => ⟨e ▸ h.1, h.2⟩) RFH.out ?_
 refine Pl.head_sel0 [(true, 0), (true, 1), (true, 2), (true, 3), (true, 4), (true, 5)] (by kernel_rfl) (by kernel_rfl) ?_
 simp only [Pl.sel, List.drop_succ_cons, List.drop_zero]
 repeat (go_big_quiet_step (fail))
 refine wpQuiet_nil ?_
 rw [← RFH.out]
 clear z0 z1 z2
 refine Pl.one_sel (by kernel_rfl) ?_
 intro Q' hQ' hP'
 simp only [Pl.sel, List.drop_succ_cons, List.drop_zero]
 go_wp2_with (fail)
 refine (plain_any 85 _ W3.drew).mono ?_
 rintro e w4 ⟨rfl, hb4, kB⟩
 have hb4' : Below W3.heap.size W3 w4 := (Bas.below_drewN (Below.refl W3.heap.size W3) 1).trans hb4
 have HB4 := Bas.hid hb4'
 have HKB4 := Bas.hid kB
 have hct4 : w4.cell? ⟨gt, 0, none⟩ = some (.pointer (some ⟨gm, 0, none⟩)) := (hb4'.cell (p := ⟨gt, 0, none⟩) (World.block_lt_of_cell? _ _ HCT.out)).trans HCT.out
 have hcb4 : w4.cell? ⟨w.heap.size, 0, none⟩ = some (.pointer (some ⟨gt, 0, none⟩)) := (hb4'.cell (p := ⟨w.heap.size, 0, none⟩) (World.block_lt_of_cell? _ _ HCB.out)).trans HCB.out
 have hcx4 : w4.cell? ⟨w.heap.size + 1, 0, none⟩ = some (.pointer (some ⟨g, 0, none⟩)) := (hb4'.cell (p := ⟨w.heap.size + 1, 0, none⟩) (World.block_lt_of_cell? _ _ HCX.out)).trans HCX.out
 have HX4 : Hid (ctxBox w.heap.size (w.heap.size + 1) (w.heap.size + 1 + 1) W3.heap.size gt g (-1) w4) := ⟨(hb4'.block _ (heap_lt HKB.out)).trans HKB.out, (hb4'.block _ (heap_lt HKF.out)).trans HKF.out, (hb4'.block _ (heap_lt HKL.out)).trans HKL.out, kB⟩
 clear hb4 hb4' kB
 go_wp2_with (fail)
 refine hQ' _ _ (fun _ _ => RFW.out _ ⟨hct4, hcb4, hcx4⟩) ?_
 clear hct4 hcb4 hcx4 hQ' hP' Q'
 refine Pl.one_sel (by kernel_rfl) ?_
 intro Q' hQ' hP'
 simp only [Pl.sel, List.drop_succ_cons, List.drop_zero]
 go_wp2_with (fail)
 have hz3 := HB3.out.size
 have hlF := heap_lt HKL.out
 have HWAY := Bas.hid (plain_way T.m (ctxF T) W0 w w4 base gm g sv xs 85 W3.heap.size #[.pointer (some ⟨w.heap.size, 0, none⟩), .pointer (some ⟨w.heap.size + 1, 0, none⟩), .pointer (some ⟨w.heap.size + 1 + 1, 0, none⟩)]
  (ctxBox w.heap.size (w.heap.size + 1) (w.heap.size + 1 + 1) W3.heap.size gt g) (ctxBx w.heap.size (w.heap.size + 1) (w.heap.size + 1 + 1) W3.heap.size) CtxInv (-1) hok.m HM.out HB0.out HBA.out HL.out (by omega) (ctx_boxes _ _ _ _ _ _)
  (fun k hk => by rcases hk with h | h | h | h <;> omega) (fun s u h => h.2.2.2) (fun args w => by simp [go_sem]) (HB3.out.trans (HB4.out.mono hz3)) HX4.out hlen
  (fun s xs sv' u pl e hL hb hx hi hp hp2 he hown => ctx1_any base g _ _ _ _ gt sv' s xs T W0 u pl e HT.out hok hb HBA.out hL hx hi ⟨by omega, by omega, by omega⟩ hown hp he))
 clear hz3 hlF
 refine HWAY.out.mono ?_
 rintro e w5 ⟨rfl, hto, s', hx⟩
 have HTO := Bas.hid hto
 have HX5 := Bas.hid hx
 have hct5 : w5.cell? ⟨gt, 0, none⟩ = some (.pointer (some ⟨gm, 0, none⟩)) := by
  obtain ⟨sv', _, hm', _⟩ := hto
  have hlt : gt < W0.heap.size := HGT0.out
  have hcw := HCT0.out
  refine hm'.cell hcw (fun hk => ?_)
  have h1 := (HL.out.blk_low _ hk).1
  have h2 := HBA.out
  omega
 have hcb5 : w5.cell? ⟨w.heap.size, 0, none⟩ = some (.pointer (some ⟨gt, 0, none⟩)) := cell_of_heap hx.1 rfl
 have hcx5 : w5.cell? ⟨w.heap.size + 1, 0, none⟩ = some (.pointer (some ⟨g, 0, none⟩)) := cell_of_heap hx.2.1 rfl
 clear hto hx HWAY
 go_wp2_with (fail)
 refine hQ' _ _ (fun _ _ => RFW.out _ ⟨hct5, hcb5, hcx5⟩) ?_
 clear hct5 hcb5 hcx5 hQ' hP' Q'
 refine Pl.head_sel0 (rest := []) [(true, 8), (true, 9), (true, 10), (true, 11), (true, 12)] (by kernel_rfl) (by kernel_rfl) ?_
 simp only [Pl.sel, List.drop_succ_cons, List.drop_zero]
 repeat (go_big_quiet_step (fail))
 refine wpQuiet_nil ?_
 simp only [Pl.walkM]
 go_wp2_with (fail)
 go_ret
 exact ⟨rfl, HTO.out⟩
end Cx
end Go.Proofs.YtoncnjhhdlpliaaGreat
namespace Go.Proofs.YtoncnjhhdlpliaaGreat
open Go.RowKit
namespace Cx
open Vw Ch Lk St Ln Dr
def CtxTakeP (w : World) (bs : List Int) (gl : Nat) (e : Ending) (w' : World) : Prop :=
 Below w.heap.size w w' ∧ match ctxParse bs gl with
  | none => e = .panicked short
  | some T => ∃ v, e = .returned v ∧ Lives w.heap.size (fun u => CtxAt u v T) w'
theorem enC_at {w : World} {base n : Nat} {v : Value} {es : List EntD} (h : w.ownsRow base 162 4 v n (es.flatMap enC)) {i : Nat} {e : EntD} (he : es[i]? = some e) :
  ∃ b cp, v = .slice (some ⟨b, 0, none⟩) n cp ∧ b < w.heap.size ∧ w.cell? ⟨b, i * 4, none⟩ = some (.int .i64 e.next) ∧ w.cell? ⟨b, i * 4 + 1, none⟩ = some (.int .i64 e.flags) ∧ w.cell? ⟨b, i * 4 + 2, none⟩ = some (.int .i64 e.a) ∧ w.cell? ⟨b, i * 4 + 3, none⟩ = some (.int .i64 e.b) := by
 have hL := Row.leads_elem enC_len (Row.leads_owned h) he (by omega)
 obtain ⟨b, o, cp, hv, hc⟩ := hL
 rcases Row.owned_parts h with ⟨h1, _⟩ | ⟨g, cap, h1, _, h2, _⟩
 ·rw [h1] at hv; cases hv
 ·rw [h1] at hv; cases hv
  have c0 := hc 0 _ rfl
  have c1 := hc 1 _ rfl
  have c2 := hc 2 _ rfl
  have c3 := hc 3 _ rfl
  simp only [Nat.zero_add, Nat.add_zero] at c0 c1 c2 c3
  exact ⟨_, _, h1, h2, c0, c1, c2, c3⟩
theorem many_take (es : List EntD) (i : Nat) (e : EntD) (he : es[i]? = some e) : (es.take (i + 1)).foldl manyE 0 = manyE ((es.take i).foldl manyE 0) e := by
 rw [List.take_add_one, he, List.foldl_append]; rfl
set_option maxRecDepth 100000 in
set_option maxHeartbeats 16000000 in
theorem ctxTake_any (a : Option Addr) (len cap : Nat) (bs : List Int) (gl : Nat) (w : World) (hl : len ≤ cap) (hc : cap ≤ maxLen) (hv : VB w a bs) (hbl : bs.length = len) (hg1 : 1 ≤ gl) (hg2 : gl ≤ 65536) :
  Calls Tryz.prog 57 #[.agg #[.slice a len cap], .int .i64 gl] w (CtxTakeP w bs gl) := by
 have k1 := Bas.heap_new w (.cells #[.slice a len cap] 52)
 have hb1 := (Below.refl w.heap.size w).alloc (Nat.le_refl _) (.cells #[.slice a len cap] 52)
 have HB1 := Bas.hid hb1
 have HV := Bas.hid (fun (w' : World) (hb : Below w.heap.size w w') => hv.below hb)
 have HT := Bas.hid (stTake_any a len cap bs gl 2 _ hl hc (hv.below hb1) hbl (by omega) hg1 hg2)
 have hbyte := hv.byte
 have b16 := be_rng4 hv.byte 16 4 (by omega)
 obtain ⟨o16, ho16⟩ := Int.eq_ofNat_of_zero_le b16.1
 have HO16 := Bas.hid ho16
 have HBY := Bas.hid hbyte
 have c0 := cell_of_heap (i := 0) k1 rfl
 have lk := heap_lt k1
 clear hb1 hv b16 ho16 hbyte
 go_enter Tryz.func57, Tryz.ntmps57
 go_wp2_with (fail)
 generalize w.alloc (.cells #[.slice a len cap] 52) = W1 at *
 refine HT.out.mono ?_
 rintro e w2 ⟨hb2, h2⟩
 have kT := (hb2.block _ lk).trans k1
 have HB2 := Bas.hid (HB1.out.trans (hb2.mono HB1.out.size))
 have hw1 := HB1.out.size
 clear hb2 HT c0 lk k1
 cases hp : parseSt bs gl 2 with
 | none =>
  rw [hp] at h2
  simp only at h2
  subst h2
  have HNO : Hid (ctxParse bs gl = none) := by unfold Hid ctxParse; rw [hp]; rfl
  go_wp2_with (fail)
  exact ⟨rfl, HB2.out, by rw [HNO.out]⟩
 | some M =>
  rw [hp] at h2
  simp only at h2
  obtain ⟨v, rfl, hm⟩ := h2
  have hv2 : ∃ gm, v = .pointer (some ⟨gm, 0, none⟩) := by
   obtain ⟨gm, _, _, _, _, h, _⟩ := hm.now
   exact ⟨gm, h⟩
  obtain ⟨gm, rfl⟩ := hv2
  have HM := Bas.hid (hm.mono HB1.out.size)
  have HP := Bas.hid hp
  have HOK := Bas.hid (parseSt_ok HBY.out hg1 hg2 hp)
  clear hm hp
  go_wp2_with (fail)
  have k3 := Bas.heap_new w2 (.cells #[.pointer (some ⟨gm, 0, none⟩), .slice none 0 0] 169)
  have hb3 := (Below.refl w2.heap.size w2).alloc (Nat.le_refl _) (.cells #[.pointer (some ⟨gm, 0, none⟩), .slice none 0 0] 169)
  have kT3 := (hb3.block _ (heap_lt kT)).trans kT
  have HB3 := Bas.hid (HB2.out.trans (hb3.mono HB2.out.size))
  have HBG3 := Bas.hid hb3
  have hGT : w.heap.size ≤ w2.heap.size := HB2.out.size
  clear hb3 kT HB2
  generalize w2.alloc (.cells #[.pointer (some ⟨gm, 0, none⟩), .slice none 0 0] 169) = W3 at *
  obtain ⟨GT, hGTe⟩ : ∃ GT, w2.heap.size = GT := ⟨_, rfl⟩
  rw [hGTe] at k3 hGT HBG3 ⊢
  have HGTE := Bas.hid hGTe
  clear hGTe
  have lT := heap_lt kT3
  have c0 := cell_of_heap (i := 0) kT3 rfl
  have HPARSE : Hid (ctxParse bs gl = if 20 ≤ len ∧ (o16 : Int) ≤ len then (subsL (bs.drop o16) gl (manyOf M.ents).toNat).map fun l => ⟨M, l⟩ else none) := by
   unfold Hid ctxParse; rw [HP.out, Option.bind_some, HO16.out, hbl, Int.toNat_natCast]
  by_cases f20 : 20 ≤ len
  ·have HU := Bas.hid (fun (w' : World) (hb : Below w.heap.size w w') => (by
    have h := u32_ok a len cap bs 16 w' hl hc (HV.out w' hb) hbl (by omega) (by omega)
    rw [show ((16 : Int)).toNat = 16 by rfl, HO16.out] at h
    exact h : Calls Tryz.prog 50 #[.agg #[.slice a len cap], .int .i64 16] w' fun e w'' => e = .returned (.int .i64 (o16 : Nat)) ∧ Below w'.heap.size w' w''))
   by_cases g16 : o16 ≤ len
   ·have HR := Bas.hid (fun (w' : World) (_ : Below w.heap.size w w') => (by
     have h := rest_ok a len cap (o16 : Nat) w' hl hc (by omega) (by omega)
     rw [Int.toNat_natCast] at h
     exact h : Calls Tryz.prog 75 #[.agg #[.slice a len cap], .int .i64 (o16 : Nat)] w' fun e w'' => e = .returned (.agg #[.slice (sub a o16 (len - o16)) (len - o16) (len - o16)]) ∧ Below w'.heap.size w' w''))
    have HS := Bas.hid (fun (w' : World) (hb : Below w.heap.size w w') => (by
     have h := vb_drop (HV.out w' hb) o16 (by omega)
     rw [hbl] at h
     exact h : VB w' (sub a o16 (len - o16)) (bs.drop o16)))
    have HPY : Hid (ctxParse bs gl = (subsL (bs.drop o16) gl (manyOf M.ents).toNat).map fun l => ⟨M, l⟩) := by unfold Hid; rw [HPARSE.out, if_pos ⟨f20, by omega⟩]
    generalize sub a o16 (len - o16) = S at *
    obtain ⟨sl, hsl⟩ : ∃ sl, len - o16 = sl := ⟨_, rfl⟩
    rw [hsl] at HR
    have HSL : Hid ((bs.drop o16).length = sl) := by unfold Hid; rw [List.length_drop, hbl]; exact hsl
    have hslm : sl ≤ maxLen := by omega
    clear hsl
    refine' Pl.region_v1 73 [] [0, 1, 2, 3] 4 6 [5] _ (fun v u => ∃ g, v = .pointer (some ⟨g, 0, none⟩) ∧ W3.heap.size ≤ g ∧ u.heap[g]? = some (.cells #[.slice none 0 0] 52 (0, 0))) (by kernel_rfl) (by kernel_rfl) (by simp) (fun _ _ _ _ e h => ⟨e ▸ h.1, h.2⟩) ?_ ?_ ?_ ?_
    rotate_left
    ·intro I F hI hF
     simp only [Pl.selN, List.nil_append, List.drop_succ_cons, List.drop_zero]
     have z0 := fun i => hF.cell lT c0 i
     repeat (go_big_quiet_step ((first | (go_at_call 50; with_reducible exact hF.call (HU.out _ (HB3.out.trans ((hF.bel _).mono HB3.out.size)))) | (go_at_call 75; with_reducible exact hF.call (HR.out _ (HB3.out.trans ((hF.bel _).mono HB3.out.size)))))))
     refine wpQuiet_nil ?_
     rfl
    ·rintro v u u' ⟨g, h1, h2, h3⟩ hu hu'
     exact ⟨g, h1, h2, (hu'.block g (heap_lt h3)).trans h3⟩
    ·simp only [Pl.selN, List.drop_succ_cons, List.drop_zero, List.mem_singleton, forall_eq]
     intro u hu
     go_simp
     simp only [Pl.valsAt]
     exact ⟨(Below.refl _ _).alloc (Nat.le_refl _) _, _, rfl, hu.size, Bas.heap_new _ _⟩
    ·intro v u hu hv
     obtain ⟨T6, rfl, hT6, kT6⟩ := hv
     simp only [Pl.selN, List.drop_succ_cons, List.drop_zero, Act.put, List.setIfInBounds_toArray, List.set_cons_zero, List.set_cons_succ]
     have k3u := (hu.block _ (heap_lt k3)).trans k3
     have HB4 := Bas.hid (HB3.out.trans (hu.mono HB3.out.size))
     have HBG4 := Bas.hid (HBG3.out.trans (hu.mono (Nat.le_of_lt (heap_lt k3))))
     have cT := cell_of_heap (i := 0) kT6 rfl
     have fT := free_of_heap (i := 0) kT6
     have lT6 := heap_lt kT6
     clear hu kT3 lT c0
     have hTG : T6 ≠ GT := by have := heap_lt k3u; have := HBG3.out.size; intro e; subst e; have h := heap_lt k3; omega
     have ct := cell_of_heap (i := 0) k3u rfl
     have lG := heap_lt k3u
     go_wp2_with (fail)
     clear ct lG
     have kT7 := heap_set (i := 0) kT6 (.slice S sl sl)
     have k7 := (Below.heap_setCell u ⟨T6, 0, none⟩ (.slice S sl sl) GT (by exact fun e => hTG e.symm)).trans k3u
     have hT6w : w.heap.size ≤ T6 := Nat.le_trans HB3.out.size hT6
     have hT6g : GT ≤ T6 := by have := heap_lt k3; omega
     have HB7 := Bas.hid (HB4.out.setCell (p := ⟨T6, 0, none⟩) hT6w (.slice S sl sl))
     have HBG7 := Bas.hid (HBG4.out.setCell (p := ⟨T6, 0, none⟩) hT6g (.slice S sl sl))
     clear cT fT lT6 kT6 k3u HB4 HBG4 hT6 k3
     generalize (u.setCell ⟨T6, 0, none⟩ (.slice S sl sl)) = W7 at *
     have hG7 := heap_lt k7
     have HKT7 := Bas.hid kT7
     have HK7 := Bas.hid k7
     have HENT := Bas.hid (entries_any (.pointer (some ⟨gm, 0, none⟩)) M W7 (HM.out.below (HGTE.out.symm ▸ HBG7.out)).now HOK.out)
     obtain ⟨n, hn⟩ : ∃ n, M.ents.length = n := ⟨_, rfl⟩
     have HN := Bas.hid hn
     have hn6 := HOK.out.nents
     rw [hn] at HENT hn6
     clear kT7 k7 hn
     refine HENT.out.mono ?_
     rintro e w8 ⟨hb8, v8, rfl, ho8⟩
     obtain ⟨a8, c8, rfl⟩ := own_slice ho8
     have HB8 := Bas.hid (HB7.out.trans (hb8.mono HB7.out.size))
     have HBG8 := Bas.hid (HBG7.out.trans (hb8.mono (Nat.le_of_lt hG7)))
     have HKT8 := Bas.hid ((hb8.block _ (heap_lt HKT7.out)).trans HKT7.out)
     have HK8 := Bas.hid ((hb8.block _ (heap_lt HK7.out)).trans HK7.out)
     have HO8 := Bas.hid ho8
     clear hb8 ho8 HENT hG7 HKT7 HK7 HB7 HBG7
     go_wp2_with (fail)
     go_loopw [7, 28] (fun v7 vi wr => ∃ i : Nat, i ≤ n ∧ vi = .int .i64 i ∧ v7 = .int .i64 ((M.ents.take i).foldl manyE 0) ∧ Below w8.heap.size w8 wr) (fun _ vi _ => n - (intOf vi).toNat)
     case atStart => exact ⟨0, Nat.zero_le _, rfl, rfl, Below.refl _ _⟩
     case round =>
      obtain ⟨i, hi, rfl, rfl, hb⟩ := hrel
      have HB := Bas.hid hb
      by_cases hin : i < n
      ·have e1 : decide ((i : Int) < (n : Int)) = true := by simp; omega
       obtain ⟨⟨e0, e1', e2, e3⟩, he⟩ : ∃ e, M.ents[i]? = some e := ⟨_, List.getElem?_eq_getElem (by rw [HN.out]; exact hin)⟩
       have HMT := Bas.hid (many_take M.ents i _ he)
       have hbd := (HOK.out.ents _ (List.mem_of_getElem? he)).2.2
       obtain ⟨be', ce, hve, lbe, d0, d1, d2, d3⟩ := enC_at (Row.owned_below HO8.out hb) he
       cases hve
       obtain ⟨m0, hm0⟩ : ∃ m0, (M.ents.take i).foldl manyE 0 = m0 := ⟨_, rfl⟩
       rw [hm0] at HMT ⊢
       have kE := Bas.heap_new wr (.cells #[.int .i64 e0, .int .i64 e1', .int .i64 e2, .int .i64 e3] 162)
       have hb9 := (Below.refl wr.heap.size wr).alloc (Nat.le_refl _) (.cells #[.int .i64 e0, .int .i64 e1', .int .i64 e2, .int .i64 e3] 162)
       have HB9 := Bas.hid (hb.trans (hb9.mono hb.size))
       simp only at d0 d1 d2 d3 hbd
       have q2 := cell_of_heap (i := 2) kE rfl
       have q3 := cell_of_heap (i := 3) kE rfl
       have lE := heap_lt kE
       have hs9 : (wr.alloc (.cells #[.int .i64 e0, .int .i64 e1', .int .i64 e2, .int .i64 e3] 162)).heap.size = wr.heap.size + 1 := World.size_alloc _ _
       have k10 := Bas.heap_new (wr.alloc (.cells #[.int .i64 e0, .int .i64 e1', .int .i64 e2, .int .i64 e3] 162)) (.cells #[.int .i64 e2, .int .i64 e3] 3)
       rw [hs9] at k10
       have HB10 := Bas.hid (HB9.out.trans (((Below.refl _ (wr.alloc (.cells #[.int .i64 e0, .int .i64 e1', .int .i64 e2, .int .i64 e3] 162))).alloc (Nat.le_refl _) (.cells #[.int .i64 e2, .int .i64 e3] 3)).mono HB9.out.size))
       clear hb he hm0 hb9 kE
       go_wp2_with (fail)
       generalize ((wr.alloc (.cells #[.int .i64 e0, .int .i64 e1', .int .i64 e2, .int .i64 e3] 162)).alloc (.cells #[.int .i64 e2, .int .i64 e3] 3)) = W10 at *
       obtain ⟨G10, hG10⟩ : ∃ G10, wr.heap.size + 1 = G10 := ⟨_, rfl⟩
       rw [hG10] at k10 ⊢
       have HK10 := Bas.hid k10
       clear hG10 hs9 q2 q3 lE d0 d1 d2 d3 lbe k10
       go_loopw [7, 38] (fun v7 vi wr => ∃ j : Nat, j ≤ 2 ∧ vi = .int .i64 j ∧ v7 = .int .i64 (([e2, e3].take j).foldl manyStep m0) ∧ Below W10.heap.size W10 wr) (fun _ vi _ => 2 - (intOf vi).toNat)
       case atStart => exact ⟨0, Nat.zero_le _, rfl, rfl, Below.refl _ _⟩
       case round =>
        obtain ⟨j, hj, rfl, rfl, hbj⟩ := hrel
        have HBJ := Bas.hid hbj
        have kw := (hbj.block _ (heap_lt HK10.out)).trans HK10.out
        by_cases hj2 : j < 2
        ·have e5 : decide ((j : Int) < 2) = true := by simp; omega
         have e5b : decide (j < 2) = true := by simp; omega
         obtain ⟨x, hx, hcx⟩ : ∃ x, [e2, e3][j]? = some x ∧ (#[Value.int .i64 e2, Value.int .i64 e3])[j]? = some (.int .i64 x) := by
          rcases (by omega : j = 0 ∨ j = 1) with rfl | rfl
          ·exact ⟨e2, rfl, rfl⟩
          ·exact ⟨e3, rfl, rfl⟩
         have hc := cell_of_heap (i := j) kw hcx
         have lw := heap_lt kw
         have HTJ : Hid (([e2, e3].take (j + 1)).foldl manyStep m0 = manyStep (([e2, e3].take j).foldl manyStep m0) x) := by unfold Hid; rw [List.take_add_one, hx, List.foldl_append]; rfl
         have hxb : 0 ≤ x ∧ x ≤ 65535 := by
          rcases (by omega : j = 0 ∨ j = 1) with rfl | rfl
          ·cases hx; exact hbd.1
          ·cases hx; exact hbd.2
         obtain ⟨mj, hmj⟩ : ∃ mj, ([e2, e3].take j).foldl manyStep m0 = mj := ⟨_, rfl⟩
         rw [hmj] at HTJ ⊢
         clear hbj kw hx hcx hmj
         by_cases h5 : x = 65535
         ·have e6 : (x == 65535) = true := by simpa using h5
          have HV2 : Hid (([e2, e3].take (j + 1)).foldl manyStep m0 = mj) := by unfold Hid; rw [HTJ.out]; unfold manyStep; rw [if_pos h5]
          clear h5
          go_wp2_with (fail)
          go_roundw
          case rel => exact ⟨j + 1, by omega, by go_num, by rw [HV2.out], HBJ.out⟩
          case measure => simp [intOf]; omega
         ·have e6 : (x == 65535) = false := by simpa using h5
          obtain ⟨mk, hmk⟩ : ∃ mk, (if mj < x + 1 then x + 1 else mj) = mk := ⟨_, rfl⟩
          have HV2 : Hid (([e2, e3].take (j + 1)).foldl manyStep m0 = mk) := by unfold Hid; rw [HTJ.out]; unfold manyStep; rw [if_neg h5]; exact hmk
          clear h5
          go_wp2_with (fail)
          go_roundw
          case rel => exact ⟨j + 1, by omega, by go_num, by rw [HV2.out], HBJ.out⟩
          case measure => simp [intOf]; omega
        ·have e5 : decide ((j : Int) < 2) = false := by simp; omega
         have e5b : decide (j < 2) = false := by simp; omega
         have hj3 : j = 2 := by omega
         have HV3 : Hid (([e2, e3].take j).foldl manyStep m0 = manyE m0 ⟨e0, e1', e2, e3⟩) := by subst hj3; rfl
         have HBE := Bas.hid (HB10.out.trans (hbj.mono HB10.out.size))
         obtain ⟨mj, hmj⟩ : ∃ mj, ([e2, e3].take j).foldl manyStep m0 = mj := ⟨_, rfl⟩
         rw [hmj] at HV3 ⊢
         clear hbj kw hmj hj3
         go_wp2_with (fail)
         go_roundw
         case rel => exact ⟨i + 1, by omega, by go_num, by rw [HMT.out, HV3.out], HBE.out⟩
         case measure => simp [intOf]; omega
      ·have e1 : decide ((i : Int) < (n : Int)) = false := by simp; omega
       have e1b : decide (i < n) = false := by simp; omega
       have e1c : ¬ (i : Int) < (n : Int) := by omega
       have HMO : Hid ((M.ents.take i).foldl manyE 0 = manyOf M.ents) := by unfold Hid manyOf; rw [List.take_of_length_le (by rw [HN.out]; omega)]
       rw [HMO.out]
       have hmb := many_bd M.ents 0 (by omega) (by omega) (fun e he => ⟨(HOK.out.ents e he).2.2.1, (HOK.out.ents e he).2.2.2⟩)
       obtain ⟨many, hmany⟩ := Int.eq_ofNat_of_zero_le hmb.1
       have hmb2 := hmb.2
       have hmany2 : manyOf M.ents = (many : Int) := hmany
       rw [show M.ents.foldl manyE 0 = (many : Int) from hmany] at hmb2
       rw [hmany2] at HPY ⊢
       rw [Int.toNat_natCast] at HPY
       have HB11 := Bas.hid (HB8.out.trans (hb.mono HB8.out.size))
       have HBG11 := Bas.hid (HBG8.out.trans (hb.mono (Nat.le_of_lt (heap_lt HK8.out))))
       have HKT11 := Bas.hid ((hb.block _ (heap_lt HKT8.out)).trans HKT8.out)
       have HK11 := Bas.hid ((hb.block _ (heap_lt HK8.out)).trans HK8.out)
       clear hmb hmany hmany2 HMO hb HB8 HBG8 HKT8 HK8 HO8 HB HN
       go_wp2_with (fail)
       generalize hwr11 : wr = W11 at *
       clear hwr11
       go_loopw [51] (fun vi wr => ∃ (i : Nat) (l : List (List PartD)) (us : List Value) (vs : Value), i ≤ many ∧ vi = .int .i64 i ∧ subsL (bs.drop o16) gl i = some l ∧ us.length = i ∧ wr.heap[GT]? = some (.cells #[.pointer (some ⟨gm, 0, none⟩), vs] 169 (0, 0)) ∧ wr.heap[T6]? = some (.cells #[.slice S sl sl] 52 (0, 0)) ∧ wr.ownsRow GT 172 1 vs i us ∧
        (∀ (j : Nat) (ps : List PartD) (u : Value), l[j]? = some ps → us[j]? = some u → Off (fun k => k = GT ∨ vs.ownBlock = some k) w.heap.size (fun x => LkAt x u ps) wr) ∧ Below w.heap.size w wr ∧ Below GT w2 wr) (fun vi _ => many - (intOf vi).toNat)
       case atStart => exact ⟨0, [], [], .slice none 0 0, Nat.zero_le _, rfl, rfl, rfl, HK11.out, HKT11.out, Row.owned_nil _ _ _ _, fun j ps u h => by simp at h, HB11.out, HBG11.out⟩
       case round =>
        obtain ⟨q, l, us, vs, hq, rfl, hsub, hul, hk, hkt, ho, hof, hbw, hbg⟩ := hrel
        have HSUB := Bas.hid hsub
        have HUL := Bas.hid hul
        have HK := Bas.hid hk
        have HKT := Bas.hid hkt
        have HO := Bas.hid ho
        have HOF := Bas.hid hof
        have HBW := Bas.hid hbw
        have HBG := Bas.hid hbg
        obtain ⟨av, cv, rfl⟩ := own_slice ho
        have ct := cell_of_heap (i := 1) hk rfl
        have cq := cell_of_heap (i := 0) hkt rfl
        by_cases hqm : q < many
        ·have e1 : decide ((q : Int) < (many : Int)) = true := by simp; omega
         have HNOP : Hid (subsL (bs.drop o16) gl (q + 1) = none → ctxParse bs gl = none) := fun h => by rw [HPY.out, subsL_none h many (by omega)]; rfl
         clear hsub hul hk hkt ho hof hbw hbg
         go_wp2_with (fail)
         obtain ⟨RI, RF, Ri, RF0, RFk, RFw⟩ := Pl.fam_of wr (fun u => u.cell? ⟨GT, 1, none⟩ = some (.slice av q cv) ∧ u.cell? ⟨T6, 0, none⟩ = some (.slice S sl sl)) ⟨ct, cq⟩
         have RFH := Bas.hid RF0
         have RhI : Nonempty RI := ⟨Ri⟩
         have RFW := Bas.hid RFw
         have z0 := fun i => (RFk i).1
         have z1 := fun i => (RFk i).2
         clear RF0 RFw RFk ct cq
         refine Pl.region_plan0 Ri [(true, 0), (true, 1), (true, 2), (true, 3), (true, 4), (true, 5), (true, 6), (true, 7), (true, 8), (true, 11), (false, 9), (false, 10), (false, 12), (false, 13), (false, 14), (true, 15), (true, 16), (false, 17)] [17] (by kernel_rfl) (by kernel_rfl) (fun _ _ _ _ e h => ⟨e ▸ h.1, h.2⟩) RFH.out ?_
         refine Pl.head_sel0 [(true, 0), (true, 1), (true, 2), (true, 3), (true, 4), (true, 5), (true, 6), (true, 7), (true, 8), (true, 11)] (by kernel_rfl) (by kernel_rfl) ?_
         simp only [Pl.sel, List.drop_succ_cons, List.drop_zero]
         repeat (go_big_quiet_step (fail))
         refine wpQuiet_nil ?_
         rw [← RFH.out]
         refine Pl.one_sel (by kernel_rfl) ?_
         intro Q' hQ' hP'
         simp only [Pl.sel, List.drop_succ_cons, List.drop_zero]
         go_wp2_with (fail)
         have HBD := Bas.hid (HBW.out.trans ((Bas.below_drewN (Below.refl wr.heap.size wr) 1).mono HBW.out.size))
         have HSB := Bas.hid (HBY.out)
         have bq := be_rng4 (fun x hx => HBY.out x (List.mem_of_mem_drop hx) : ∀ x ∈ bs.drop o16, 0 ≤ x ∧ x ≤ 255) (4 * q) 4 (by omega)
         obtain ⟨oq, hoq⟩ := Int.eq_ofNat_of_zero_le bq.1
         have HOQ := Bas.hid hoq
         have HSUB1 : Hid (subsL (bs.drop o16) gl (q + 1) = if 4 * q + 4 ≤ sl ∧ (oq : Int) ≤ sl then (parseLk ((bs.drop o16).drop oq) gl 2).map fun ps => l ++ [ps] else none) := by
          unfold Hid
          rw [subsL, HSUB.out, Option.bind_some, hoq, HSL.out, Int.toNat_natCast]
         clear bq hoq z0 z1
         by_cases f4 : 4 * q + 4 ≤ sl
         ·have hu32 : Calls Tryz.prog 50 #[.agg #[.slice S sl sl], .int .i64 (4 * (q : Int))] wr.drew fun e w'' => e = .returned (.int .i64 (oq : Nat)) ∧ Below wr.drew.heap.size wr.drew w'' := by
           have h := u32_ok S sl sl (bs.drop o16) (4 * (q : Int)) wr.drew (Nat.le_refl _) hslm (HS.out _ HBD.out) HSL.out (by omega) (by omega)
           rw [show (4 * (q : Int)).toNat = 4 * q by omega, HOQ.out] at h
           exact h
          refine hu32.mono ?_
          rintro e w5 ⟨rfl, hb5⟩
          have hb5' : Below wr.heap.size wr w5 := (Bas.below_drewN (Below.refl wr.heap.size wr) 1).trans hb5
          have HB5 := Bas.hid hb5'
          have kk5 := (hb5'.block _ (heap_lt HK.out)).trans HK.out
          have kt5 := (hb5'.block _ (heap_lt HKT.out)).trans HKT.out
          have HK5 := Bas.hid kk5
          have HKT5 := Bas.hid kt5
          have HB5w := Bas.hid (HBW.out.trans (hb5'.mono HBW.out.size))
          clear hu32 hb5 hb5'
          go_wp2_with (fail)
          refine hQ' _ _ (fun _ _ => RFW.out _ ⟨cell_of_heap (i := 1) kk5 rfl, cell_of_heap (i := 0) kt5 rfl⟩) ?_
          clear kk5 kt5 hQ' hP' Q'
          refine Pl.one_sel (by kernel_rfl) ?_
          intro Q' hQ' hP'
          simp only [Pl.sel, List.drop_succ_cons, List.drop_zero]
          go_wp2_with (fail)
          by_cases foq : oq ≤ sl
          ·have hrest : Calls Tryz.prog 75 #[.agg #[.slice S sl sl], .int .i64 (oq : Nat)] w5 fun e w'' => e = .returned (.agg #[.slice (sub S oq (sl - oq)) (sl - oq) (sl - oq)]) ∧ Below w5.heap.size w5 w'' := by
            have h := rest_ok S sl sl (oq : Nat) w5 (Nat.le_refl _) hslm (by omega) (by omega)
            rw [Int.toNat_natCast] at h
            exact h
           refine hrest.mono ?_
           rintro e w6 ⟨rfl, hb6⟩
           have HB6 := Bas.hid (HB5.out.trans (hb6.mono HB5.out.size))
           have kk6 := (hb6.block _ (heap_lt HK5.out)).trans HK5.out
           have kt6 := (hb6.block _ (heap_lt HKT5.out)).trans HKT5.out
           have HK6 := Bas.hid kk6
           have HKT6 := Bas.hid kt6
           have HB6w := Bas.hid (HB5w.out.trans (hb6.mono HB5w.out.size))
           clear hrest hb6 HK5 HKT5 HB5 HB5w
           go_wp2_with (fail)
           refine hQ' _ _ (fun _ _ => RFW.out _ ⟨cell_of_heap (i := 1) kk6 rfl, cell_of_heap (i := 0) kt6 rfl⟩) ?_
           clear kk6 kt6 hQ' hP' Q'
           refine Pl.one_sel (by kernel_rfl) ?_
           intro Q' hQ' hP'
           simp only [Pl.sel, List.drop_succ_cons, List.drop_zero]
           go_wp2_with (fail)
           have hvs6 := vb_drop (HS.out _ HB6w.out) oq (by rw [HSL.out]; exact foq)
           rw [HSL.out] at hvs6
           have hlkt := lkTake_any (sub S oq (sl - oq)) (sl - oq) (sl - oq) ((bs.drop o16).drop oq) gl 2 w6 (Nat.le_refl _) (by omega) hvs6 (by rw [List.length_drop, HSL.out]) (.inl rfl) hg1 hg2
           refine hlkt.mono ?_
           rintro e w7 ⟨hb7, h7⟩
           have HB7 := Bas.hid (HB6.out.trans (hb7.mono HB6.out.size))
           have HB7w := Bas.hid (HB6w.out.trans (hb7.mono HB6w.out.size))
           have kk7 := (hb7.block _ (heap_lt HK6.out)).trans HK6.out
           have kt7 := (hb7.block _ (heap_lt HKT6.out)).trans HKT6.out
           have HK7 := Bas.hid kk7
           have HKT7 := Bas.hid kt7
           have HSZ6 : Hid (wr.heap.size ≤ w6.heap.size) := HB6.out.size
           clear hlkt hb7 HK6 HKT6 HB6 HB6w hvs6
           cases hps : parseLk ((bs.drop o16).drop oq) gl 2 with
           | none =>
            rw [hps] at h7
            simp only at h7
            subst h7
            have HNO : Hid (ctxParse bs gl = none) := HNOP.out (by rw [HSUB1.out, if_pos ⟨f4, by omega⟩, hps]; rfl)
            clear hps kk7 kt7
            go_wp2_with (fail)
            exact ⟨rfl, HB7w.out, by rw [HNO.out]⟩
           | some ps =>
            rw [hps] at h7
            simp only at h7
            obtain ⟨vlk, rfl, hlive⟩ := h7
            have HLIVE := Bas.hid hlive
            have HSUB2 : Hid (subsL (bs.drop o16) gl (q + 1) = some (l ++ [ps])) := by unfold Hid; rw [HSUB1.out, if_pos ⟨f4, by omega⟩, hps]; rfl
            obtain ⟨lkg, hlkg⟩ : ∃ lkg, vlk = .pointer (some ⟨lkg, 0, none⟩) := by
             obtain ⟨q', _, _, _, h, _⟩ := hlive.now
             exact ⟨q', h⟩
            subst hlkg
            clear hps hlive
            go_wp2_with (fail)
            refine hQ' _ _ (fun _ _ => RFW.out _ ⟨cell_of_heap (i := 1) kk7 rfl, cell_of_heap (i := 0) kt7 rfl⟩) ?_
            clear kk7 kt7 hQ' hP' Q'
            refine Pl.one_sel (by kernel_rfl) ?_
            intro Q' hQ' hP'
            simp only [Pl.sel, List.drop_succ_cons, List.drop_zero]
            go_wp2_with (fail)
            have k8 := Bas.heap_new w7 (.cells #[.pointer (some ⟨lkg, 0, none⟩)] 172)
            have hb8 := (Below.refl w7.heap.size w7).alloc (Nat.le_refl _) (.cells #[.pointer (some ⟨lkg, 0, none⟩)] 172)
            have HLD := Bas.hid (Row.leads_one w7 (.pointer (some ⟨lkg, 0, none⟩)) 172)
            have HB8 := Bas.hid (HB7.out.trans (hb8.mono HB7.out.size))
            have kk8 := (hb8.block _ (heap_lt HK7.out)).trans HK7.out
            have kt8 := (hb8.block _ (heap_lt HKT7.out)).trans HKT7.out
            have HK8 := Bas.hid kk8
            have HKT8 := Bas.hid kt8
            have HLIVE8 := Bas.hid (HLIVE.out.below hb8)
            clear hb8 HK7 HKT7 HLIVE
            refine hQ' _ _ (fun _ _ => RFW.out _ ⟨cell_of_heap (i := 1) kk8 rfl, cell_of_heap (i := 0) kt8 rfl⟩) ?_
            clear kk8 kt8 hQ' hP' Q' k8
            generalize (w7.alloc (.cells #[.pointer (some ⟨lkg, 0, none⟩)] 172)) = W8 at *
            refine Pl.one_sel (by kernel_rfl) ?_
            intro Q' hQ' hP'
            simp only [Pl.sel, List.drop_succ_cons, List.drop_zero]
            have HO8 := Bas.hid (Row.owned_below HO.out HB8.out)
            have HGT8 : Hid (GT ≤ W8.heap.size) := Nat.le_of_lt (heap_lt HK8.out)
            refine Row.append_at rfl _ _ 167 172 rfl (.pointer none) 1 8 Tryz.underlying167 (by kernel_rfl) rfl (by decide) GT _ q us rfl HO8.out (.slice (some ⟨w7.heap.size, 0, none⟩) 1 1) 1 [.pointer (some ⟨lkg, 0, none⟩)] rfl HLD.out rfl (by simp; rfl) (by unfold maxLen; omega) (by omega) HGT8.out ?_
            intro v9 w9 ho9 hg9 _ hat9
            obtain ⟨a9, c9, rfl⟩ := own_slice ho9
            have HO9 := Bas.hid ho9
            have hGr : Value.ownBlock (.slice av q cv) ≠ some GT := own_ty HO8.out HK8.out (by decide)
            have hTr : Value.ownBlock (.slice av q cv) ≠ some T6 := own_ty HO8.out HKT8.out (by decide)
            have hvlt : ∀ k, Value.ownBlock (.slice av q cv) = some k → GT ≤ k ∧ k < wr.heap.size := fun k hk => Row.own_block HO.out hk
            have kk9 := (hg9.block _ (heap_lt HK8.out) (fun e => hGr e.symm)).trans HK8.out
            have kt9 := (hg9.block _ (heap_lt HKT8.out) (fun e => hTr e.symm)).trans HKT8.out
            have HK9 := Bas.hid kk9
            have HKT9 := Bas.hid kt9
            have hGw : GT < wr.heap.size := heap_lt HK.out
            have HB9w : Hid (Below w.heap.size w w9) := (HBW.out.trans (HB8.out.mono HBW.out.size)).grown hg9 (Nat.le_trans HBW.out.size HB8.out.size) (fun k hk => Nat.le_trans hGT (hvlt k hk).1)
            have HB9g : Hid (Below GT w2 w9) := (HBG.out.trans (HB8.out.mono (Nat.le_of_lt hGw))).grown hg9 (Nat.le_trans (Nat.le_of_lt hGw) HB8.out.size) (fun k hk => (hvlt k hk).1)
            have hS' : ∀ k, (k = GT ∨ Value.ownBlock (.slice a9 (q + 1) c9) = some k) → (k = GT ∨ Value.ownBlock (.slice av q cv) = some k) ∨ W8.heap.size ≤ k := fun k hk => by
             rcases hk with h | h
             ·exact .inl (.inl h)
             ·rcases hat9 with h9 | h9
              ·exact .inl (.inr (h9.symm.trans h))
              ·rw [h9] at h; cases h; exact .inr (Nat.le_refl _)
            have HOF9 : Hid (∀ (j : Nat) (qs : List PartD) (x : Value), (l ++ [ps])[j]? = some qs → (us ++ [.pointer (some ⟨lkg, 0, none⟩)])[j]? = some x → Off (fun k => k = GT ∨ Value.ownBlock (.slice a9 (q + 1) c9) = some k) w.heap.size (fun z => LkAt z x qs) (w9.setCell ⟨GT, 1, none⟩ (.slice a9 (q + 1) c9))) := by
             intro j qs x hj hx
             have hll := subsL_len HSUB.out
             have h9 : Off (fun k => k = GT ∨ Value.ownBlock (.slice a9 (q + 1) c9) = some k) w.heap.size (fun z => LkAt z x qs) w9 := by
              by_cases hjq : j < q
              ·rw [List.getElem?_append_left (by omega)] at hj
               rw [List.getElem?_append_left (by rw [HUL.out]; exact hjq)] at hx
               exact (HOF.out j qs x hj hx).grow (Nat.le_trans HB8.out.size hg9.size) (fun k _ h2 h3 => (hg9.block k (Nat.lt_of_lt_of_le h2 HB8.out.size) (fun e => h3 (.inr e.symm))).trans (HB8.out.block k h2)) (fun k hk => (hS' k hk).imp id (fun h => Nat.le_trans HB8.out.size h))
              ·rw [List.getElem?_append_right (by omega)] at hj
               rw [List.getElem?_append_right (by rw [HUL.out]; omega), HUL.out] at hx
               rw [hll] at hj
               have hj0 : j - q = 0 := by
                have := (List.getElem?_eq_some_iff.1 hj).1
                simp at this; omega
               rw [hj0] at hj hx
               cases hj
               cases hx
               refine Off.grow (Off.of_lives (S := fun k => k = GT ∨ Value.ownBlock (.slice av q cv) = some k) HLIVE8.out (Nat.le_trans HBW.out.size HSZ6.out) (fun k hk => Nat.lt_of_lt_of_le (by rcases hk with rfl | hk; exact hGw; exact (hvlt k hk).2) HSZ6.out)) hg9.size (fun k _ h2 h3 => hg9.block k h2 (fun e => h3 (.inr e.symm))) hS'
             refine h9.grow (by simp [World.setCell]) (fun k _ _ h3 => Below.heap_setCell _ _ _ _ (by exact fun e => h3 (.inl e))) (fun k hk => .inl hk)
            have HW10 := Bas.hid (HB9w.out.setCell (p := ⟨GT, 1, none⟩) hGT (.slice a9 (q + 1) c9))
            have HG10 := Bas.hid (HB9g.out.setCell (p := ⟨GT, 1, none⟩) (Nat.le_refl _) (.slice a9 (q + 1) c9))
            have HK10 := Bas.hid (heap_set (i := 1) kk9 (.slice a9 (q + 1) c9))
            have HKT10 := Bas.hid ((Below.heap_setCell w9 ⟨GT, 1, none⟩ (.slice a9 (q + 1) c9) T6 (by exact hTG)).trans kt9)
            have hG9 := own_ty HO9.out HK9.out (by decide)
            have HO10 : Hid ((w9.setCell ⟨GT, 1, none⟩ (.slice a9 (q + 1) c9)).ownsRow GT 172 1 (.slice a9 (q + 1) c9) (q + 1) (us ++ [.pointer (some ⟨lkg, 0, none⟩)])) :=
             Row.owned_keep HO9.out fun k hk => Below.heap_setCell _ _ _ _ (fun e => by have e' : k = GT := e; subst e'; exact hG9 hk)
            have HUL10 : Hid ((us ++ [Value.pointer (some ⟨lkg, 0, none⟩)]).length = q + 1) := by unfold Hid; rw [List.length_append, HUL.out]; rfl
            clear ho9 hg9 hat9 hGr hTr hvlt hGw hS' hG9 HLIVE8 HOF
            go_wp2_with (fail)
            refine hQ' _ _ (fun _ _ => RFW.out _ ⟨cell_of_heap (i := 1) kk9 rfl, cell_of_heap (i := 0) kt9 rfl⟩) ?_
            clear hQ' hP' Q' RFW RFH
            refine Pl.head_sel0 [(true, 15), (true, 16)] (by kernel_rfl) (by kernel_rfl) ?_
            simp only [Pl.sel, List.drop_succ_cons, List.drop_zero]
            repeat (go_big_quiet_step (fail))
            refine wpQuiet_nil ?_
            refine Pl.tail_sel [(false, 17)] (by kernel_rfl) (by kernel_rfl) ?_
            simp only [Pl.sel, List.drop_succ_cons, List.drop_zero]
            have c1 := cell_of_heap (i := 1) kk9 rfl
            have f1 := free_of_heap (i := 1) kk9
            have l9 := heap_lt kk9
            clear kk9 kt9
            go_wp2_with (fail)
            go_roundw
            case rel => exact ⟨q + 1, l ++ [ps], us ++ [.pointer (some ⟨lkg, 0, none⟩)], _, by omega, by go_num, HSUB2.out, HUL10.out, HK10.out, HKT10.out, HO10.out, HOF9.out, HW10.out, HG10.out⟩
            case measure => simp [intOf]; omega
          ·have HNO : Hid (ctxParse bs gl = none) := HNOP.out (by rw [HSUB1.out, if_neg (fun h => foq (by omega))])
           refine (rest_no S sl sl (oq : Nat) w5 (Nat.le_refl _) hslm (by omega)).mono ?_
           rintro e w6 ⟨rfl, hb6⟩
           have HB6w := Bas.hid (HB5w.out.trans (hb6.mono HB5w.out.size))
           clear hb6
           go_wp2_with (fail)
           exact ⟨rfl, HB6w.out, by rw [HNO.out]⟩
         ·have HNO : Hid (ctxParse bs gl = none) := HNOP.out (by rw [HSUB1.out, if_neg (fun h => f4 h.1)])
          refine (u32_no S sl sl (4 * (q : Int)) _ (Nat.le_refl _) hslm (by omega)).mono ?_
          rintro e w6 ⟨rfl, hb6⟩
          have HB6w := Bas.hid (HBD.out.trans (hb6.mono HBD.out.size))
          clear hb6
          go_wp2_with (fail)
          exact ⟨rfl, HB6w.out, by rw [HNO.out]⟩
        ·have e1 : decide ((q : Int) < (many : Int)) = false := by simp; omega
         have e1b : decide (q < many) = false := by simp; omega
         have e1c : ¬ (q : Int) < (many : Int) := by omega
         have hqe : q = many := by omega
         have HPF : Hid (ctxParse bs gl = some ⟨M, l⟩) := by unfold Hid; rw [HPY.out, ← hqe, HSUB.out]; rfl
         have HLL := Bas.hid (subsL_len hsub)
         have HFIN : Hid (Lives w.heap.size (fun u => CtxAt u (.pointer (some ⟨GT, 0, none⟩)) ⟨M, l⟩) wr) := fun u hu =>
          ⟨GT, gm, _, us, rfl, lives_heap HK.out hGT u hu, (HM.out.below (HGTE.out.symm ▸ HBG.out)) u hu, HUL.out.trans HLL.out.symm, by
           have h := Row.leads_owned (lives_own HO.out hGT u hu)
           have hq : q = l.length := HLL.out.symm
           subst hq
           exact h, fun j ps x hj hx => (HOF.out j ps x hj hx).lives u hu⟩
         clear hsub hul hk hkt ho hof hbw hbg hqe ct cq
         go_wp2_with (fail)
         go_ret
         exact ⟨HBW.out, by rw [HPF.out]; exact ⟨_, rfl, HFIN.out⟩⟩
   ·have HNO : Hid (ctxParse bs gl = none) := by unfold Hid; rw [HPARSE.out, if_neg (fun h => g16 (by omega))]
    refine' Pl.region_vh 73 [] [0, 1, 2] [(4, 6)] 3 21 [5] _ (fun ch w' => ch = short ∧ Below w.heap.size w w') (by kernel_rfl) (by kernel_rfl) (by kernel_rfl) (by simp) (fun _ _ _ _ e h => ⟨e ▸ h.1, h.2⟩) ?_ ?_ ?_ ?_
    rotate_left
    ·intro I F hI hF
     simp only [Pl.selN, List.nil_append, List.drop_succ_cons, List.drop_zero]
     have z0 := fun i => hF.cell lT c0 i
     repeat (go_big_quiet_step ((go_at_call 50; with_reducible exact hF.call (HU.out _ (HB3.out.trans ((hF.bel _).mono HB3.out.size))))))
     refine wpQuiet_nil ?_
     rfl
    ·simp only [Pl.selN, List.drop_succ_cons, List.drop_zero, List.mem_singleton, forall_eq]
     intro u hu
     go_simp
     simp only [Pl.valsAt]
     refine (rest_no a len cap (o16 : Nat) u hl hc (by omega)).mono ?_
     rintro e w'' ⟨he, hb⟩
     exact .inr ⟨short, he, rfl, HB3.out.trans ((hu.trans (hb.mono hu.size)).mono HB3.out.size)⟩
    ·intro x hx
     simp only [List.mem_singleton] at hx
     subst hx
     simp only [Pl.selN, List.drop_succ_cons, List.drop_zero, List.mem_singleton, forall_eq]
     intro u hu
     go_simp
     simp only [Pl.valsAt]
     exact (Below.refl _ _).alloc (Nat.le_refl _) _
    ·rintro c a' u hd ⟨rfl, hb⟩
     exact ⟨hd, hb, by rw [HNO.out]⟩
  ·have HNO : Hid (ctxParse bs gl = none) := by unfold Hid; rw [HPARSE.out, if_neg (fun h => f20 h.1)]
   refine' Pl.region_vh 73 [] [0, 1] [(4, 6)] 2 20 [3, 5] _ (fun ch w' => ch = short ∧ Below w.heap.size w w') (by kernel_rfl) (by kernel_rfl) (by kernel_rfl) (by simp) (fun _ _ _ _ e h => ⟨e ▸ h.1, h.2⟩) ?_ ?_ ?_ ?_
   rotate_left
   ·intro I F hI hF
    simp only [Pl.selN, List.nil_append, List.drop_succ_cons, List.drop_zero]
    have z0 := fun i => hF.cell lT c0 i
    repeat (go_big_quiet_step (fail))
    refine wpQuiet_nil ?_
    rfl
   ·simp only [Pl.selN, List.drop_succ_cons, List.drop_zero, List.mem_singleton, forall_eq]
    intro u hu
    go_simp
    simp only [Pl.valsAt]
    refine (u32_no a len cap 16 u hl hc (by omega)).mono ?_
    rintro e w'' ⟨he, hb⟩
    exact .inr ⟨short, he, rfl, HB3.out.trans ((hu.trans (hb.mono hu.size)).mono HB3.out.size)⟩
   ·intro x hx
    simp only [List.mem_singleton] at hx
    subst hx
    simp only [Pl.selN, List.drop_succ_cons, List.drop_zero, List.mem_singleton, forall_eq]
    intro u hu
    go_simp
    simp only [Pl.valsAt]
    exact (Below.refl _ _).alloc (Nat.le_refl _) _
   ·rintro c a' u hd ⟨rfl, hb⟩
    exact ⟨hd, hb, by rw [HNO.out]⟩
end Cx
end Go.Proofs.YtoncnjhhdlpliaaGreat
namespace Go.Proofs.YtoncnjhhdlpliaaGreat
open Go.RowKit
namespace In
open Vw Ch Lk St Ln Dr
structure InsD where
 m : MachD
 list : List Int
def hereOf (e : EntD) : Int := if e.a = 65535 then 0 else e.flags / 32 % 32
def markOf (e : EntD) : Int := if e.b = 65535 then 0 else e.flags % 32
def entOk (n : Nat) (e : EntD) : Prop := (hereOf e = 0 ∨ 2 * e.a + 2 * hereOf e ≤ n) ∧ (markOf e = 0 ∨ 2 * e.b + 2 * markOf e ≤ n)
instance (n : Nat) (e : EntD) : Decidable (entOk n e) := by unfold entOk; infer_instance
def insParse (bs : List Int) (gl : Nat) : Option InsD := (parseSt bs gl 2).bind fun M =>
 if 20 ≤ bs.length ∧ be bs 16 4 ≤ bs.length then
  if ∀ e ∈ M.ents, entOk (bs.drop (be bs 16 4).toNat).length e then some ⟨M, bs.drop (be bs 16 4).toNat⟩ else none
 else none
theorem here_bd {e : EntD} (_h0 : 0 ≤ e.flags) : (0 ≤ hereOf e ∧ hereOf e ≤ 31) ∧ 0 ≤ markOf e ∧ markOf e ≤ 31 := by
 unfold hereOf markOf
 constructor <;> split <;> omega
structure InsOk (T : InsD) : Prop where
 m : MachOk T.m
 ents : ∀ e ∈ T.m.ents, entOk T.list.length e
 byte : ∀ x ∈ T.list, 0 ≤ x ∧ x ≤ 255
theorem ins_ok {bs : List Int} (hb : ∀ x ∈ bs, 0 ≤ x ∧ x ≤ 255) {gl : Nat} (h1 : 1 ≤ gl) (h2 : gl ≤ 65536) {T : InsD} (h : insParse bs gl = some T) : InsOk T := by
 unfold insParse at h
 cases hM : parseSt bs gl 2 with
 | none => rw [hM] at h; cases h
 | some M =>
  rw [hM] at h
  simp only [Option.bind_some] at h
  split at h
  ·split at h
   ·rename_i he
    cases h
    exact ⟨parseSt_ok hb h1 h2 hM, he, fun x hx => hb x (List.mem_of_mem_drop hx)⟩
   ·cases h
  ·cases h
def InsAt (w : World) (v : Value) (T : InsD) : Prop :=
 ∃ g gm S len cap, v = .pointer (some ⟨g, 0, none⟩) ∧ w.heap[g]? = some (.cells #[.pointer (some ⟨gm, 0, none⟩), .slice S len cap] 187 (0, 0)) ∧ MachAt w (.pointer (some ⟨gm, 0, none⟩)) T.m ∧ VB w S T.list ∧ T.list.length = len ∧ len ≤ cap ∧ cap ≤ maxLen
theorem InsAt.below {w w' : World} {v : Value} {T : InsD} (h : InsAt w v T) (hb : Below w.heap.size w w') : InsAt w' v T := by
 obtain ⟨g, gm, S, len, cap, h1, h2, h3, h4, h5, h6, h7⟩ := h
 exact ⟨g, gm, S, len, cap, h1, (hb.block _ (heap_lt h2)).trans h2, h3.below hb, h4.below hb, h5, h6, h7⟩
def InsTakeP (w : World) (a : Option Addr) (bs : List Int) (gl : Nat) (e : Ending) (w' : World) : Prop :=
 Below w.heap.size w w' ∧ match insParse bs gl with
  | none => e = .panicked short
  | some T => ∃ v, e = .returned v ∧ Lives w.heap.size (fun u => VB u a bs → InsAt u v T) w'
theorem all_take_step {es : List EntD} {n i : Nat} {e : EntD} (he : es[i]? = some e) (h : ∀ x ∈ es.take i, entOk n x) (h1 : entOk n e) : ∀ x ∈ es.take (i + 1), entOk n x := by
 intro x hx
 rw [List.take_add_one, he] at hx
 rcases List.mem_append.1 hx with hx | hx
 ·exact h x hx
 ·simp at hx; subst hx; exact h1
theorem i64_shr5 (x : Int) (h0 : 0 ≤ x) (h1 : x ≤ 65535) : bits .and .i64 (x / 32) 31 = x / 32 % 32 := i64_low (x / 32) 5 (by omega) (by omega) (by omega)
set_option maxHeartbeats 4000000 in
theorem counts_any (e0 fl e2 e3 : Int) (w : World) (h0 : 0 ≤ fl) (h1 : fl ≤ 65535) :
  Calls Tryz.prog 92 #[.agg #[.int .i64 e0, .int .i64 fl, .int .i64 e2, .int .i64 e3]] w fun e w' => e = .returned (.tuple #[.int .i64 (hereOf ⟨e0, fl, e2, e3⟩), .int .i64 (markOf ⟨e0, fl, e2, e3⟩)]) ∧ Below w.heap.size w w' := by
 have HB := Bas.hid ((Below.refl w.heap.size w).alloc (Nat.le_refl _) (.cells #[.int .i64 e0, .int .i64 fl, .int .i64 e2, .int .i64 e3] 162))
 have k := Bas.heap_new w (.cells #[.int .i64 e0, .int .i64 fl, .int .i64 e2, .int .i64 e3] 162)
 have c1 := cell_of_heap (i := 1) k rfl
 have c2 := cell_of_heap (i := 2) k rfl
 have c3 := cell_of_heap (i := 3) k rfl
 have lk := heap_lt k
 have q1 := i64_shr5 fl h0 h1
 have q2 : bits .and .i64 fl 31 = fl % 32 := i64_low fl 5 (by omega) h0 h1
 clear k
 obtain ⟨H, hH⟩ : ∃ H, hereOf ⟨e0, fl, e2, e3⟩ = H := ⟨_, rfl⟩
 obtain ⟨K, hK⟩ : ∃ K, markOf ⟨e0, fl, e2, e3⟩ = K := ⟨_, rfl⟩
 rw [hH, hK]
 unfold hereOf at hH
 unfold markOf at hK
 simp only at hH hK
 by_cases z1 : e2 = 65535
 ·have g1 : (e2 == 65535) = true := by simpa using z1
  rw [if_pos z1] at hH
  clear z1
  by_cases z2 : e3 = 65535
  ·have g2 : (e3 == 65535) = true := by simpa using z2
   rw [if_pos z2] at hK
   clear z2
   subst hH hK
   go_enter Tryz.func92, Tryz.ntmps92
   go_wp2_with (fail)
   go_ret2
   exact ⟨rfl, HB.out⟩
  ·have g2 : (e3 == 65535) = false := by simpa using z2
   rw [if_neg z2] at hK
   clear z2
   subst hH hK
   go_enter Tryz.func92, Tryz.ntmps92
   go_wp2_with (fail)
   go_ret2
   exact ⟨rfl, HB.out⟩
 ·have g1 : (e2 == 65535) = false := by simpa using z1
  rw [if_neg z1] at hH
  clear z1
  by_cases z2 : e3 = 65535
  ·have g2 : (e3 == 65535) = true := by simpa using z2
   rw [if_pos z2] at hK
   clear z2
   subst hH hK
   go_enter Tryz.func92, Tryz.ntmps92
   go_wp2_with (fail)
   go_ret2
   exact ⟨rfl, HB.out⟩
  ·have g2 : (e3 == 65535) = false := by simpa using z2
   rw [if_neg z2] at hK
   clear z2
   subst hH hK
   go_enter Tryz.func92, Tryz.ntmps92
   go_wp2_with (fail)
   go_ret2
   exact ⟨rfl, HB.out⟩
end In
end Go.Proofs.YtoncnjhhdlpliaaGreat
namespace Go.Proofs.YtoncnjhhdlpliaaGreat
open Go.RowKit
namespace In
open Vw Ch Lk St Ln Dr Cx
set_option maxRecDepth 100000 in
set_option maxHeartbeats 16000000 in
theorem insTake_any (a : Option Addr) (len cap : Nat) (bs : List Int) (gl : Nat) (w : World) (hl : len ≤ cap) (hc : cap ≤ maxLen) (hv : VB w a bs) (hbl : bs.length = len) (hg1 : 1 ≤ gl) (hg2 : gl ≤ 65536) :
  Calls Tryz.prog 63 #[.agg #[.slice a len cap], .int .i64 gl] w (InsTakeP w a bs gl) := by
 have k1 := Bas.heap_new w (.cells #[.slice a len cap] 52)
 have hb1 := (Below.refl w.heap.size w).alloc (Nat.le_refl _) (.cells #[.slice a len cap] 52)
 have HB1 := Bas.hid hb1
 have HV := Bas.hid (fun (w' : World) (hb : Below w.heap.size w w') => hv.below hb)
 have hbyte := hv.byte
 have b16 := be_rng4 hv.byte 16 4 (by omega)
 obtain ⟨o16, ho16⟩ := Int.eq_ofNat_of_zero_le b16.1
 have HO16 := Bas.hid ho16
 have HBY := Bas.hid hbyte
 have HK1 := Bas.hid k1
 have c0 := cell_of_heap (i := 0) k1 rfl
 clear hb1 hv b16 ho16 hbyte k1
 go_enter Tryz.func63, Tryz.ntmps63
 go_wp2_with (fail)
 generalize w.alloc (.cells #[.slice a len cap] 52) = W1 at *
 obtain ⟨T2, hT2⟩ : ∃ T2, w.heap.size = T2 := ⟨_, rfl⟩
 rw [hT2] at c0 HK1 ⊢
 have HT2 := Bas.hid hT2
 clear hT2
 obtain ⟨RI, RF, Ri, RF0, RFk, RFw⟩ := Pl.fam_of W1 (fun u => u.cell? ⟨T2, 0, none⟩ = some (.slice a len cap)) c0
 have RFH := Bas.hid RF0
 have RhI : Nonempty RI := ⟨Ri⟩
 have RFW := Bas.hid RFw
 have z0 := fun i => RFk i
 clear RF0 RFw RFk c0
 refine Pl.region_plan0 Ri [(true, 0), (true, 1), (true, 3), (true, 4), (false, 2), (false, 5), (false, 6), (true, 7), (false, 8), (true, 9)] [8] (by kernel_rfl) (by kernel_rfl) (fun _ _ _ _ e h => ⟨e ▸ h.1, h.2⟩) RFH.out ?_
 refine Pl.head_sel0 [(true, 0), (true, 1), (true, 3), (true, 4)] (by kernel_rfl) (by kernel_rfl) ?_
 simp only [Pl.sel, List.drop_succ_cons, List.drop_zero]
 repeat (go_big_quiet_step (fail))
 refine wpQuiet_nil ?_
 rw [← RFH.out]
 clear z0
 refine Pl.one_sel (by kernel_rfl) ?_
 intro Q' hQ' hP'
 simp only [Pl.sel, List.drop_succ_cons, List.drop_zero]
 go_wp2_with (fail)
 have hbd : Below W1.heap.size W1 W1.drew := Bas.below_drewN (Below.refl W1.heap.size W1) 1
 have hbd2 : Below w.heap.size w W1.drew := HB1.out.trans (hbd.mono HB1.out.size)
 refine (stTake_any a len cap bs gl 2 W1.drew hl hc (HV.out _ hbd2) hbl (by omega) hg1 hg2).mono ?_
 rintro e w2 ⟨hb2, h2⟩
 have HB2' := Bas.hid (hbd.trans hb2)
 have HB2 := Bas.hid (hbd2.trans (hb2.mono hbd2.size))
 have kT := (HB2'.out.block _ (heap_lt HK1.out)).trans HK1.out
 have HKT := Bas.hid kT
 clear hb2 hbd
 cases hp : parseSt bs gl 2 with
 | none =>
  rw [hp] at h2
  simp only at h2
  subst h2
  have HNO : Hid (insParse bs gl = none) := by unfold Hid insParse; rw [hp]; rfl
  clear hp kT
  go_wp2_with (fail)
  exact ⟨rfl, HB2.out, by rw [HNO.out]⟩
 | some M =>
  rw [hp] at h2
  simp only at h2
  obtain ⟨v, rfl, hm⟩ := h2
  have hv2 : ∃ gm, v = .pointer (some ⟨gm, 0, none⟩) := by
   obtain ⟨gm, _, _, _, _, h, _⟩ := hm.now
   exact ⟨gm, h⟩
  obtain ⟨gm, rfl⟩ := hv2
  have HM := Bas.hid (hm.mono hbd2.size)
  have HP := Bas.hid hp
  have HOK := Bas.hid (parseSt_ok HBY.out hg1 hg2 hp)
  have HPARSE : Hid (insParse bs gl = if 20 ≤ len ∧ (o16 : Int) ≤ len then if ∀ e ∈ M.ents, entOk (bs.drop o16).length e then some ⟨M, bs.drop o16⟩ else none else none) := by
   unfold Hid insParse; rw [hp, Option.bind_some, HO16.out, hbl, Int.toNat_natCast]
  clear hm hp hbd2
  go_wp2_with (fail)
  refine hQ' _ _ (fun _ _ => RFW.out _ (cell_of_heap (i := 0) kT rfl)) ?_
  clear kT hQ' hP' Q'
  refine Pl.one_sel (by kernel_rfl) ?_
  intro Q' hQ' hP'
  simp only [Pl.sel, List.drop_succ_cons, List.drop_zero]
  go_wp2_with (fail)
  by_cases f20 : 20 ≤ len
  case neg =>
   have HNO : Hid (insParse bs gl = none) := by unfold Hid; rw [HPARSE.out, if_neg (fun h => f20 h.1)]
   refine (u32_no a len cap 16 w2 hl hc (by omega)).mono ?_
   rintro e w3 ⟨rfl, hb3⟩
   have HB3 := Bas.hid (HB2.out.trans (hb3.mono HB2.out.size))
   clear hb3
   go_wp2_with (fail)
   exact ⟨rfl, HB3.out, by rw [HNO.out]⟩
  have hu32 : Calls Tryz.prog 50 #[.agg #[.slice a len cap], .int .i64 16] w2 fun e w'' => e = .returned (.int .i64 (o16 : Nat)) ∧ Below w2.heap.size w2 w'' := by
   have h := u32_ok a len cap bs 16 w2 hl hc (HV.out _ HB2.out) hbl (by omega) (by omega)
   rw [show ((16 : Int)).toNat = 16 by rfl, HO16.out] at h
   exact h
  refine hu32.mono ?_
  rintro e w3 ⟨rfl, hb3⟩
  have HB3 := Bas.hid (HB2.out.trans (hb3.mono HB2.out.size))
  have HBm3 := Bas.hid hb3
  have kT3 := (hb3.block _ (heap_lt HKT.out)).trans HKT.out
  have HKT3 := Bas.hid kT3
  clear hu32 hb3 HKT
  go_wp2_with (fail)
  refine hQ' _ _ (fun _ _ => RFW.out _ (cell_of_heap (i := 0) kT3 rfl)) ?_
  clear kT3 hQ' hP' Q'
  refine Pl.one_sel (by kernel_rfl) ?_
  intro Q' hQ' hP'
  simp only [Pl.sel, List.drop_succ_cons, List.drop_zero]
  go_wp2_with (fail)
  by_cases g16 : o16 ≤ len
  case neg =>
   have HNO : Hid (insParse bs gl = none) := by unfold Hid; rw [HPARSE.out, if_neg (fun h => g16 (by omega))]
   refine (rest_no a len cap (o16 : Nat) w3 hl hc (by omega)).mono ?_
   rintro e w4 ⟨rfl, hb4⟩
   have HB4 := Bas.hid (HB3.out.trans (hb4.mono HB3.out.size))
   clear hb4
   go_wp2_with (fail)
   exact ⟨rfl, HB4.out, by rw [HNO.out]⟩
  have hrest : Calls Tryz.prog 75 #[.agg #[.slice a len cap], .int .i64 (o16 : Nat)] w3 fun e w'' => e = .returned (.agg #[.slice (sub a o16 (len - o16)) (len - o16) (len - o16)]) ∧ Below w3.heap.size w3 w'' := by
   have h := rest_ok a len cap (o16 : Nat) w3 hl hc (by omega) (by omega)
   rw [Int.toNat_natCast] at h
   exact h
  have HS := Bas.hid (fun (u : World) (hu : VB u a bs) => (by
   have h := vb_drop hu o16 (by omega)
   rw [hbl] at h
   exact h : VB u (sub a o16 (len - o16)) (bs.drop o16)))
  have HPY : Hid (insParse bs gl = if ∀ e ∈ M.ents, entOk (bs.drop o16).length e then some ⟨M, bs.drop o16⟩ else none) := by unfold Hid; rw [HPARSE.out, if_pos ⟨f20, by omega⟩]
  generalize sub a o16 (len - o16) = S at *
  obtain ⟨sl, hsl⟩ : ∃ sl, len - o16 = sl := ⟨_, rfl⟩
  rw [hsl] at hrest
  have HSL : Hid ((bs.drop o16).length = sl) := by unfold Hid; rw [List.length_drop, hbl]; exact hsl
  have hslm : sl ≤ maxLen := by omega
  clear hsl
  refine hrest.mono ?_
  rintro e w4 ⟨rfl, hb4⟩
  have HB4 := Bas.hid (HB3.out.trans (hb4.mono HB3.out.size))
  have HM4 := Bas.hid (HM.out.below (HBm3.out.trans (hb4.mono HBm3.out.size)))
  have kT4 := (hb4.block _ (heap_lt HKT3.out)).trans HKT3.out
  clear hrest hb4 HKT3 HBm3 HM HB3
  go_wp2_with (fail)
  refine hQ' _ _ (fun _ _ => RFW.out _ (cell_of_heap (i := 0) kT4 rfl)) ?_
  clear kT4 hQ' hP' Q' RFW RFH
  refine Pl.head_sel0 [(true, 7)] (by kernel_rfl) (by kernel_rfl) ?_
  simp only [Pl.sel, List.drop_succ_cons, List.drop_zero]
  repeat (go_big_quiet_step (fail))
  refine wpQuiet_nil ?_
  refine Pl.one_sel (by kernel_rfl) ?_
  intro Q' hQ' hP'
  simp only [Pl.sel, List.drop_succ_cons, List.drop_zero]
  go_wp2_with (fail)
  refine hQ' _ _ (fun hn => absurd (List.mem_singleton.2 rfl) hn) ?_
  clear hQ' hP' Q'
  refine Pl.head_sel0 (rest := []) [(true, 9)] (by kernel_rfl) (by kernel_rfl) ?_
  simp only [Pl.sel, List.drop_succ_cons, List.drop_zero]
  repeat (go_big_quiet_step (fail))
  refine wpQuiet_nil ?_
  simp only [Pl.walkM]
  have k5 := Bas.heap_new w4 (.cells #[.pointer (some ⟨gm, 0, none⟩), .slice S sl sl] 187)
  have hb5 := (Below.refl w4.heap.size w4).alloc (Nat.le_refl _) (.cells #[.pointer (some ⟨gm, 0, none⟩), .slice S sl sl] 187)
  have HB5 := Bas.hid (HB4.out.trans (hb5.mono HB4.out.size))
  have HM5 := Bas.hid (HM4.out.below hb5)
  have hGw : w.heap.size ≤ w4.heap.size := HB4.out.size
  have HGW := Bas.hid hGw
  clear hb5 HM4 HB4 RhI Ri hGw
  generalize w4.alloc (.cells #[.pointer (some ⟨gm, 0, none⟩), .slice S sl sl] 187) = W5 at *
  obtain ⟨GT, hGT⟩ : ∃ GT, w4.heap.size = GT := ⟨_, rfl⟩
  rw [hGT] at k5 HGW ⊢
  clear hGT
  have HK5 := Bas.hid k5
  have HENT := Bas.hid (entries_any (.pointer (some ⟨gm, 0, none⟩)) M W5 HM5.out.now HOK.out)
  obtain ⟨n, hn⟩ : ∃ n, M.ents.length = n := ⟨_, rfl⟩
  have HN := Bas.hid hn
  have hn6 := HOK.out.nents
  rw [hn] at HENT hn6
  have ct := cell_of_heap (i := 0) k5 rfl
  have lG := heap_lt k5
  clear k5 hn
  go_wp2_with (fail)
  refine HENT.out.mono ?_
  rintro e w6 ⟨hb6, v6, rfl, ho6⟩
  obtain ⟨a6, c6, rfl⟩ := own_slice ho6
  have HB6 := Bas.hid hb6
  have HO6 := Bas.hid ho6
  clear hb6 ho6 HENT ct lG
  go_wp2_with (fail)
  go_loopw [25] (fun vi wr => ∃ i : Nat, i ≤ n ∧ vi = .int .i64 i ∧ Below w6.heap.size w6 wr ∧ ∀ x ∈ M.ents.take i, entOk sl x) (fun vi _ => n - (intOf vi).toNat)
  case atStart => exact ⟨0, Nat.zero_le _, rfl, Below.refl _ _, fun x hx => by simp at hx⟩
  case round =>
   obtain ⟨i, hi, rfl, hb, hall⟩ := hrel
   have HB := Bas.hid hb
   have HALL := Bas.hid hall
   have hB5w : Below W5.heap.size W5 wr := HB6.out.trans (hb.mono HB6.out.size)
   have hBw : Below w.heap.size w wr := HB5.out.trans (hB5w.mono HB5.out.size)
   have kG := (hB5w.block _ (heap_lt HK5.out)).trans HK5.out
   have HB5W := Bas.hid hB5w
   have HBW := Bas.hid hBw
   have HKG := Bas.hid kG
   by_cases hin : i < n
   ·have e1 : decide ((i : Int) < (n : Int)) = true := by simp; omega
    obtain ⟨⟨e0, fl, e2, e3⟩, he⟩ : ∃ e, M.ents[i]? = some e := ⟨_, List.getElem?_eq_getElem (by rw [HN.out]; exact hin)⟩
    have hmem := List.mem_of_getElem? he
    obtain ⟨_, ⟨hf0, hf1⟩, ⟨ha0, ha1⟩, hb0, hb1⟩ := HOK.out.ents _ hmem
    simp only at hf0 hf1 ha0 ha1 hb0 hb1
    obtain ⟨⟨hh0, hh1⟩, hm0, hm1⟩ := here_bd (e := ⟨e0, fl, e2, e3⟩) hf0
    have HSTEP := Bas.hid (fun (h : entOk sl ⟨e0, fl, e2, e3⟩) => all_take_step he HALL.out h)
    have HNO : Hid (¬ entOk sl ⟨e0, fl, e2, e3⟩ → insParse bs gl = none) := fun h => by
     rw [HPY.out, if_neg]
     intro hx
     have := hx _ hmem
     rw [HSL.out] at this
     exact h this
    obtain ⟨be', ce, hve, lbe, d0, d1, d2, d3⟩ := enC_at (Row.owned_below HO6.out hb) he
    cases hve
    have HCT := Bas.hid (fun w => counts_any e0 fl e2 e3 w hf0 hf1)
    obtain ⟨H, hH⟩ : ∃ H, hereOf ⟨e0, fl, e2, e3⟩ = H := ⟨_, rfl⟩
    obtain ⟨K, hK⟩ : ∃ K, markOf ⟨e0, fl, e2, e3⟩ = K := ⟨_, rfl⟩
    have HEO : Hid (entOk sl ⟨e0, fl, e2, e3⟩ ↔ ((H = 0 ∨ 2 * e2 + 2 * H ≤ sl) ∧ (K = 0 ∨ 2 * e3 + 2 * K ≤ sl))) := by unfold Hid entOk; rw [hH, hK]
    rw [hH] at hh0 hh1 HCT
    rw [hK] at hm0 hm1 HCT
    have kE := Bas.heap_new wr (.cells #[.int .i64 e0, .int .i64 fl, .int .i64 e2, .int .i64 e3] 162)
    have hb9 := (Below.refl wr.heap.size wr).alloc (Nat.le_refl _) (.cells #[.int .i64 e0, .int .i64 fl, .int .i64 e2, .int .i64 e3] 162)
    have HB9 := Bas.hid hb9
    have q0 := cell_of_heap (i := 0) kE rfl
    have q1 := cell_of_heap (i := 1) kE rfl
    have q2 := cell_of_heap (i := 2) kE rfl
    have q3 := cell_of_heap (i := 3) kE rfl
    have lE := heap_lt kE
    have HKE := Bas.hid kE
    simp only at d0 d1 d2 d3
    clear hb hall he hmem hB5w hBw kG hb9 kE hH hK
    go_wp2_with (fail)
    generalize (wr.alloc (.cells #[.int .i64 e0, .int .i64 fl, .int .i64 e2, .int .i64 e3] 162)) = W9 at *
    refine (HCT.out W9).mono ?_
    rintro e w10 ⟨rfl, hb10⟩
    have hbr : Below wr.heap.size wr w10 := HB9.out.trans (hb10.mono HB9.out.size)
    have HBR := Bas.hid hbr
    have kE10 := (hb10.block _ (heap_lt HKE.out)).trans HKE.out
    have kG10 := (hbr.block _ (heap_lt HKG.out)).trans HKG.out
    have HKG10 := Bas.hid kG10
    have HKE10 := Bas.hid kE10
    clear hb10 hbr q0 q1 q2 q3 lE d0 d1 d2 d3 lbe HCT
    by_cases zH : H = 0
    ·have eH : decide (0 < H) = false := by simp; omega
     have ct := cell_of_heap (i := 1) HKG10.out rfl
     have cE2 := cell_of_heap (i := 2) HKE10.out rfl
     have cE3 := cell_of_heap (i := 3) HKE10.out rfl
     have lG := heap_lt HKG10.out
     have lE := heap_lt HKE10.out
     by_cases zK : K = 0
     ·have eK : decide (0 < K) = false := by simp; omega
      have hstep := Bas.hid (HSTEP.out (HEO.out.2 ⟨.inl zH, .inl zK⟩))
      clear zK
      go_wp2_with (fail)
      go_roundw
      case rel => exact ⟨i + 1, by omega, by go_num, HB.out.trans (HBR.out.mono HB.out.size), hstep.out⟩
      case measure => simp [intOf]; omega
     ·have eK : decide (0 < K) = true := by simp; omega
      by_cases fK : 2 * e3 + 2 * K ≤ sl
      ·have hstep := Bas.hid (HSTEP.out (HEO.out.2 ⟨.inl zH, .inr fK⟩))
       have hrow : rowsB sl (2 * e3) K 2 := ⟨by omega, by omega, .inr (by omega), by omega, by omega⟩
       have HR := Bas.hid (fun (w' : World) => rows_ok S sl sl (2 * e3) K 2 w' (Nat.le_refl _) hslm hrow)
       clear hrow
       go_wp2_with (fail)
       refine' Pl.region_v0 58 [] [0, 1, 2, 3, 4, 5, 6, 7, 8] [] _ (by kernel_rfl) (by kernel_rfl) (by simp) (fun _ _ _ _ e h => ⟨e ▸ h.1, h.2⟩) ?_ ?_
       rotate_left
       ·intro I F hI hF
        simp only [Pl.selN, List.nil_append, List.drop_succ_cons, List.drop_zero]
        have y0 := fun i => hF.cell lG ct i
        have y1 := fun i => hF.cell lE cE3 i
        repeat (go_big_quiet_step ((go_at_call 74; with_reducible exact hF.call (HR.out _))))
        refine wpQuiet_nil ?_
        rfl
       intro u2 hu2
       simp only [Pl.selN]
       have HB2' := Bas.hid (HBR.out.trans (hu2.mono HBR.out.size))
       clear hu2 ct cE2 cE3 lG lE
       go_wp2_with (fail)
       go_roundw
       case rel => exact ⟨i + 1, by omega, by go_num, HB.out.trans (HB2'.out.mono HB.out.size), hstep.out⟩
       case measure => simp [intOf]; omega
      ·have hrow : ¬ rowsB sl (2 * e3) K 2 := fun h => by obtain ⟨_, _, _, _, h5⟩ := h; omega
       have HNN : Hid (insParse bs gl = none) := HNO.out (fun h => by have := (HEO.out.1 h).2; omega)
       go_wp2_with (fail)
       refine' Pl.region_vh 58 [] [0, 1, 2, 3, 4, 5, 6, 7] [] 8 55 [] _ (fun ch w' => ch = short ∧ Below w.heap.size w w') (by kernel_rfl) (by kernel_rfl) (by kernel_rfl) (by simp) (fun _ _ _ _ e h => ⟨e ▸ h.1, h.2⟩) ?_ ?_ ?_ ?_
       rotate_left
       ·intro I F hI hF
        simp only [Pl.selN, List.nil_append, List.drop_succ_cons, List.drop_zero]
        have y0 := fun i => hF.cell lG ct i
        have y1 := fun i => hF.cell lE cE3 i
        repeat (go_big_quiet_step (fail))
        refine wpQuiet_nil ?_
        rfl
       ·simp only [Pl.selN, List.drop_succ_cons, List.drop_zero, List.mem_singleton, forall_eq]
        intro u hu
        go_simp
        simp only [Pl.valsAt]
        refine (rows_no S sl sl (2 * e3) K 2 u (Nat.le_refl _) hslm hrow).mono ?_
        rintro e w'' ⟨he, hb⟩
        have hw := HBW.out.trans (HBR.out.mono HBW.out.size)
        exact .inr ⟨short, he, rfl, hw.trans ((hu.trans (hb.mono hu.size)).mono hw.size)⟩
       ·intro x hx; cases hx
       ·rintro c a' u hd ⟨rfl, hb⟩
        exact ⟨hd, hb, by rw [HNN.out]⟩
    ·have eH : decide (0 < H) = true := by simp; omega
     by_cases fH : 2 * e2 + 2 * H ≤ sl
     ·have ct := cell_of_heap (i := 1) HKG10.out rfl
      have cE2 := cell_of_heap (i := 2) HKE10.out rfl
      have cE3 := cell_of_heap (i := 3) HKE10.out rfl
      have lG := heap_lt HKG10.out
      have lE := heap_lt HKE10.out
      have hrow : rowsB sl (2 * e2) H 2 := ⟨by omega, by omega, .inr (by omega), by omega, by omega⟩
      have HR := Bas.hid (fun (w' : World) => rows_ok S sl sl (2 * e2) H 2 w' (Nat.le_refl _) hslm hrow)
      clear hrow
      go_wp2_with (fail)
      refine' Pl.region_v0 58 [] [0, 1, 2, 3, 4, 5, 6, 7, 8] [] _ (by kernel_rfl) (by kernel_rfl) (by simp) (fun _ _ _ _ e h => ⟨e ▸ h.1, h.2⟩) ?_ ?_
      rotate_left
      ·intro I F hI hF
       simp only [Pl.selN, List.nil_append, List.drop_succ_cons, List.drop_zero]
       have y0 := fun i => hF.cell lG ct i
       have y1 := fun i => hF.cell lE cE2 i
       repeat (go_big_quiet_step ((go_at_call 74; with_reducible exact hF.call (HR.out _))))
       refine wpQuiet_nil ?_
       rfl
      intro u1 hu1
      simp only [Pl.selN]
      have HBR1 := Bas.hid (HBR.out.trans (hu1.mono HBR.out.size))
      have HKG11 := Bas.hid ((hu1.block _ (heap_lt HKG10.out)).trans HKG10.out)
      have HKE11 := Bas.hid ((hu1.block _ (heap_lt HKE10.out)).trans HKE10.out)
      clear hu1 ct cE2 cE3 lG lE
      have ct := cell_of_heap (i := 1) HKG11.out rfl
      have cE2 := cell_of_heap (i := 2) HKE11.out rfl
      have cE3 := cell_of_heap (i := 3) HKE11.out rfl
      have lG := heap_lt HKG11.out
      have lE := heap_lt HKE11.out
      by_cases zK : K = 0
      ·have eK : decide (0 < K) = false := by simp; omega
       have hstep := Bas.hid (HSTEP.out (HEO.out.2 ⟨.inr fH, .inl zK⟩))
       clear zK
       go_wp2_with (fail)
       go_roundw
       case rel => exact ⟨i + 1, by omega, by go_num, HB.out.trans (HBR1.out.mono HB.out.size), hstep.out⟩
       case measure => simp [intOf]; omega
      ·have eK : decide (0 < K) = true := by simp; omega
       by_cases fK : 2 * e3 + 2 * K ≤ sl
       ·have hstep := Bas.hid (HSTEP.out (HEO.out.2 ⟨.inr fH, .inr fK⟩))
        have hrow : rowsB sl (2 * e3) K 2 := ⟨by omega, by omega, .inr (by omega), by omega, by omega⟩
        have HR := Bas.hid (fun (w' : World) => rows_ok S sl sl (2 * e3) K 2 w' (Nat.le_refl _) hslm hrow)
        clear hrow
        go_wp2_with (fail)
        refine' Pl.region_v0 58 [] [0, 1, 2, 3, 4, 5, 6, 7, 8] [] _ (by kernel_rfl) (by kernel_rfl) (by simp) (fun _ _ _ _ e h => ⟨e ▸ h.1, h.2⟩) ?_ ?_
        rotate_left
        ·intro I F hI hF
         simp only [Pl.selN, List.nil_append, List.drop_succ_cons, List.drop_zero]
         have y0 := fun i => hF.cell lG ct i
         have y1 := fun i => hF.cell lE cE3 i
         repeat (go_big_quiet_step ((go_at_call 74; with_reducible exact hF.call (HR.out _))))
         refine wpQuiet_nil ?_
         rfl
        intro u2 hu2
        simp only [Pl.selN]
        have HB2' := Bas.hid (HBR1.out.trans (hu2.mono HBR1.out.size))
        clear hu2 ct cE2 cE3 lG lE
        go_wp2_with (fail)
        go_roundw
        case rel => exact ⟨i + 1, by omega, by go_num, HB.out.trans (HB2'.out.mono HB.out.size), hstep.out⟩
        case measure => simp [intOf]; omega
       ·have hrow : ¬ rowsB sl (2 * e3) K 2 := fun h => by obtain ⟨_, _, _, _, h5⟩ := h; omega
        have HNN : Hid (insParse bs gl = none) := HNO.out (fun h => by have := (HEO.out.1 h).2; omega)
        go_wp2_with (fail)
        refine' Pl.region_vh 58 [] [0, 1, 2, 3, 4, 5, 6, 7] [] 8 55 [] _ (fun ch w' => ch = short ∧ Below w.heap.size w w') (by kernel_rfl) (by kernel_rfl) (by kernel_rfl) (by simp) (fun _ _ _ _ e h => ⟨e ▸ h.1, h.2⟩) ?_ ?_ ?_ ?_
        rotate_left
        ·intro I F hI hF
         simp only [Pl.selN, List.nil_append, List.drop_succ_cons, List.drop_zero]
         have y0 := fun i => hF.cell lG ct i
         have y1 := fun i => hF.cell lE cE3 i
         repeat (go_big_quiet_step (fail))
         refine wpQuiet_nil ?_
         rfl
        ·simp only [Pl.selN, List.drop_succ_cons, List.drop_zero, List.mem_singleton, forall_eq]
         intro u hu
         go_simp
         simp only [Pl.valsAt]
         refine (rows_no S sl sl (2 * e3) K 2 u (Nat.le_refl _) hslm hrow).mono ?_
         rintro e w'' ⟨he, hb⟩
         have hw := HBW.out.trans (HBR1.out.mono HBW.out.size)
         exact .inr ⟨short, he, rfl, hw.trans ((hu.trans (hb.mono hu.size)).mono hw.size)⟩
        ·intro x hx; cases hx
        ·rintro c a' u hd ⟨rfl, hb⟩
         exact ⟨hd, hb, by rw [HNN.out]⟩
     ·have ct := cell_of_heap (i := 1) HKG10.out rfl
      have cE2 := cell_of_heap (i := 2) HKE10.out rfl
      have cE3 := cell_of_heap (i := 3) HKE10.out rfl
      have lG := heap_lt HKG10.out
      have lE := heap_lt HKE10.out
      have hrow : ¬ rowsB sl (2 * e2) H 2 := fun h => by obtain ⟨_, _, _, _, h5⟩ := h; omega
      have HNN : Hid (insParse bs gl = none) := HNO.out (fun h => by have := (HEO.out.1 h).1; omega)
      go_wp2_with (fail)
      refine' Pl.region_vh 58 [] [0, 1, 2, 3, 4, 5, 6, 7] [] 8 44 [] _ (fun ch w' => ch = short ∧ Below w.heap.size w w') (by kernel_rfl) (by kernel_rfl) (by kernel_rfl) (by simp) (fun _ _ _ _ e h => ⟨e ▸ h.1, h.2⟩) ?_ ?_ ?_ ?_
      rotate_left
      ·intro I F hI hF
       simp only [Pl.selN, List.nil_append, List.drop_succ_cons, List.drop_zero]
       have y0 := fun i => hF.cell lG ct i
       have y1 := fun i => hF.cell lE cE2 i
       repeat (go_big_quiet_step (fail))
       refine wpQuiet_nil ?_
       rfl
      ·simp only [Pl.selN, List.drop_succ_cons, List.drop_zero, List.mem_singleton, forall_eq]
       intro u hu
       go_simp
       simp only [Pl.valsAt]
       refine (rows_no S sl sl (2 * e2) H 2 u (Nat.le_refl _) hslm hrow).mono ?_
       rintro e w'' ⟨he, hb⟩
       have hw := HBW.out.trans (HBR.out.mono HBW.out.size)
       exact .inr ⟨short, he, rfl, hw.trans ((hu.trans (hb.mono hu.size)).mono hw.size)⟩
      ·intro x hx; cases hx
      ·rintro c a' u hd ⟨rfl, hb⟩
       exact ⟨hd, hb, by rw [HNN.out]⟩
   ·have e1 : decide ((i : Int) < (n : Int)) = false := by simp; omega
    have e1b : decide (i < n) = false := by simp; omega
    have e1c : ¬ (i : Int) < (n : Int) := by omega
    have HPF : Hid (insParse bs gl = some ⟨M, bs.drop o16⟩) := by
     unfold Hid
     rw [HPY.out, if_pos]
     rw [HSL.out]
     rw [List.take_of_length_le (by rw [HN.out]; omega)] at hall
     exact hall
    have HFIN : Hid (Lives w.heap.size (fun u => VB u a bs → InsAt u (.pointer (some ⟨GT, 0, none⟩)) ⟨M, bs.drop o16⟩) wr) := fun u hu hvu =>
     ⟨GT, gm, S, sl, sl, rfl, lives_heap HKG.out HGW.out u hu, (HM5.out.below HB5W.out) u hu, HS.out u hvu, HSL.out, Nat.le_refl _, hslm⟩
    clear hb hall hB5w hBw kG
    go_wp2_with (fail)
    go_ret
    exact ⟨HBW.out, by rw [HPF.out]; exact ⟨_, rfl, HFIN.out⟩⟩
end In
end Go.Proofs.YtoncnjhhdlpliaaGreat
namespace Go.Proofs.YtoncnjhhdlpliaaGreat
open Go.RowKit
namespace Dr
theorem flag_32 (x : Int) (k : Nat) (m : Int) (hm : m = ((2 ^ k : Nat) : Int)) (hk : k < 32) (h0 : 0 ≤ x) (h1 : x ≤ 4294967295) : bits .and .i64 x m = if x / m % 2 = 1 then m else 0 := by
 subst hm
 obtain ⟨n, rfl⟩ := Int.eq_ofNat_of_zero_le h0
 have hp : 2 ^ k < 2 ^ 32 := Nat.pow_lt_pow_right (by omega) hk
 rw [i64_and_nat n (2 ^ k) (by omega) (by omega), nat_bit k n]
 have h2 : n / 2 ^ k % 2 = 0 ∨ n / 2 ^ k % 2 = 1 := by omega
 have e : ((n : Int) / ((2 ^ k : Nat) : Int)) % 2 = ((n / 2 ^ k % 2 : Nat) : Int) := by simp
 rw [e]
 rcases h2 with h | h <;> rw [h] <;> simp
end Dr
namespace Lg
open Vw Ch Lk St Ln Dr
structure LigD where
 m : MachD
 act : List Int
 comp : List Int
 lig : List Int
def lastA (act : List Int) (k : Nat) : Prop := be act (4 * k) 4 / 2147483648 % 2 = 1
instance (act : List Int) (k : Nat) : Decidable (lastA act k) := by unfold lastA; infer_instance
def endsL (act : List Int) : Nat → Nat → Bool
 | 0, _ => false
 | f + 1, k => if 4 * k + 4 ≤ act.length then if lastA act k then true else endsL act f (k + 1) else false
def ligEntOk (act : List Int) (e : EntD) : Prop := e.flags / 8192 % 2 = 1 → endsL act (act.length + 1) e.a.toNat = true
instance (act : List Int) (e : EntD) : Decidable (ligEntOk act e) := by unfold ligEntOk; infer_instance
def ligParse (bs : List Int) (gl : Nat) : Option LigD := (parseSt bs gl 1).bind fun M =>
 if 28 ≤ bs.length ∧ be bs 16 4 ≤ bs.length ∧ be bs 20 4 ≤ bs.length ∧ be bs 24 4 ≤ bs.length then
  if ∀ e ∈ M.ents, ligEntOk (bs.drop (be bs 16 4).toNat) e then some ⟨M, bs.drop (be bs 16 4).toNat, bs.drop (be bs 20 4).toNat, bs.drop (be bs 24 4).toNat⟩ else none
 else none
structure LigOk (T : LigD) : Prop where
 m : MachOk T.m
 ents : ∀ e ∈ T.m.ents, ligEntOk T.act e
 bact : ∀ x ∈ T.act, 0 ≤ x ∧ x ≤ 255
 bcomp : ∀ x ∈ T.comp, 0 ≤ x ∧ x ≤ 255
 blig : ∀ x ∈ T.lig, 0 ≤ x ∧ x ≤ 255
theorem lig_ok {bs : List Int} (hb : ∀ x ∈ bs, 0 ≤ x ∧ x ≤ 255) {gl : Nat} (h1 : 1 ≤ gl) (h2 : gl ≤ 65536) {T : LigD} (h : ligParse bs gl = some T) : LigOk T := by
 unfold ligParse at h
 cases hM : parseSt bs gl 1 with
 | none => rw [hM] at h; cases h
 | some M =>
  rw [hM] at h
  simp only [Option.bind_some] at h
  split at h
  ·split at h
   ·rename_i he
    cases h
    exact ⟨parseSt_ok hb h1 h2 hM, he, fun x hx => hb x (List.mem_of_mem_drop hx), fun x hx => hb x (List.mem_of_mem_drop hx), fun x hx => hb x (List.mem_of_mem_drop hx)⟩
   ·cases h
  ·cases h
def LigAt (w : World) (v : Value) (T : LigD) : Prop :=
 ∃ g gm S1 l1 S2 l2 S3 l3, v = .pointer (some ⟨g, 0, none⟩) ∧ w.heap[g]? = some (.cells #[.pointer (some ⟨gm, 0, none⟩), .slice S1 l1 l1, .slice S2 l2 l2, .slice S3 l3 l3] 176 (0, 0)) ∧ MachAt w (.pointer (some ⟨gm, 0, none⟩)) T.m ∧
  (VB w S1 T.act ∧ T.act.length = l1 ∧ l1 ≤ maxLen) ∧ (VB w S2 T.comp ∧ T.comp.length = l2 ∧ l2 ≤ maxLen) ∧ VB w S3 T.lig ∧ T.lig.length = l3 ∧ l3 ≤ maxLen
theorem LigAt.below {w w' : World} {v : Value} {T : LigD} (h : LigAt w v T) (hb : Below w.heap.size w w') : LigAt w' v T := by
 obtain ⟨g, gm, S1, l1, S2, l2, S3, l3, h1, h2, h3, ⟨a1, a2, a3⟩, ⟨b1, b2, b3⟩, c1, c2, c3⟩ := h
 exact ⟨g, gm, S1, l1, S2, l2, S3, l3, h1, (hb.block _ (heap_lt h2)).trans h2, h3.below hb, ⟨a1.below hb, a2, a3⟩, ⟨b1.below hb, b2, b3⟩, c1.below hb, c2, c3⟩
def LigTakeP (w : World) (a : Option Addr) (bs : List Int) (gl : Nat) (e : Ending) (w' : World) : Prop :=
 Below w.heap.size w w' ∧ match ligParse bs gl with
  | none => e = .panicked short
  | some T => ∃ v, e = .returned v ∧ Lives w.heap.size (fun u => VB u a bs → LigAt u v T) w'
theorem lig_take_step {es : List EntD} {act : List Int} {i : Nat} {e : EntD} (he : es[i]? = some e) (h : ∀ x ∈ es.take i, ligEntOk act x) (h1 : ligEntOk act e) : ∀ x ∈ es.take (i + 1), ligEntOk act x := by
 intro x hx
 rw [List.take_add_one, he] at hx
 rcases List.mem_append.1 hx with hx | hx
 ·exact h x hx
 ·simp at hx; subst hx; exact h1
end Lg
end Go.Proofs.YtoncnjhhdlpliaaGreat
