/- Parts of a proof: texts RearTake, RearD, LnGlyphs, Swap, CtxD, CtxTake, InsD, InsTake, LigD, LigTake, DrActV, LigPl, InsPut, InsAct. -/
import Derived.Test.YtoncnjhhdlpliaaGreatMP04
import Derived.ArgAppend
namespace Go.Proofs.YtoncnjhhdlpliaaGreat
open Go.RowKit
namespace Rr
open Vw Sk Ch Lk St
def RearAt (w : World) (v : Value) (M : MachD) : Prop := ∃ g gm, v = .pointer (some ⟨g, 0, none⟩) ∧ w.heap[g]? = some (.cells #[.pointer (some ⟨gm, 0, none⟩)] 156 (0, 0)) ∧ MachAt w (.pointer (some ⟨gm, 0, none⟩)) M
theorem RearAt.below {w w' : World} {v : Value} {M : MachD} (h : RearAt w v M) (hb : Below w.heap.size w w') : RearAt w' v M := by
 obtain ⟨g, gm, h1, h2, h3⟩ := h;exact ⟨g, gm, h1, (hb.block _ (heap_lt h2)).trans h2, h3.below hb⟩
def RearTakeP (w : World) (bs : List Int) (gl : Nat) (e : Ending) (w' : World) : Prop :=
 Below w.heap.size w w' ∧ match parseSt bs gl 0 with
  | none => e = .panicked short
  | some M => ∃ v, e = .returned v ∧ Lives w.heap.size (fun u => RearAt u v M) w'
theorem rearTake_any (a : Option Addr) (len cap : Nat) (bs : List Int) (gl : Nat) (w : World) (hl : len ≤ cap) (hc : cap ≤ maxLen) (hv : VB w a bs) (hbl : bs.length = len) (hg1 : 1 ≤ gl) (hg2 : gl ≤ 65536) :
  Calls Tryz.prog 55 #[.agg #[.slice a len cap], .int .i64 gl] w (RearTakeP w bs gl) := by
 have hb1 := (Below.refl w.heap.size w).alloc (Nat.le_refl _) (.cells #[.slice a len cap] 52);have k1 := Bas.heap_new w (.cells #[.slice a len cap] 52);have HB1 := Bas.hid hb1;have HT := Bas.hid (stTake_any a len cap bs gl 0 _ hl hc (hv.below hb1) hbl (by omega) hg1 hg2)
 have c0 := cell_of_heap (i := 0) k1 rfl;have lk := heap_lt k1;clear hb1 hv;go_enter Tryz.func55, Tryz.ntmps55
 go_wp2_with (fail);generalize w.alloc (.cells #[.slice a len cap] 52) = W1 at *;refine HT.out.mono ?_;rintro e w2 ⟨hb2, h2⟩;have HB2 := Bas.hid (HB1.out.trans (hb2.mono HB1.out.size));clear hb2 HT;cases hp : parseSt bs gl 0 with
 | none =>
  rw [hp] at h2;simp only at h2;subst h2;go_wp2_with (fail);exact ⟨rfl, HB2.out, by rw [hp]⟩
 | some M =>
  rw [hp] at h2;simp only at h2;obtain ⟨v, rfl, hm⟩ := h2;have hv2 : ∃ gm, v = .pointer (some ⟨gm, 0, none⟩) := by
   obtain ⟨gm, _, _, _, _, h, _⟩ := hm.now;exact ⟨gm, h⟩
  obtain ⟨gm, rfl⟩ := hv2;have HM := Bas.hid (hm.mono HB1.out.size);have HP := Bas.hid hp;clear hm hp;go_wp2_with (fail);have k3 := Bas.heap_new w2 (.cells #[.pointer (some ⟨gm, 0, none⟩)] 156);have hb3 := (Below.refl w2.heap.size w2).alloc (Nat.le_refl _) (.cells #[.pointer (some ⟨gm, 0, none⟩)] 156);go_ret;exact ⟨HB2.out.trans (hb3.mono HB2.out.size), by rw [HP.out]; exact ⟨_, rfl, fun u hu => ⟨_, gm, rfl, lives_heap k3 HB2.out.size u hu, HM.out.below hb3 u hu⟩⟩⟩
end Rr
namespace Dr
theorem i64_two (x : Int) (k : Nat) (hk : k < 16) (h0 : 0 ≤ x) (h1 : x ≤ 65535) : bits .and .i64 x ((2 ^ k : Nat) : Int) = x / ((2 ^ k : Nat) : Int) % 2 * ((2 ^ k : Nat) : Int) := by
 obtain ⟨n, rfl⟩ := Int.eq_ofNat_of_zero_le h0;have hp : 2 ^ k < 2 ^ 16 := Nat.pow_lt_pow_right (by omega) hk
 rw [i64_and_nat n (2 ^ k) (by omega) (by omega), nat_bit k n]
 simp
theorem i64_low (x : Int) (k : Nat) (hk : k ≤ 16) (h0 : 0 ≤ x) (h1 : x ≤ 65535) : bits .and .i64 x ((2 ^ k - 1 : Nat) : Int) = x % ((2 ^ k : Nat) : Int) := by
 obtain ⟨n, rfl⟩ := Int.eq_ofNat_of_zero_le h0;have hp : 2 ^ k ≤ 2 ^ 16 := Nat.pow_le_pow_right (by omega) hk
 rw [i64_and_nat n (2 ^ k - 1) (by omega) (by omega), Nat.and_two_pow_sub_one_eq_mod]
 simp
theorem flag_at (x : Int) (k : Nat) (m : Int) (hm : m = ((2 ^ k : Nat) : Int)) (hk : k < 16) (h0 : 0 ≤ x) (h1 : x ≤ 65535) : bits .and .i64 x m = if x / m % 2 = 1 then m else 0 := by
 subst hm;rw [i64_two x k hk h0 h1];have : x / ((2 ^ k : Nat) : Int) % 2 = 0 ∨ x / ((2 ^ k : Nat) : Int) % 2 = 1 := by omega
 rcases this with h | h <;> rw [h] <;> simp
end Dr
namespace Rr
open Ch Lk St Ln Dr Vb
theorem order_ok (v n : Nat) (h : (endsV v).1 + (endsV v).2.1 ≤ n) : orderB n (orderL v n) = true := by
 simp only [orderB, Bool.and_eq_true, decide_eq_true_eq];have hl := order_len v n h;constructor
 ·intro k hk;obtain ⟨i, hi⟩ := List.getElem?_of_mem hk;have hin : i < n := by have := (List.getElem?_eq_some_iff.1 hi).1; omega
  rw [order_get v n i h hin] at hi;cases hi;exact ordF_bd _ _ _ _ n i h hin
 ·refine List.pairwise_iff_getElem.2 fun i j hi hj hij => ?_
  rw [hl] at hi hj;have e1 := order_get v n i h hi;have e2 := order_get v n j h hj;have g1 : (orderL v n)[i]? = some (orderL v n)[i] := List.getElem?_eq_getElem (by omega)
  have g2 : (orderL v n)[j]? = some (orderL v n)[j] := List.getElem?_eq_getElem (by omega)
  have e1 := Option.some.inj (g1.symm.trans e1);have e2 := Option.some.inj (g2.symm.trans e2);rw [e1, e2];exact ordF_inj _ _ _ _ n j i h hj hij
theorem ends_pos (v : Nat) (h1 : 1 ≤ v) (h2 : v ≤ 15) : 1 ≤ (endsV v).1 + (endsV v).2.1 := by
 have : v = 1 ∨ v = 2 ∨ v = 3 ∨ v = 4 ∨ v = 5 ∨ v = 6 ∨ v = 7 ∨ v = 8 ∨ v = 9 ∨ v = 10 ∨ v = 11 ∨ v = 12 ∨ v = 13 ∨ v = 14 ∨ v = 15 := by omega
 rcases this with rfl | rfl | rfl | rfl | rfl | rfl | rfl | rfl | rfl | rfl | rfl | rfl | rfl | rfl | rfl <;> decide
def rearA (s : Int × Int) (n : Nat) (i : Int) (e : EntD) : Int := if e.flags / 32768 % 2 = 1 then (if (n : Int) < i then (n : Int) else i) else s.1
def rearB (s : Int × Int) (n : Nat) (i : Int) (e : EntD) : Int := if e.flags / 8192 % 2 = 1 then (if (n : Int) < i + 1 then (n : Int) else i + 1) else s.2
def rearX (xs : List Gl) (v : Nat) (f l : Int) : List Gl :=
 if 1 ≤ v ∧ (((endsV v).1 + (endsV v).2.1 : Nat) : Int) ≤ l - f then ordP xs f.toNat (orderL v (l - f).toNat) else xs
def rearF : PlF (Int × Int) := fun s xs i e => ((rearA s xs.length i e, rearB s xs.length i e), rearX xs (e.flags % 16).toNat (rearA s xs.length i e) (rearB s xs.length i e))
def RearInv (s : Int × Int) (xs : List Gl) : Prop := (0 ≤ s.1 ∧ s.1 ≤ xs.length) ∧ (0 ≤ s.2 ∧ s.2 ≤ xs.length) ∧ xs.length ≤ 1000000
theorem rear_bd {s : Int × Int} {xs : List Gl} (h : RearInv s xs) (i : Int) (hi : 0 ≤ i) (e : EntD) : (0 ≤ rearA s xs.length i e ∧ rearA s xs.length i e ≤ xs.length) ∧ (0 ≤ rearB s xs.length i e ∧ rearB s xs.length i e ≤ xs.length) := by
 obtain ⟨h1, h2, h3⟩ := h;unfold rearA rearB;constructor
 ·split
  ·split <;> omega
  ·exact h1
 ·split
  ·split <;> omega
  ·exact h2
theorem rearX_len (xs : List Gl) (v : Nat) (f l : Int) (hf : 0 ≤ f) (hl : l ≤ xs.length) : (rearX xs v f l).length = xs.length := by
 unfold rearX;split
 ·rename_i h
  exact ordP_len xs _ _ (by rw [order_len v _ (by omega)]; omega)
 ·rfl
theorem rear_inv {s : Int × Int} {xs : List Gl} (h : RearInv s xs) (i : Int) (hi : 0 ≤ i) (e : EntD) : RearInv (rearF s xs i e).1 (rearF s xs i e).2 := by
 obtain ⟨h1, h2⟩ := rear_bd h i hi e;unfold RearInv;have hl : (rearF s xs i e).2.length = xs.length := rearX_len xs _ _ _ h1.1 h2.2;rw [hl];exact ⟨h1, h2, h.2.2⟩
def rearBox (bx F L B g : Nat) (s : Int × Int) (u : World) : Prop :=
 u.heap[bx]? = some (.cells #[.pointer (some ⟨g, 0, none⟩)] 32 (0, 0)) ∧ u.heap[F]? = some (.cells #[.int .i64 s.1] 3 (0, 0)) ∧ u.heap[L]? = some (.cells #[.int .i64 s.2] 3 (0, 0)) ∧
 u.heap[B]? = some (.cells #[.func (.func 80) #[] #[.pointer (some ⟨bx, 0, none⟩), .pointer (some ⟨F, 0, none⟩), .pointer (some ⟨L, 0, none⟩)]] 166 (0, 0))
def rearBx (bx F L B : Nat) (k : Nat) : Prop := k = bx ∨ k = F ∨ k = L ∨ k = B
theorem rear_boxes (bx F L B g : Nat) : Boxes (rearBox bx F L B g) (rearBx bx F L B) := by
 refine ⟨fun s u h k hk => ?_, fun s u u' T h hm hT => ?_⟩
 ·obtain ⟨h1, h2, h3, h4⟩ := h;rcases hk with rfl | rfl | rfl | rfl
  ·exact heap_lt h1
  ·exact heap_lt h2
  ·exact heap_lt h3
  ·exact heap_lt h4
 ·obtain ⟨h1, h2, h3, h4⟩ := h;exact ⟨hm.heap h1 (fun h => hT _ h (.inl rfl)), hm.heap h2 (fun h => hT _ h (.inr (.inl rfl))), hm.heap h3 (fun h => hT _ h (.inr (.inr (.inl rfl)))), hm.heap h4 (fun h => hT _ h (.inr (.inr (.inr rfl))))⟩
end Rr
namespace Ln
open Ch
theorem glyphs_any (base g : Nat) (sv : Value) (xs : List Gl) (w : World) (h : LineAt w base g sv xs) (hn : xs.length ≤ 4294967296) :
  Calls Tryz.prog 12 #[.pointer (some ⟨g, 0, none⟩)] w fun e w' => Below w.heap.size w w' ∧ ∃ v', e = .returned v' ∧ w'.ownsRow w.heap.size 47 2 v' xs.length (xs.flatMap glC) := by
 have HC := Bas.hid (clone_any sv xs xs.length w (Row.leads_owned h.own) rfl hn);obtain ⟨ad, cp, rfl⟩ := own_slice h.own;have g0 := cell_of_heap (i := 0) (v := .slice ad xs.length cp) h.head rfl;have lg := h.lt;clear h;go_enter Tryz.func12, Tryz.ntmps12
 go_wp2_with (fail);refine HC.out.mono ?_;rintro e w2 ⟨hb, v', rfl, ho⟩;have HB := Bas.hid hb;have HO := Bas.hid ho;clear hb ho HC;go_wp2_with (fail);go_ret;exact ⟨HB.out, v', rfl, HO.out⟩
end Ln
namespace Ln
theorem LnTo.step {w wr w' : World} {base g : Nat} {sv sv' : Value} {zs : List Gl} (hg : g < w.heap.size) (hm : Mod (blk g sv) w wr) (ho : ∀ k, sv'.ownBlock = some k → sv.ownBlock = some k ∨ w.heap.size ≤ k) (h : LnTo wr base g sv' zs w') : LnTo w base g sv zs w' := by
 obtain ⟨sv2, h1, h2, h3⟩ := h;refine ⟨sv2, h1, hm.trans h2 (fun k hk hlt => ?_), fun k hk => ?_⟩
 ·rcases hk with rfl | hk
  ·exact .inl rfl
  ·rcases ho k hk with h | h
   ·exact .inr h
   ·omega
 ·rcases h3 k hk with h | h
  ·exact ho k h
  ·exact .inr (Nat.le_trans hm.size h)
end Ln
namespace Sw
open Vw Ch Lk Ln
def SwapAt (w : World) (v : Value) (ps : List PartD) : Prop := ∃ g lk, v = .pointer (some ⟨g, 0, none⟩) ∧ w.heap[g]? = some (.cells #[.pointer (some ⟨lk, 0, none⟩)] 182 (0, 0)) ∧ LkAt w (.pointer (some ⟨lk, 0, none⟩)) ps
theorem SwapAt.below {w w' : World} {v : Value} {ps : List PartD} (h : SwapAt w v ps) (hb : Below w.heap.size w w') : SwapAt w' v ps := by
 obtain ⟨g, lk, h1, h2, h3⟩ := h;exact ⟨g, lk, h1, (hb.block _ (heap_lt h2)).trans h2, h3.below hb⟩
def SwapTakeP (w : World) (bs : List Int) (gl : Nat) (e : Ending) (w' : World) : Prop :=
 Below w.heap.size w w' ∧ match parseLk bs gl 2 with
  | none => e = .panicked short
  | some ps => ∃ v, e = .returned v ∧ Lives w.heap.size (fun u => SwapAt u v ps) w'
theorem swapTake_any (a : Option Addr) (len cap : Nat) (bs : List Int) (gl : Nat) (w : World) (hl : len ≤ cap) (hc : cap ≤ maxLen) (hv : VB w a bs) (hbl : bs.length = len) (hg1 : 1 ≤ gl) (hg2 : gl ≤ 65536) :
  Calls Tryz.prog 61 #[.agg #[.slice a len cap], .int .i64 gl] w (SwapTakeP w bs gl) := by
 have hb1 := (Below.refl w.heap.size w).alloc (Nat.le_refl _) (.cells #[.slice a len cap] 52);have k1 := Bas.heap_new w (.cells #[.slice a len cap] 52);have HB1 := Bas.hid hb1;have HT := Bas.hid (lkTake_any a len cap bs gl 2 _ hl hc (hv.below hb1) hbl (.inl rfl) hg1 hg2);have c0 := cell_of_heap (i := 0) k1 rfl;have lk := heap_lt k1;clear hb1 hv;go_enter Tryz.func61, Tryz.ntmps61
 go_wp2_with (fail);generalize w.alloc (.cells #[.slice a len cap] 52) = W1 at *;refine HT.out.mono ?_;rintro e w2 ⟨hb2, h2⟩;have HB2 := Bas.hid (HB1.out.trans (hb2.mono HB1.out.size));clear hb2 HT;cases hp : parseLk bs gl 2 with
 | none =>
  rw [hp] at h2;simp only at h2;subst h2;go_wp2_with (fail);exact ⟨rfl, HB2.out, by rw [hp]⟩
 | some ps =>
  rw [hp] at h2;simp only at h2;obtain ⟨v, rfl, hm⟩ := h2;have hv2 : ∃ gm, v = .pointer (some ⟨gm, 0, none⟩) := by
   obtain ⟨gm, _, _, _, h, _⟩ := hm.now;exact ⟨gm, h⟩
  obtain ⟨gm, rfl⟩ := hv2;have HM := Bas.hid (hm.mono HB1.out.size);have HP := Bas.hid hp;clear hm hp;go_wp2_with (fail);have k3 := Bas.heap_new w2 (.cells #[.pointer (some ⟨gm, 0, none⟩)] 182);have hb3 := (Below.refl w2.heap.size w2).alloc (Nat.le_refl _) (.cells #[.pointer (some ⟨gm, 0, none⟩)] 182);go_ret;exact ⟨HB2.out.trans (hb3.mono HB2.out.size), by rw [HP.out]; exact ⟨_, rfl, fun u hu => ⟨_, gm, rfl, lives_heap k3 HB2.out.size u hu, HM.out.below hb3 u hu⟩⟩⟩
def swapG (ps : List PartD) (x : Gl) : Gl := if x.1 = 65535 then x else match getL ps x.1 with
 | some n => (n, x.2)
 | none => x
def swapRun (ps : List PartD) (xs : List Gl) : List Gl × Int := (xs.map (swapG ps), 0)
def swapPre (ps : List PartD) (xs : List Gl) (i : Nat) : List Gl := (xs.take i).map (swapG ps) ++ xs.drop i
theorem swapPre_len (ps : List PartD) (xs : List Gl) (i : Nat) : (swapPre ps xs i).length = xs.length := by unfold swapPre; simp; omega
theorem swapPre_zero (ps : List PartD) (xs : List Gl) : swapPre ps xs 0 = xs := by simp [swapPre]
theorem swapPre_at (ps : List PartD) {xs : List Gl} {i : Nat} {x : Gl} (hx : xs[i]? = some x) : (swapPre ps xs i)[i]? = some x := by
 have hi := (List.getElem?_eq_some_iff.1 hx).1;unfold swapPre;rw [List.getElem?_append_right (by simp; omega), List.length_map, List.length_take, Nat.min_eq_left (by omega), List.getElem?_drop, Nat.sub_self]
 exact hx
theorem swapPre_succ (ps : List PartD) {xs : List Gl} {i : Nat} {x : Gl} (hx : xs[i]? = some x) : swapPre ps xs (i + 1) = (swapPre ps xs i).set i (swapG ps x) := by
 have hi := (List.getElem?_eq_some_iff.1 hx).1;unfold swapPre;rw [List.take_add_one, hx, List.set_append_right _ _ (by simp; omega)]
 simp only [List.length_map, List.length_take, Nat.min_eq_left (Nat.le_of_lt hi), Nat.sub_self, Option.toList_some, List.map_append, List.map_cons, List.map_nil, List.append_assoc]
 congr 1
 have hd : xs.drop i = x :: xs.drop (i + 1) := by
  rw [List.drop_eq_getElem_cons hi]
  congr 1
  exact Option.some.inj ((List.getElem?_eq_getElem hi).symm.trans hx)
 rw [hd];rfl
theorem swapPre_end (ps : List PartD) (xs : List Gl) (n : Nat) (h : xs.length = n) : swapPre ps xs n = xs.map (swapG ps) := by
 unfold swapPre; rw [List.take_of_length_le (by omega), List.drop_of_length_le (by omega), List.append_nil]
theorem swapPre_same (ps : List PartD) {xs : List Gl} {i : Nat} {x : Gl} (hx : xs[i]? = some x) (h : swapG ps x = x) : swapPre ps xs (i + 1) = swapPre ps xs i := by
 rw [swapPre_succ ps hx, h];apply List.ext_getElem?;intro k;by_cases hk : k = i
 ·subst hk;rw [List.getElem?_set_self (by rw [swapPre_len]; exact (List.getElem?_eq_some_iff.1 hx).1), swapPre_at ps hx]
 ·rw [List.getElem?_set_ne (by omega)]
set_option maxRecDepth 100000 in
set_option maxHeartbeats 8000000 in
theorem swapRun_any (base g : Nat) (sv v : Value) (xs : List Gl) (ps : List PartD) (W0 w : World) (hT : SwapAt W0 v ps) (hp : ∀ p ∈ ps, PartOk p) (hr : rises ps = true) (hps : ps.length ≤ 4294967296) (hb0 : Below W0.heap.size W0 w) (hbase : W0.heap.size ≤ base) (hL : LineAt w base g sv xs) (hlen : xs.length ≤ 1000000) :
  Calls Tryz.prog 62 #[v, .pointer (some ⟨g, 0, none⟩)] w fun e w' => e = .returned (.int .i64 (swapRun ps xs).2) ∧ LnTo w base g sv (swapRun ps xs).1 w' := by
 obtain ⟨gt, gm, rfl, hgt, hm⟩ := hT;have HGT := Bas.hid hgt;have HLK := Bas.hid hm;have HL := Bas.hid hL;have HB0 := Bas.hid hb0;have HBA := Bas.hid hbase;have HP := Bas.hid hp;have HR := Bas.hid hr;have HGL := Bas.hid (glyphs_any base g sv xs w hL (by omega))
 obtain ⟨n, hn⟩ : ∃ n, xs.length = n := ⟨_, rfl⟩;have HN := Bas.hid hn;rw [hn] at HGL hlen;clear hgt hm hL hb0 hbase hp hr hn;go_enter Tryz.func62, Tryz.ntmps62
 go_wp2_with (fail);refine HGL.out.mono ?_;rintro e w1 ⟨hb1, v1, rfl, ho1⟩;obtain ⟨a1, c1, rfl⟩ := own_slice ho1;have HB1 := Bas.hid hb1;have HO1 := Bas.hid ho1;have HL1 := Bas.hid (HL.out.below hb1);clear hb1 ho1 HGL;go_wp2_with (fail);go_loopw [12] (fun vi wr => ∃ (i : Nat) (sv' : Value), i ≤ n ∧ vi = .int .i64 i ∧ LineAt wr base g sv' (swapPre ps xs i) ∧ Mod (blk g sv) w wr ∧ (∀ k, sv'.ownBlock = some k → sv.ownBlock = some k ∨ w.heap.size ≤ k) ∧ wr.ownsRow w.heap.size 47 2 (.slice a1 n c1) n (xs.flatMap glC) ∧ (∀ k, sv'.ownBlock = some k → (Value.slice a1 n c1).ownBlock ≠ some k)) (fun vi _ => n - (intOf vi).toNat)
 case atStart => exact ⟨0, sv, Nat.zero_le _, rfl, by rw [swapPre_zero]; exact HL1.out, Mod.of_below HB1.out, fun _ h => .inl h, HO1.out, fun k hk e => by
  have h1 := (Row.own_block HL.out.own hk).2;have h2 := (Row.own_block HO1.out e).1;omega⟩
 case round =>
  obtain ⟨i, sv', hi, rfl, hA, hmod, hown, hO, hdis⟩ := hrel;have HA := Bas.hid hA;have HMD := Bas.hid hmod;have HOW := Bas.hid hown;have HO := Bas.hid hO;have HDI := Bas.hid hdis;have hb := hmod.below HB0.out (fun k hk => Nat.le_trans HBA.out (HL.out.blk_low k hk).1) HB0.out.size
  have HB := Bas.hid hb;by_cases hin : i < n
  ·have e1 : decide ((i : Int) < (n : Int)) = true := by simp; omega
   obtain ⟨⟨x0, x1⟩, hx⟩ : ∃ x, xs[i]? = some x := ⟨_, List.getElem?_eq_getElem (by rw [HN.out]; exact hin)⟩
   have HX := Bas.hid hx;obtain ⟨bo, cp', hv, hlt, hbb, c0, c1', _⟩ := own_cells hO hx;cases hv;simp only at c0 c1';have kt := (hb.block _ (heap_lt HGT.out)).trans HGT.out;have kT := Bas.heap_new wr (.cells #[.int .i64 x0, .int .i64 x1] 47);have hb2 := (Below.refl wr.heap.size wr).alloc (Nat.le_refl _) (.cells #[.int .i64 x0, .int .i64 x1] 47);have kt2 := (hb2.block _ (heap_lt kt)).trans kt;have d0 := cell_of_heap (i := 0) kT rfl;have lT := heap_lt kT;have HKT := Bas.hid kT;have HB2 := Bas.hid hb2;have HKt2 := Bas.hid kt2;have HLK2 := Bas.hid (HLK.out.below (HB.out.trans (hb2.mono HB.out.size)));clear hA hmod hown hO hdis hb hx kt kT hb2 kt2;by_cases h5 : x0 = 65535
   ·have e5 : (x0 == 65535) = true := by simpa using h5
    have HS := Bas.hid (swapPre_same ps HX.out (by unfold swapG; rw [if_pos h5]))
    clear h5;go_wp2_with (fail);go_roundw
    case rel => exact ⟨i + 1, sv', by omega, by go_num, by rw [HS.out]; exact HA.out.below HB2.out, HMD.out.on HB2.out, HOW.out, Row.owned_below HO.out HB2.out, HDI.out⟩
    case measure => simp [intOf]; omega
   ·have e5 : (x0 == 65535) = false := by simpa using h5
    have HN5 := Bas.hid h5;clear h5;go_wp2_with (fail);generalize (wr.alloc (.cells #[.int .i64 x0, .int .i64 x1] 47)) = W2 at *;obtain ⟨RI, RF, Ri, RF0, RFk, RFw⟩ := Pl.fam_of W2 (fun u => u.cell? ⟨gt, 0, none⟩ = some (.pointer (some ⟨gm, 0, none⟩)) ∧ u.cell? ⟨wr.heap.size, 0, none⟩ = some (.int .i64 x0)) ⟨cell_of_heap (i := 0) HKt2.out rfl, d0⟩
    have RFH := Bas.hid RF0;have RhI : Nonempty RI := ⟨Ri⟩;have RFW := Bas.hid RFw;have z0 := fun i => (RFk i).1
    have z1 := fun i => (RFk i).2
    clear RF0 RFw RFk c0 c1' d0 lT hlt;refine Pl.region_plan0 Ri [(true, 0), (true, 1), (true, 2), (true, 3), (true, 4), (true, 5), (false, 6), (true, 7), (true, 8), (true, 9), (true, 10), (true, 11)] [] (by kernel_rfl) (by kernel_rfl) (fun _ _ _ _ e h => ⟨e ▸ h.1, h.2⟩) RFH.out ?_
    refine Pl.head_sel0 [(true, 0), (true, 1), (true, 2), (true, 3), (true, 4), (true, 5)] (by kernel_rfl) (by kernel_rfl) ?_
    simp only [Pl.sel, List.drop_succ_cons, List.drop_zero];repeat (go_big_quiet_step (fail))
    refine wpQuiet_nil ?_;rw [← RFH.out];clear z0 z1;refine Pl.one_sel (by kernel_rfl) ?_
    intro Q' hQ' hP';simp only [Pl.sel, List.drop_succ_cons, List.drop_zero];go_wp2_with (fail);have hbd := Bas.below_drewN (Below.refl W2.heap.size W2) 1;refine (get_any _ ps x0 W2.drew (HLK2.out.below hbd) HP.out HR.out hps).mono ?_;rintro e w4 ⟨rfl, hb4⟩;have hb4' : Below W2.heap.size W2 w4 := hbd.trans hb4;have HB4 := Bas.hid (HB2.out.trans (hb4'.mono HB2.out.size));have hct4 : w4.cell? ⟨gt, 0, none⟩ = some (.pointer (some ⟨gm, 0, none⟩)) := cell_of_heap (i := 0) ((hb4'.block _ (heap_lt HKt2.out)).trans HKt2.out) rfl;have hcb4 : w4.cell? ⟨wr.heap.size, 0, none⟩ = some (.int .i64 x0) := cell_of_heap (i := 0) ((hb4'.block _ (heap_lt HKT.out)).trans HKT.out) rfl;clear hb4 hb4' hbd;go_wp2_with (fail);refine hQ' _ _ (fun _ _ => RFW.out _ ⟨hct4, hcb4⟩) ?_
    clear hct4 hcb4 hQ' hP' Q' RFW RFH;refine Pl.head_sel0 (rest := []) [(true, 7), (true, 8), (true, 9), (true, 10), (true, 11)] (by kernel_rfl) (by kernel_rfl) ?_
    simp only [Pl.sel, List.drop_succ_cons, List.drop_zero];repeat (go_big_quiet_step (fail))
    refine wpQuiet_nil ?_;simp only [Pl.walkM];obtain ⟨o, ho⟩ : ∃ o, getL ps x0 = o := ⟨_, rfl⟩;have HGO := Bas.hid ho;rw [ho];clear ho RhI Ri;cases o with
    | none =>
     have HS := Bas.hid (swapPre_same ps HX.out (by unfold swapG; rw [if_neg HN5.out, HGO.out]))
     simp only [Option.getD_none, Option.isSome_none];go_wp2_with (fail);go_roundw
     case rel => exact ⟨i + 1, sv', by omega, by go_num, by rw [HS.out]; exact HA.out.below HB4.out, HMD.out.on HB4.out, HOW.out, Row.owned_below HO.out HB4.out, HDI.out⟩
     case measure => simp [intOf]; omega
    | some y =>
     have HS : Hid (swapPre ps xs (i + 1) = setId (swapPre ps xs i) (i : Int) y) := by
      unfold Hid setId;have hg : glAt (swapPre ps xs i) (i : Int) = some (x0, x1) := by unfold glAt; rw [if_pos (by omega), Int.toNat_natCast, swapPre_at ps HX.out]
      rw [hg, swapPre_succ ps HX.out];unfold swapG;rw [if_neg HN5.out, HGO.out];rfl
     have HSET := Bas.hid (set_any base g sv' (swapPre ps xs i) (i : Int) y w4 (HA.out.below HB4.out));simp only [Option.getD_some, Option.isSome_some];go_wp2_with (fail);refine HSET.out.mono ?_;rintro e w6 ⟨rfl, hto⟩;have hto2 := LnTo.step (sv := sv) HL.out.lt (HMD.out.on HB4.out) HOW.out hto;rw [← HS.out] at hto hto2;obtain ⟨sv6, h61, h62, h63⟩ := hto;obtain ⟨sv7, h71, h72, h73⟩ := hto2;have HA6 := Bas.hid h61;have HM6 : Hid (Mod (blk g sv) w w6) := h72;have HW6 : Hid (∀ k, sv6.ownBlock = some k → sv.ownBlock = some k ∨ w.heap.size ≤ k) := fun k hk => (h63 k hk).elim (HOW.out k) (fun h => .inr (Nat.le_trans HMD.out.size (Nat.le_trans HB4.out.size h)))
     have hO4 := Row.owned_below HO.out HB4.out;have HO6 : Hid (w6.ownsRow w.heap.size 47 2 (.slice (some ⟨bo, 0, none⟩) n c1) n (xs.flatMap glC)) := h62.owned hO4 (fun k hk hb => by
      rcases hb with rfl | hb
      ·have := (Row.own_block hO4 hk).1; have := HL.out.lt; omega
      ·exact HDI.out k hb hk)
     have HD6 : Hid (∀ k, sv6.ownBlock = some k → (Value.slice (some ⟨bo, 0, none⟩) n c1).ownBlock ≠ some k) := fun k hk e => by
      rcases h63 k hk with h | h
      ·exact HDI.out k h e
      ·have := (Row.own_block hO4 e).2; omega
     clear h61 h62 h63 h71 h72 h73 hO4 HSET;go_wp2_with (fail);go_roundw
     case rel => exact ⟨i + 1, sv6, by omega, by go_num, HA6.out, HM6.out, HW6.out, HO6.out, HD6.out⟩
     case measure => simp [intOf]; omega
  ·have e1 : decide ((i : Int) < (n : Int)) = false := by simp; omega
   have e2 : decide (i < n) = false := by simp; omega
   have e3 : ¬ (i : Int) < (n : Int) := by omega
   have hin2 : i = n := by omega
   have HF : Hid (LnTo w base g sv (swapRun ps xs).1 wr) := by
    unfold Hid swapRun;rw [hin2, swapPre_end ps xs n HN.out] at hA;exact ⟨sv', hA, hmod, hown⟩
   clear hA hmod hown hO hdis hb hin2;go_wp2_with (fail);go_ret;exact ⟨rfl, HF.out⟩
end Sw
namespace Cx
open Vw Ch Lk St Ln Dr
structure CtxD where
 m : MachD
 subs : List (List PartD)
def manyStep (m x : Int) : Int := if x = 65535 then m else if m < x + 1 then x + 1 else m
def manyE (m : Int) (e : EntD) : Int := manyStep (manyStep m e.a) e.b
def manyOf (l : List EntD) : Int := l.foldl manyE 0
def subsL (sub : List Int) (gl : Nat) : Nat → Option (List (List PartD))
 | 0 => some []
 | k + 1 => (subsL sub gl k).bind fun l => if 4 * k + 4 ≤ sub.length ∧ be sub (4 * k) 4 ≤ sub.length then (parseLk (sub.drop (be sub (4 * k) 4).toNat) gl 2).map fun ps => l ++ [ps] else none
def ctxParse (bs : List Int) (gl : Nat) : Option CtxD := (parseSt bs gl 2).bind fun M =>
 if 20 ≤ bs.length ∧ be bs 16 4 ≤ bs.length then (subsL (bs.drop (be bs 16 4).toNat) gl (manyOf M.ents).toNat).map fun l => ⟨M, l⟩ else none
theorem subsL_none {sub : List Int} {gl k : Nat} (h : subsL sub gl k = none) : ∀ n, k ≤ n → subsL sub gl n = none := by
  intro n hn
  induction n with
  | zero => obtain rfl : k = 0 := by omega
            exact h
  | succ n ih =>
    by_cases hk : k = n + 1
    · subst hk; exact h
    · unfold subsL; rw [ih (by omega)]; rfl
theorem subsL_len {sub : List Int} {gl : Nat} : ∀ {k : Nat} {l : List (List PartD)}, subsL sub gl k = some l → l.length = k
 | 0, l, h => by simp [subsL] at h; subst h; rfl
 | k + 1, l, h => by
  unfold subsL at h;cases h1 : subsL sub gl k with
  | none => rw [h1] at h; cases h
  | some l1 =>
   rw [h1] at h;simp only [Option.bind_some] at h;split at h
   ·cases h2 : parseLk (sub.drop (be sub (4 * k) 4).toNat) gl 2 with
    | none => rw [h2] at h; cases h
    | some ps =>
     rw [h2] at h;cases h;rw [List.length_append, subsL_len h1]; rfl
   ·cases h
def SubOk (ps : List PartD) : Prop := (∀ p ∈ ps, PartOk p) ∧ rises ps = true
theorem subsL_ok {sub : List Int} (hb : ∀ x ∈ sub, 0 ≤ x ∧ x ≤ 255) {gl : Nat} (h1 : 1 ≤ gl) (h2 : gl ≤ 65536) : ∀ {k : Nat} {l : List (List PartD)}, subsL sub gl k = some l → ∀ ps ∈ l, SubOk ps
 | 0, l, h => by simp [subsL] at h; subst h; intro ps h; cases h
 | k + 1, l, h => by
  unfold subsL at h;cases h3 : subsL sub gl k with
  | none => rw [h3] at h; cases h
  | some l1 =>
   rw [h3] at h;simp only [Option.bind_some] at h;split at h
   ·cases h4 : parseLk (sub.drop (be sub (4 * k) 4).toNat) gl 2 with
    | none => rw [h4] at h; cases h
    | some ps =>
     rw [h4] at h;cases h;intro qs hq;rcases List.mem_append.1 hq with hq | hq
     ·exact subsL_ok hb h1 h2 h3 qs hq
     ·simp at hq;subst hq;obtain ⟨o1, o2⟩ := parseLk_ok (fun x hx => hb x (List.mem_of_mem_drop hx)) h1 h2 (by omega) h4
      exact ⟨o1, o2⟩
   ·cases h
def NeedOk (e : EntD) (n : Nat) : Prop := (e.a = 65535 ∨ e.a < n) ∧ (e.b = 65535 ∨ e.b < n)
theorem manyStep_ge (m x : Int) : m ≤ manyStep m x ∧ (x = 65535 ∨ x < manyStep m x) := by
 unfold manyStep; split
 ·exact ⟨by omega, .inl (by assumption)⟩
 ·split <;> exact ⟨by omega, .inr (by omega)⟩
theorem many_mono : ∀ (l : List EntD) (m : Int), m ≤ l.foldl manyE m
 | [], m => Int.le_refl _
 | e :: l, m => by
  have h1 := (manyStep_ge m e.a).1;have h2 := (manyStep_ge (manyStep m e.a) e.b).1;have h3 := many_mono l (manyE m e);rw [List.foldl_cons];unfold manyE at h3 ⊢;omega
theorem many_need : ∀ (l : List EntD) (m : Int) (e : EntD), e ∈ l → (e.a = 65535 ∨ e.a < l.foldl manyE m) ∧ (e.b = 65535 ∨ e.b < l.foldl manyE m)
 | [], _, e, h => by cases h
 | x :: l, m, e, h => by
  rw [List.foldl_cons];rcases List.mem_cons.1 h with rfl | h
  ·have h1 := manyStep_ge m e.a;have h2 := manyStep_ge (manyStep m e.a) e.b;have h3 := many_mono l (manyE m e);unfold manyE at h3 ⊢;constructor
   ·rcases h1.2 with h | h
    ·exact .inl h
    ·right; omega
   ·rcases h2.2 with h | h
    ·exact .inl h
    ·right; omega
  ·exact many_need l _ e h
theorem many_bd : ∀ (l : List EntD) (m : Int), 0 ≤ m → m ≤ 65535 → (∀ e ∈ l, (0 ≤ e.a ∧ e.a ≤ 65535) ∧ (0 ≤ e.b ∧ e.b ≤ 65535)) → 0 ≤ l.foldl manyE m ∧ l.foldl manyE m ≤ 65535
 | [], m, h1, h2, _ => ⟨h1, h2⟩
 | e :: l, m, h1, h2, h3 => by
  rw [List.foldl_cons];have h := h3 e (by simp)
  refine many_bd l _ ?_ ?_ (fun x hx => h3 x (by simp [hx]))
  ·have := (manyStep_ge m e.a).1; have := (manyStep_ge (manyStep m e.a) e.b).1; unfold manyE; omega
  ·unfold manyE manyStep; repeat' split
   all_goals omega
structure CtxOk (T : CtxD) : Prop where
 m : MachOk T.m
 subs : ∀ ps ∈ T.subs, SubOk ps
 need : ∀ e ∈ T.m.ents, NeedOk e T.subs.length
theorem ctx_ok {bs : List Int} (hb : ∀ x ∈ bs, 0 ≤ x ∧ x ≤ 255) {gl : Nat} (h1 : 1 ≤ gl) (h2 : gl ≤ 65536) {T : CtxD} (h : ctxParse bs gl = some T) : CtxOk T := by
 unfold ctxParse at h;cases hM : parseSt bs gl 2 with
 | none => rw [hM] at h; cases h
 | some M =>
  rw [hM] at h;simp only [Option.bind_some] at h;split at h
  ·cases hs : subsL (bs.drop (be bs 16 4).toNat) gl (manyOf M.ents).toNat with
   | none => rw [hs] at h; cases h
   | some l =>
    rw [hs] at h;cases h;have hok := parseSt_ok hb h1 h2 hM;refine ⟨hok, subsL_ok (fun x hx => hb x (List.mem_of_mem_drop hx)) h1 h2 hs, fun e he => ?_⟩
    have hn := many_need M.ents 0 e he;have hbd := many_bd M.ents 0 (by omega) (by omega) (fun e he => ⟨(hok.ents e he).2.2.1, (hok.ents e he).2.2.2⟩)
    have hl := subsL_len hs;unfold manyOf at hl;unfold NeedOk;simp only;rw [hl];omega
  ·cases h
def CtxAt (w : World) (v : Value) (T : CtxD) : Prop :=
 ∃ g gm vs us, v = .pointer (some ⟨g, 0, none⟩) ∧ w.heap[g]? = some (.cells #[.pointer (some ⟨gm, 0, none⟩), vs] 169 (0, 0)) ∧ MachAt w (.pointer (some ⟨gm, 0, none⟩)) T.m ∧ us.length = T.subs.length ∧ Row.Leads w vs T.subs.length us ∧
  ∀ (i : Nat) (ps : List PartD) (u : Value), T.subs[i]? = some ps → us[i]? = some u → LkAt w u ps
theorem CtxAt.below {w w' : World} {v : Value} {T : CtxD} (h : CtxAt w v T) (hb : Below w.heap.size w w') : CtxAt w' v T := by
 obtain ⟨g, gm, vs, us, h1, h2, h3, h4, h5, h6⟩ := h;exact ⟨g, gm, vs, us, h1, (hb.block _ (heap_lt h2)).trans h2, h3.below hb, h4, Row.leads_below h5 hb, fun i ps u hi hu => (h6 i ps u hi hu).below hb⟩
def ctxSwap (subs : List (List PartD)) (xs : List Gl) (i which : Int) : List Gl := if which = 65535 then xs else match glAt xs i with
 | none => xs
 | some g => match getL (subs.getD which.toNat []) g.1 with
  | some n => setId xs i n
  | none => xs
def ctxF (T : CtxD) : PlF Int := fun mark xs i e =>
 (if e.flags / 32768 % 2 = 1 ∧ i < xs.length then i else mark, ctxSwap T.subs (ctxSwap T.subs xs mark e.a) i e.b)
def ctxRun (T : CtxD) (xs : List Gl) : List Gl × Int := ((dall T.m (plF (ctxF T)) (-1) xs).1.xs, (dall T.m (plF (ctxF T)) (-1) xs).2)
theorem setId_len (xs : List Gl) (i n : Int) : (setId xs i n).length = xs.length := by unfold setId; split <;> simp
theorem ctxSwap_len (subs : List (List PartD)) (xs : List Gl) (i which : Int) : (ctxSwap subs xs i which).length = xs.length := by
 unfold ctxSwap; split
 ·rfl
 ·split
  ·rfl
  ·split
   ·exact setId_len _ _ _
   ·rfl
def CtxTakeP (w : World) (bs : List Int) (gl : Nat) (e : Ending) (w' : World) : Prop :=
 Below w.heap.size w w' ∧ match ctxParse bs gl with
  | none => e = .panicked short
  | some T => ∃ v, e = .returned v ∧ Lives w.heap.size (fun u => CtxAt u v T) w'
theorem enC_at {w : World} {base n : Nat} {v : Value} {es : List EntD} (h : w.ownsRow base 162 4 v n (es.flatMap enC)) {i : Nat} {e : EntD} (he : es[i]? = some e) :
  ∃ b cp, v = .slice (some ⟨b, 0, none⟩) n cp ∧ b < w.heap.size ∧ w.cell? ⟨b, i * 4, none⟩ = some (.int .i64 e.next) ∧ w.cell? ⟨b, i * 4 + 1, none⟩ = some (.int .i64 e.flags) ∧ w.cell? ⟨b, i * 4 + 2, none⟩ = some (.int .i64 e.a) ∧ w.cell? ⟨b, i * 4 + 3, none⟩ = some (.int .i64 e.b) := by
 have hL := Row.leads_elem enC_len (Row.leads_owned h) he (by omega)
 obtain ⟨b, o, cp, hv, hc⟩ := hL;rcases Row.owned_parts h with ⟨h1, _⟩ | ⟨g, cap, h1, _, h2, _⟩
 ·rw [h1] at hv; cases hv
 ·rw [h1] at hv; cases hv;have c0 := hc 0 _ rfl;have c1 := hc 1 _ rfl;have c2 := hc 2 _ rfl;have c3 := hc 3 _ rfl;simp only [Nat.zero_add, Nat.add_zero] at c0 c1 c2 c3;exact ⟨_, _, h1, h2, c0, c1, c2, c3⟩
theorem many_take (es : List EntD) (i : Nat) (e : EntD) (he : es[i]? = some e) : (es.take (i + 1)).foldl manyE 0 = manyE ((es.take i).foldl manyE 0) e := by
 rw [List.take_add_one, he, List.foldl_append]; rfl
set_option maxRecDepth 100000 in
set_option maxHeartbeats 16000000 in
theorem ctxTake_any (a : Option Addr) (len cap : Nat) (bs : List Int) (gl : Nat) (w : World) (hl : len ≤ cap) (hc : cap ≤ maxLen) (hv : VB w a bs) (hbl : bs.length = len) (hg1 : 1 ≤ gl) (hg2 : gl ≤ 65536) :
  Calls Tryz.prog 57 #[.agg #[.slice a len cap], .int .i64 gl] w (CtxTakeP w bs gl) := by
 have k1 := Bas.heap_new w (.cells #[.slice a len cap] 52);have hb1 := (Below.refl w.heap.size w).alloc (Nat.le_refl _) (.cells #[.slice a len cap] 52);have HB1 := Bas.hid hb1;have HV := Bas.hid (fun (w' : World) (hb : Below w.heap.size w w') => hv.below hb)
 have HT := Bas.hid (stTake_any a len cap bs gl 2 _ hl hc (hv.below hb1) hbl (by omega) hg1 hg2)
 have hbyte := hv.byte;have b16 := be_rng4 hv.byte 16 4 (by omega)
 obtain ⟨o16, ho16⟩ := Int.eq_ofNat_of_zero_le b16.1;have HO16 := Bas.hid ho16;have HBY := Bas.hid hbyte;have c0 := cell_of_heap (i := 0) k1 rfl;have lk := heap_lt k1;clear hb1 hv b16 ho16 hbyte;go_enter Tryz.func57, Tryz.ntmps57
 go_wp2_with (fail);generalize w.alloc (.cells #[.slice a len cap] 52) = W1 at *;refine HT.out.mono ?_;rintro e w2 ⟨hb2, h2⟩;have kT := (hb2.block _ lk).trans k1;have HB2 := Bas.hid (HB1.out.trans (hb2.mono HB1.out.size));have hw1 := HB1.out.size;clear hb2 HT c0 lk k1;cases hp : parseSt bs gl 2 with
 | none =>
  rw [hp] at h2;simp only at h2;subst h2;have HNO : Hid (ctxParse bs gl = none) := by unfold Hid ctxParse; rw [hp]; rfl
  go_wp2_with (fail);exact ⟨rfl, HB2.out, by rw [HNO.out]⟩
 | some M =>
  rw [hp] at h2;simp only at h2;obtain ⟨v, rfl, hm⟩ := h2;have hv2 : ∃ gm, v = .pointer (some ⟨gm, 0, none⟩) := by
   obtain ⟨gm, _, _, _, _, h, _⟩ := hm.now;exact ⟨gm, h⟩
  obtain ⟨gm, rfl⟩ := hv2;have HM := Bas.hid (hm.mono HB1.out.size);have HP := Bas.hid hp;have HOK := Bas.hid (parseSt_ok HBY.out hg1 hg2 hp);clear hm hp;go_wp2_with (fail);have k3 := Bas.heap_new w2 (.cells #[.pointer (some ⟨gm, 0, none⟩), .slice none 0 0] 169);have hb3 := (Below.refl w2.heap.size w2).alloc (Nat.le_refl _) (.cells #[.pointer (some ⟨gm, 0, none⟩), .slice none 0 0] 169);have kT3 := (hb3.block _ (heap_lt kT)).trans kT;have HB3 := Bas.hid (HB2.out.trans (hb3.mono HB2.out.size));have HBG3 := Bas.hid hb3;have hGT : w.heap.size ≤ w2.heap.size := HB2.out.size;clear hb3 kT HB2;generalize w2.alloc (.cells #[.pointer (some ⟨gm, 0, none⟩), .slice none 0 0] 169) = W3 at *;obtain ⟨GT, hGTe⟩ : ∃ GT, w2.heap.size = GT := ⟨_, rfl⟩;rw [hGTe] at k3 hGT HBG3 ⊢;have HGTE := Bas.hid hGTe;clear hGTe;have lT := heap_lt kT3;have c0 := cell_of_heap (i := 0) kT3 rfl;have HPARSE : Hid (ctxParse bs gl = if 20 ≤ len ∧ (o16 : Int) ≤ len then (subsL (bs.drop o16) gl (manyOf M.ents).toNat).map fun l => ⟨M, l⟩ else none) := by
   unfold Hid ctxParse; rw [HP.out, Option.bind_some, HO16.out, hbl, Int.toNat_natCast]
  by_cases f20 : 20 ≤ len
  ·have HU := Bas.hid (fun (w' : World) (hb : Below w.heap.size w w') => (by
    have h := u32_ok a len cap bs 16 w' hl hc (HV.out w' hb) hbl (by omega) (by omega)
    rw [show ((16 : Int)).toNat = 16 by rfl, HO16.out] at h
    exact h : Calls Tryz.prog 50 #[.agg #[.slice a len cap], .int .i64 16] w' fun e w'' => e = .returned (.int .i64 (o16 : Nat)) ∧ Below w'.heap.size w' w''))
   by_cases g16 : o16 ≤ len
   ·have HR := Bas.hid (fun (w' : World) (_ : Below w.heap.size w w') => (by
     have h := rest_ok a len cap (o16 : Nat) w' hl hc (by omega) (by omega)
     rw [Int.toNat_natCast] at h;exact h : Calls Tryz.prog 75 #[.agg #[.slice a len cap], .int .i64 (o16 : Nat)] w' fun e w'' => e = .returned (.agg #[.slice (sub a o16 (len - o16)) (len - o16) (len - o16)]) ∧ Below w'.heap.size w' w''))
    have HS := Bas.hid (fun (w' : World) (hb : Below w.heap.size w w') => (by
     have h := vb_drop (HV.out w' hb) o16 (by omega)
     rw [hbl] at h;exact h : VB w' (sub a o16 (len - o16)) (bs.drop o16)))
    have HPY : Hid (ctxParse bs gl = (subsL (bs.drop o16) gl (manyOf M.ents).toNat).map fun l => ⟨M, l⟩) := by unfold Hid; rw [HPARSE.out, if_pos ⟨f20, by omega⟩]
    generalize sub a o16 (len - o16) = S at *;obtain ⟨sl, hsl⟩ : ∃ sl, len - o16 = sl := ⟨_, rfl⟩;rw [hsl] at HR;have HSL : Hid ((bs.drop o16).length = sl) := by unfold Hid; rw [List.length_drop, hbl]; exact hsl
    have hslm : sl ≤ maxLen := by omega
    clear hsl;refine' Pl.region_v1 73 [] [0, 1, 2, 3] 4 6 [5] _ (fun v u => ∃ g, v = .pointer (some ⟨g, 0, none⟩) ∧ W3.heap.size ≤ g ∧ u.heap[g]? = some (.cells #[.slice none 0 0] 52 (0, 0))) (by kernel_rfl) (by kernel_rfl) (by simp) (fun _ _ _ _ e h => ⟨e ▸ h.1, h.2⟩) ?_ ?_ ?_ ?_
    rotate_left
    ·intro I F hI hF;simp only [Pl.selN, List.nil_append, List.drop_succ_cons, List.drop_zero];have z0 := fun i => hF.cell lT c0 i
     repeat (go_big_quiet_step ((first | (go_at_call 50; with_reducible exact hF.call (HU.out _ (HB3.out.trans ((hF.bel _).mono HB3.out.size)))) | (go_at_call 75; with_reducible exact hF.call (HR.out _ (HB3.out.trans ((hF.bel _).mono HB3.out.size)))))))
     refine wpQuiet_nil ?_;rfl
    ·rintro v u u' ⟨g, h1, h2, h3⟩ hu hu';exact ⟨g, h1, h2, (hu'.block g (heap_lt h3)).trans h3⟩
    ·simp only [Pl.selN, List.drop_succ_cons, List.drop_zero, List.mem_singleton, forall_eq];intro u hu
     go_simp
     simp only [Pl.valsAt];exact ⟨(Below.refl _ _).alloc (Nat.le_refl _) _, _, rfl, hu.size, Bas.heap_new _ _⟩
    ·intro v u hu hv;obtain ⟨T6, rfl, hT6, kT6⟩ := hv;simp only [Pl.selN, List.drop_succ_cons, List.drop_zero, Act.put, List.setIfInBounds_toArray, List.set_cons_zero, List.set_cons_succ];have k3u := (hu.block _ (heap_lt k3)).trans k3;have HB4 := Bas.hid (HB3.out.trans (hu.mono HB3.out.size));have HBG4 := Bas.hid (HBG3.out.trans (hu.mono (Nat.le_of_lt (heap_lt k3))));have cT := cell_of_heap (i := 0) kT6 rfl;have fT := free_of_heap (i := 0) kT6;have lT6 := heap_lt kT6;clear hu kT3 lT c0;have hTG : T6 ≠ GT := by have := heap_lt k3u; have := HBG3.out.size; intro e; subst e; have h := heap_lt k3; omega
     have ct := cell_of_heap (i := 0) k3u rfl;have lG := heap_lt k3u;go_wp2_with (fail);clear ct lG;have kT7 := heap_set (i := 0) kT6 (.slice S sl sl);have k7 := (Below.heap_setCell u ⟨T6, 0, none⟩ (.slice S sl sl) GT (by exact fun e => hTG e.symm)).trans k3u
     have hT6w : w.heap.size ≤ T6 := Nat.le_trans HB3.out.size hT6;have hT6g : GT ≤ T6 := by have := heap_lt k3; omega
     have HB7 := Bas.hid (HB4.out.setCell (p := ⟨T6, 0, none⟩) hT6w (.slice S sl sl));have HBG7 := Bas.hid (HBG4.out.setCell (p := ⟨T6, 0, none⟩) hT6g (.slice S sl sl));clear cT fT lT6 kT6 k3u HB4 HBG4 hT6 k3;generalize (u.setCell ⟨T6, 0, none⟩ (.slice S sl sl)) = W7 at *;have hG7 := heap_lt k7;have HKT7 := Bas.hid kT7;have HK7 := Bas.hid k7;have HENT := Bas.hid (entries_any (.pointer (some ⟨gm, 0, none⟩)) M W7 (HM.out.below (HGTE.out.symm ▸ HBG7.out)).now HOK.out);obtain ⟨n, hn⟩ : ∃ n, M.ents.length = n := ⟨_, rfl⟩;have HN := Bas.hid hn;have hn6 := HOK.out.nents;rw [hn] at HENT hn6;clear kT7 k7 hn;refine HENT.out.mono ?_;rintro e w8 ⟨hb8, v8, rfl, ho8⟩;obtain ⟨a8, c8, rfl⟩ := own_slice ho8;have HB8 := Bas.hid (HB7.out.trans (hb8.mono HB7.out.size));have HBG8 := Bas.hid (HBG7.out.trans (hb8.mono (Nat.le_of_lt hG7)));have HKT8 := Bas.hid ((hb8.block _ (heap_lt HKT7.out)).trans HKT7.out);have HK8 := Bas.hid ((hb8.block _ (heap_lt HK7.out)).trans HK7.out);have HO8 := Bas.hid ho8;clear hb8 ho8 HENT hG7 HKT7 HK7 HB7 HBG7;go_wp2_with (fail);go_loopw [7, 28] (fun v7 vi wr => ∃ i : Nat, i ≤ n ∧ vi = .int .i64 i ∧ v7 = .int .i64 ((M.ents.take i).foldl manyE 0) ∧ Below w8.heap.size w8 wr) (fun _ vi _ => n - (intOf vi).toNat)
     case atStart => exact ⟨0, Nat.zero_le _, rfl, rfl, Below.refl _ _⟩
     case round =>
      obtain ⟨i, hi, rfl, rfl, hb⟩ := hrel;have HB := Bas.hid hb;by_cases hin : i < n
      ·have e1 : decide ((i : Int) < (n : Int)) = true := by simp; omega
       obtain ⟨⟨e0, e1', e2, e3⟩, he⟩ : ∃ e, M.ents[i]? = some e := ⟨_, List.getElem?_eq_getElem (by rw [HN.out]; exact hin)⟩
       have HMT := Bas.hid (many_take M.ents i _ he);have hbd := (HOK.out.ents _ (List.mem_of_getElem? he)).2.2;obtain ⟨be', ce, hve, lbe, d0, d1, d2, d3⟩ := enC_at (Row.owned_below HO8.out hb) he;cases hve;obtain ⟨m0, hm0⟩ : ∃ m0, (M.ents.take i).foldl manyE 0 = m0 := ⟨_, rfl⟩;rw [hm0] at HMT ⊢;have kE := Bas.heap_new wr (.cells #[.int .i64 e0, .int .i64 e1', .int .i64 e2, .int .i64 e3] 162);have hb9 := (Below.refl wr.heap.size wr).alloc (Nat.le_refl _) (.cells #[.int .i64 e0, .int .i64 e1', .int .i64 e2, .int .i64 e3] 162);have HB9 := Bas.hid (hb.trans (hb9.mono hb.size));simp only at d0 d1 d2 d3 hbd;have q2 := cell_of_heap (i := 2) kE rfl;have q3 := cell_of_heap (i := 3) kE rfl;have lE := heap_lt kE;have hs9 : (wr.alloc (.cells #[.int .i64 e0, .int .i64 e1', .int .i64 e2, .int .i64 e3] 162)).heap.size = wr.heap.size + 1 := World.size_alloc _ _;have k10 := Bas.heap_new (wr.alloc (.cells #[.int .i64 e0, .int .i64 e1', .int .i64 e2, .int .i64 e3] 162)) (.cells #[.int .i64 e2, .int .i64 e3] 3);rw [hs9] at k10;have HB10 := Bas.hid (HB9.out.trans (((Below.refl _ (wr.alloc (.cells #[.int .i64 e0, .int .i64 e1', .int .i64 e2, .int .i64 e3] 162))).alloc (Nat.le_refl _) (.cells #[.int .i64 e2, .int .i64 e3] 3)).mono HB9.out.size));clear hb he hm0 hb9 kE;go_wp2_with (fail);generalize ((wr.alloc (.cells #[.int .i64 e0, .int .i64 e1', .int .i64 e2, .int .i64 e3] 162)).alloc (.cells #[.int .i64 e2, .int .i64 e3] 3)) = W10 at *;obtain ⟨G10, hG10⟩ : ∃ G10, wr.heap.size + 1 = G10 := ⟨_, rfl⟩;rw [hG10] at k10 ⊢;have HK10 := Bas.hid k10;clear hG10 hs9 q2 q3 lE d0 d1 d2 d3 lbe k10;go_loopw [7, 38] (fun v7 vi wr => ∃ j : Nat, j ≤ 2 ∧ vi = .int .i64 j ∧ v7 = .int .i64 (([e2, e3].take j).foldl manyStep m0) ∧ Below W10.heap.size W10 wr) (fun _ vi _ => 2 - (intOf vi).toNat)
       case atStart => exact ⟨0, Nat.zero_le _, rfl, rfl, Below.refl _ _⟩
       case round =>
        obtain ⟨j, hj, rfl, rfl, hbj⟩ := hrel;have HBJ := Bas.hid hbj;have kw := (hbj.block _ (heap_lt HK10.out)).trans HK10.out;by_cases hj2 : j < 2
        ·have e5 : decide ((j : Int) < 2) = true := by simp; omega
         have e5b : decide (j < 2) = true := by simp; omega
         obtain ⟨x, hx, hcx⟩ : ∃ x, [e2, e3][j]? = some x ∧ (#[Value.int .i64 e2, Value.int .i64 e3])[j]? = some (.int .i64 x) := by
          rcases (by omega : j = 0 ∨ j = 1) with rfl | rfl
          ·exact ⟨e2, rfl, rfl⟩
          ·exact ⟨e3, rfl, rfl⟩
         have hc := cell_of_heap (i := j) kw hcx;have lw := heap_lt kw;have HTJ : Hid (([e2, e3].take (j + 1)).foldl manyStep m0 = manyStep (([e2, e3].take j).foldl manyStep m0) x) := by unfold Hid; rw [List.take_add_one, hx, List.foldl_append]; rfl
         have hxb : 0 ≤ x ∧ x ≤ 65535 := by
          rcases (by omega : j = 0 ∨ j = 1) with rfl | rfl
          ·cases hx; exact hbd.1
          ·cases hx; exact hbd.2
         obtain ⟨mj, hmj⟩ : ∃ mj, ([e2, e3].take j).foldl manyStep m0 = mj := ⟨_, rfl⟩;rw [hmj] at HTJ ⊢;clear hbj kw hx hcx hmj;by_cases h5 : x = 65535
         ·have e6 : (x == 65535) = true := by simpa using h5
          have HV2 : Hid (([e2, e3].take (j + 1)).foldl manyStep m0 = mj) := by unfold Hid; rw [HTJ.out]; unfold manyStep; rw [if_pos h5]
          clear h5;go_wp2_with (fail);go_roundw
          case rel => exact ⟨j + 1, by omega, by go_num, by rw [HV2.out], HBJ.out⟩
          case measure => simp [intOf]; omega
         ·have e6 : (x == 65535) = false := by simpa using h5
          obtain ⟨mk, hmk⟩ : ∃ mk, (if mj < x + 1 then x + 1 else mj) = mk := ⟨_, rfl⟩
          have HV2 : Hid (([e2, e3].take (j + 1)).foldl manyStep m0 = mk) := by unfold Hid; rw [HTJ.out]; unfold manyStep; rw [if_neg h5]; exact hmk
          clear h5;go_wp2_with (fail);go_roundw
          case rel => exact ⟨j + 1, by omega, by go_num, by rw [HV2.out], HBJ.out⟩
          case measure => simp [intOf]; omega
        ·have e5 : decide ((j : Int) < 2) = false := by simp; omega
         have e5b : decide (j < 2) = false := by simp; omega
         have hj3 : j = 2 := by omega
         have HV3 : Hid (([e2, e3].take j).foldl manyStep m0 = manyE m0 ⟨e0, e1', e2, e3⟩) := by subst hj3; rfl
         have HBE := Bas.hid (HB10.out.trans (hbj.mono HB10.out.size));obtain ⟨mj, hmj⟩ : ∃ mj, ([e2, e3].take j).foldl manyStep m0 = mj := ⟨_, rfl⟩;rw [hmj] at HV3 ⊢;clear hbj kw hmj hj3;go_wp2_with (fail);go_roundw
         case rel => exact ⟨i + 1, by omega, by go_num, by rw [HMT.out, HV3.out], HBE.out⟩
         case measure => simp [intOf]; omega
      ·have e1 : decide ((i : Int) < (n : Int)) = false := by simp; omega
       have e1b : decide (i < n) = false := by simp; omega
       have e1c : ¬ (i : Int) < (n : Int) := by omega
       have HMO : Hid ((M.ents.take i).foldl manyE 0 = manyOf M.ents) := by unfold Hid manyOf; rw [List.take_of_length_le (by rw [HN.out]; omega)]
       rw [HMO.out];have hmb := many_bd M.ents 0 (by omega) (by omega) (fun e he => ⟨(HOK.out.ents e he).2.2.1, (HOK.out.ents e he).2.2.2⟩)
       obtain ⟨many, hmany⟩ := Int.eq_ofNat_of_zero_le hmb.1;have hmb2 := hmb.2;have hmany2 : manyOf M.ents = (many : Int) := hmany;rw [show M.ents.foldl manyE 0 = (many : Int) from hmany] at hmb2
       rw [hmany2] at HPY ⊢;rw [Int.toNat_natCast] at HPY;have HB11 := Bas.hid (HB8.out.trans (hb.mono HB8.out.size));have HBG11 := Bas.hid (HBG8.out.trans (hb.mono (Nat.le_of_lt (heap_lt HK8.out))));have HKT11 := Bas.hid ((hb.block _ (heap_lt HKT8.out)).trans HKT8.out);have HK11 := Bas.hid ((hb.block _ (heap_lt HK8.out)).trans HK8.out);clear hmb hmany hmany2 HMO hb HB8 HBG8 HKT8 HK8 HO8 HB HN;go_wp2_with (fail);generalize hwr11 : wr = W11 at *;clear hwr11;go_loopw [51] (fun vi wr => ∃ (i : Nat) (l : List (List PartD)) (us : List Value) (vs : Value), i ≤ many ∧ vi = .int .i64 i ∧ subsL (bs.drop o16) gl i = some l ∧ us.length = i ∧ wr.heap[GT]? = some (.cells #[.pointer (some ⟨gm, 0, none⟩), vs] 169 (0, 0)) ∧ wr.heap[T6]? = some (.cells #[.slice S sl sl] 52 (0, 0)) ∧ wr.ownsRow GT 172 1 vs i us ∧
        (∀ (j : Nat) (ps : List PartD) (u : Value), l[j]? = some ps → us[j]? = some u → Off (fun k => k = GT ∨ vs.ownBlock = some k) w.heap.size (fun x => LkAt x u ps) wr) ∧ Below w.heap.size w wr ∧ Below GT w2 wr) (fun vi _ => many - (intOf vi).toNat)
       case atStart => exact ⟨0, [], [], .slice none 0 0, Nat.zero_le _, rfl, rfl, rfl, HK11.out, HKT11.out, Row.owned_nil _ _ _ _, fun j ps u h => by simp at h, HB11.out, HBG11.out⟩
       case round =>
        obtain ⟨q, l, us, vs, hq, rfl, hsub, hul, hk, hkt, ho, hof, hbw, hbg⟩ := hrel;have HSUB := Bas.hid hsub;have HUL := Bas.hid hul;have HK := Bas.hid hk;have HKT := Bas.hid hkt;have HO := Bas.hid ho;have HOF := Bas.hid hof;have HBW := Bas.hid hbw;have HBG := Bas.hid hbg;obtain ⟨av, cv, rfl⟩ := own_slice ho;have ct := cell_of_heap (i := 1) hk rfl;have cq := cell_of_heap (i := 0) hkt rfl;by_cases hqm : q < many
        ·have e1 : decide ((q : Int) < (many : Int)) = true := by simp; omega
         have HNOP : Hid (subsL (bs.drop o16) gl (q + 1) = none → ctxParse bs gl = none) := fun h => by rw [HPY.out, subsL_none h many (by omega)]; rfl
         clear hsub hul hk hkt ho hof hbw hbg;go_wp2_with (fail);obtain ⟨RI, RF, Ri, RF0, RFk, RFw⟩ := Pl.fam_of wr (fun u => u.cell? ⟨GT, 1, none⟩ = some (.slice av q cv) ∧ u.cell? ⟨T6, 0, none⟩ = some (.slice S sl sl)) ⟨ct, cq⟩
         have RFH := Bas.hid RF0;have RhI : Nonempty RI := ⟨Ri⟩;have RFW := Bas.hid RFw;have z0 := fun i => (RFk i).1
         have z1 := fun i => (RFk i).2
         clear RF0 RFw RFk ct cq;refine Pl.region_plan0 Ri [(true, 0), (true, 1), (true, 2), (true, 3), (true, 4), (true, 5), (true, 6), (true, 7), (true, 8), (true, 11), (false, 9), (false, 10), (false, 12), (false, 13), (false, 14), (true, 15), (true, 16), (false, 17)] [17] (by kernel_rfl) (by kernel_rfl) (fun _ _ _ _ e h => ⟨e ▸ h.1, h.2⟩) RFH.out ?_
         refine Pl.head_sel0 [(true, 0), (true, 1), (true, 2), (true, 3), (true, 4), (true, 5), (true, 6), (true, 7), (true, 8), (true, 11)] (by kernel_rfl) (by kernel_rfl) ?_
         simp only [Pl.sel, List.drop_succ_cons, List.drop_zero];repeat (go_big_quiet_step (fail))
         refine wpQuiet_nil ?_;rw [← RFH.out];refine Pl.one_sel (by kernel_rfl) ?_
         intro Q' hQ' hP';simp only [Pl.sel, List.drop_succ_cons, List.drop_zero];go_wp2_with (fail);have HBD := Bas.hid (HBW.out.trans ((Bas.below_drewN (Below.refl wr.heap.size wr) 1).mono HBW.out.size));have HSB := Bas.hid (HBY.out);have bq := be_rng4 (fun x hx => HBY.out x (List.mem_of_mem_drop hx) : ∀ x ∈ bs.drop o16, 0 ≤ x ∧ x ≤ 255) (4 * q) 4 (by omega)
         obtain ⟨oq, hoq⟩ := Int.eq_ofNat_of_zero_le bq.1;have HOQ := Bas.hid hoq;have HSUB1 : Hid (subsL (bs.drop o16) gl (q + 1) = if 4 * q + 4 ≤ sl ∧ (oq : Int) ≤ sl then (parseLk ((bs.drop o16).drop oq) gl 2).map fun ps => l ++ [ps] else none) := by
          unfold Hid;rw [subsL, HSUB.out, Option.bind_some, hoq, HSL.out, Int.toNat_natCast]
         clear bq hoq z0 z1;by_cases f4 : 4 * q + 4 ≤ sl
         ·have hu32 : Calls Tryz.prog 50 #[.agg #[.slice S sl sl], .int .i64 (4 * (q : Int))] wr.drew fun e w'' => e = .returned (.int .i64 (oq : Nat)) ∧ Below wr.drew.heap.size wr.drew w'' := by
           have h := u32_ok S sl sl (bs.drop o16) (4 * (q : Int)) wr.drew (Nat.le_refl _) hslm (HS.out _ HBD.out) HSL.out (by omega) (by omega)
           rw [show (4 * (q : Int)).toNat = 4 * q by omega, HOQ.out] at h
           exact h
          refine hu32.mono ?_;rintro e w5 ⟨rfl, hb5⟩;have hb5' : Below wr.heap.size wr w5 := (Bas.below_drewN (Below.refl wr.heap.size wr) 1).trans hb5;have HB5 := Bas.hid hb5';have kk5 := (hb5'.block _ (heap_lt HK.out)).trans HK.out;have kt5 := (hb5'.block _ (heap_lt HKT.out)).trans HKT.out;have HK5 := Bas.hid kk5;have HKT5 := Bas.hid kt5;have HB5w := Bas.hid (HBW.out.trans (hb5'.mono HBW.out.size));clear hu32 hb5 hb5';go_wp2_with (fail);refine hQ' _ _ (fun _ _ => RFW.out _ ⟨cell_of_heap (i := 1) kk5 rfl, cell_of_heap (i := 0) kt5 rfl⟩) ?_
          clear kk5 kt5 hQ' hP' Q';refine Pl.one_sel (by kernel_rfl) ?_
          intro Q' hQ' hP';simp only [Pl.sel, List.drop_succ_cons, List.drop_zero];go_wp2_with (fail);by_cases foq : oq ≤ sl
          ·have hrest : Calls Tryz.prog 75 #[.agg #[.slice S sl sl], .int .i64 (oq : Nat)] w5 fun e w'' => e = .returned (.agg #[.slice (sub S oq (sl - oq)) (sl - oq) (sl - oq)]) ∧ Below w5.heap.size w5 w'' := by
            have h := rest_ok S sl sl (oq : Nat) w5 (Nat.le_refl _) hslm (by omega) (by omega)
            rw [Int.toNat_natCast] at h;exact h
           refine hrest.mono ?_;rintro e w6 ⟨rfl, hb6⟩;have HB6 := Bas.hid (HB5.out.trans (hb6.mono HB5.out.size));have kk6 := (hb6.block _ (heap_lt HK5.out)).trans HK5.out;have kt6 := (hb6.block _ (heap_lt HKT5.out)).trans HKT5.out;have HK6 := Bas.hid kk6;have HKT6 := Bas.hid kt6;have HB6w := Bas.hid (HB5w.out.trans (hb6.mono HB5w.out.size));clear hrest hb6 HK5 HKT5 HB5 HB5w;go_wp2_with (fail);refine hQ' _ _ (fun _ _ => RFW.out _ ⟨cell_of_heap (i := 1) kk6 rfl, cell_of_heap (i := 0) kt6 rfl⟩) ?_
           clear kk6 kt6 hQ' hP' Q';refine Pl.one_sel (by kernel_rfl) ?_
           intro Q' hQ' hP';simp only [Pl.sel, List.drop_succ_cons, List.drop_zero];go_wp2_with (fail);have hvs6 := vb_drop (HS.out _ HB6w.out) oq (by rw [HSL.out]; exact foq)
           rw [HSL.out] at hvs6;have hlkt := lkTake_any (sub S oq (sl - oq)) (sl - oq) (sl - oq) ((bs.drop o16).drop oq) gl 2 w6 (Nat.le_refl _) (by omega) hvs6 (by rw [List.length_drop, HSL.out]) (.inl rfl) hg1 hg2
           refine hlkt.mono ?_;rintro e w7 ⟨hb7, h7⟩;have HB7 := Bas.hid (HB6.out.trans (hb7.mono HB6.out.size));have HB7w := Bas.hid (HB6w.out.trans (hb7.mono HB6w.out.size));have kk7 := (hb7.block _ (heap_lt HK6.out)).trans HK6.out;have kt7 := (hb7.block _ (heap_lt HKT6.out)).trans HKT6.out;have HK7 := Bas.hid kk7;have HKT7 := Bas.hid kt7;have HSZ6 : Hid (wr.heap.size ≤ w6.heap.size) := HB6.out.size;clear hlkt hb7 HK6 HKT6 HB6 HB6w hvs6;cases hps : parseLk ((bs.drop o16).drop oq) gl 2 with
           | none =>
            rw [hps] at h7;simp only at h7;subst h7;have HNO : Hid (ctxParse bs gl = none) := HNOP.out (by rw [HSUB1.out, if_pos ⟨f4, by omega⟩, hps]; rfl)
            clear hps kk7 kt7;go_wp2_with (fail);exact ⟨rfl, HB7w.out, by rw [HNO.out]⟩
           | some ps =>
            rw [hps] at h7;simp only at h7;obtain ⟨vlk, rfl, hlive⟩ := h7;have HLIVE := Bas.hid hlive;have HSUB2 : Hid (subsL (bs.drop o16) gl (q + 1) = some (l ++ [ps])) := by unfold Hid; rw [HSUB1.out, if_pos ⟨f4, by omega⟩, hps]; rfl
            obtain ⟨lkg, hlkg⟩ : ∃ lkg, vlk = .pointer (some ⟨lkg, 0, none⟩) := by
             obtain ⟨q', _, _, _, h, _⟩ := hlive.now;exact ⟨q', h⟩
            subst hlkg;clear hps hlive;go_wp2_with (fail);refine hQ' _ _ (fun _ _ => RFW.out _ ⟨cell_of_heap (i := 1) kk7 rfl, cell_of_heap (i := 0) kt7 rfl⟩) ?_
            clear kk7 kt7 hQ' hP' Q';refine Pl.one_sel (by kernel_rfl) ?_
            intro Q' hQ' hP';simp only [Pl.sel, List.drop_succ_cons, List.drop_zero];go_wp2_with (fail);have k8 := Bas.heap_new w7 (.cells #[.pointer (some ⟨lkg, 0, none⟩)] 172);have hb8 := (Below.refl w7.heap.size w7).alloc (Nat.le_refl _) (.cells #[.pointer (some ⟨lkg, 0, none⟩)] 172);have HLD := Bas.hid (Row.leads_one w7 (.pointer (some ⟨lkg, 0, none⟩)) 172);have HB8 := Bas.hid (HB7.out.trans (hb8.mono HB7.out.size));have kk8 := (hb8.block _ (heap_lt HK7.out)).trans HK7.out;have kt8 := (hb8.block _ (heap_lt HKT7.out)).trans HKT7.out;have HK8 := Bas.hid kk8;have HKT8 := Bas.hid kt8;have HLIVE8 := Bas.hid (HLIVE.out.below hb8);clear hb8 HK7 HKT7 HLIVE;refine hQ' _ _ (fun _ _ => RFW.out _ ⟨cell_of_heap (i := 1) kk8 rfl, cell_of_heap (i := 0) kt8 rfl⟩) ?_
            clear kk8 kt8 hQ' hP' Q' k8;generalize (w7.alloc (.cells #[.pointer (some ⟨lkg, 0, none⟩)] 172)) = W8 at *;refine Pl.one_sel (by kernel_rfl) ?_
            intro Q' hQ' hP';simp only [Pl.sel, List.drop_succ_cons, List.drop_zero];have HO8 := Bas.hid (Row.owned_below HO.out HB8.out);have HGT8 : Hid (GT ≤ W8.heap.size) := Nat.le_of_lt (heap_lt HK8.out);refine Row.append_at rfl _ _ 167 172 rfl (.pointer none) 1 8 Tryz.underlying167 (by kernel_rfl) rfl (by decide) GT _ q us rfl HO8.out (.slice (some ⟨w7.heap.size, 0, none⟩) 1 1) 1 [.pointer (some ⟨lkg, 0, none⟩)] rfl HLD.out rfl (by simp; rfl) (by unfold maxLen; omega) (by omega) HGT8.out ?_
            intro v9 w9 ho9 hg9 _ hat9;obtain ⟨a9, c9, rfl⟩ := own_slice ho9;have HO9 := Bas.hid ho9;have hGr : Value.ownBlock (.slice av q cv) ≠ some GT := own_ty HO8.out HK8.out (by decide)
            have hTr : Value.ownBlock (.slice av q cv) ≠ some T6 := own_ty HO8.out HKT8.out (by decide)
            have hvlt : ∀ k, Value.ownBlock (.slice av q cv) = some k → GT ≤ k ∧ k < wr.heap.size := fun k hk => Row.own_block HO.out hk
            have kk9 := (hg9.block _ (heap_lt HK8.out) (fun e => hGr e.symm)).trans HK8.out
            have kt9 := (hg9.block _ (heap_lt HKT8.out) (fun e => hTr e.symm)).trans HKT8.out
            have HK9 := Bas.hid kk9;have HKT9 := Bas.hid kt9;have hGw : GT < wr.heap.size := heap_lt HK.out;have HB9w : Hid (Below w.heap.size w w9) := (HBW.out.trans (HB8.out.mono HBW.out.size)).grown hg9 (Nat.le_trans HBW.out.size HB8.out.size) (fun k hk => Nat.le_trans hGT (hvlt k hk).1)
            have HB9g : Hid (Below GT w2 w9) := (HBG.out.trans (HB8.out.mono (Nat.le_of_lt hGw))).grown hg9 (Nat.le_trans (Nat.le_of_lt hGw) HB8.out.size) (fun k hk => (hvlt k hk).1)
            have hS' : ∀ k, (k = GT ∨ Value.ownBlock (.slice a9 (q + 1) c9) = some k) → (k = GT ∨ Value.ownBlock (.slice av q cv) = some k) ∨ W8.heap.size ≤ k := fun k hk => by
             rcases hk with h | h
             ·exact .inl (.inl h)
             ·rcases hat9 with h9 | h9
              ·exact .inl (.inr (h9.symm.trans h))
              ·rw [h9] at h; cases h; exact .inr (Nat.le_refl _)
            have HOF9 : Hid (∀ (j : Nat) (qs : List PartD) (x : Value), (l ++ [ps])[j]? = some qs → (us ++ [.pointer (some ⟨lkg, 0, none⟩)])[j]? = some x → Off (fun k => k = GT ∨ Value.ownBlock (.slice a9 (q + 1) c9) = some k) w.heap.size (fun z => LkAt z x qs) (w9.setCell ⟨GT, 1, none⟩ (.slice a9 (q + 1) c9))) := by
             intro j qs x hj hx;have hll := subsL_len HSUB.out;have h9 : Off (fun k => k = GT ∨ Value.ownBlock (.slice a9 (q + 1) c9) = some k) w.heap.size (fun z => LkAt z x qs) w9 := by
              by_cases hjq : j < q
              ·rw [List.getElem?_append_left (by omega)] at hj
               rw [List.getElem?_append_left (by rw [HUL.out]; exact hjq)] at hx
               exact (HOF.out j qs x hj hx).grow (Nat.le_trans HB8.out.size hg9.size) (fun k _ h2 h3 => (hg9.block k (Nat.lt_of_lt_of_le h2 HB8.out.size) (fun e => h3 (.inr e.symm))).trans (HB8.out.block k h2)) (fun k hk => (hS' k hk).imp id (fun h => Nat.le_trans HB8.out.size h))
              ·rw [List.getElem?_append_right (by omega)] at hj
               rw [List.getElem?_append_right (by rw [HUL.out]; omega), HUL.out] at hx
               rw [hll] at hj;have hj0 : j - q = 0 := by
                have := (List.getElem?_eq_some_iff.1 hj).1;simp at this; omega
               rw [hj0] at hj hx;cases hj;cases hx;refine Off.grow (Off.of_lives (S := fun k => k = GT ∨ Value.ownBlock (.slice av q cv) = some k) HLIVE8.out (Nat.le_trans HBW.out.size HSZ6.out) (fun k hk => Nat.lt_of_lt_of_le (by rcases hk with rfl | hk; exact hGw; exact (hvlt k hk).2) HSZ6.out)) hg9.size (fun k _ h2 h3 => hg9.block k h2 (fun e => h3 (.inr e.symm))) hS'
             refine h9.grow (by simp [World.setCell]) (fun k _ _ h3 => Below.heap_setCell _ _ _ _ (by exact fun e => h3 (.inl e))) (fun k hk => .inl hk)
            have HW10 := Bas.hid (HB9w.out.setCell (p := ⟨GT, 1, none⟩) hGT (.slice a9 (q + 1) c9));have HG10 := Bas.hid (HB9g.out.setCell (p := ⟨GT, 1, none⟩) (Nat.le_refl _) (.slice a9 (q + 1) c9));have HK10 := Bas.hid (heap_set (i := 1) kk9 (.slice a9 (q + 1) c9));have HKT10 := Bas.hid ((Below.heap_setCell w9 ⟨GT, 1, none⟩ (.slice a9 (q + 1) c9) T6 (by exact hTG)).trans kt9)
            have hG9 := own_ty HO9.out HK9.out (by decide)
            have HO10 : Hid ((w9.setCell ⟨GT, 1, none⟩ (.slice a9 (q + 1) c9)).ownsRow GT 172 1 (.slice a9 (q + 1) c9) (q + 1) (us ++ [.pointer (some ⟨lkg, 0, none⟩)])) :=
             Row.owned_keep HO9.out fun k hk => Below.heap_setCell _ _ _ _ (fun e => by have e' : k = GT := e; subst e'; exact hG9 hk)
            have HUL10 : Hid ((us ++ [Value.pointer (some ⟨lkg, 0, none⟩)]).length = q + 1) := by unfold Hid; rw [List.length_append, HUL.out]; rfl
            clear ho9 hg9 hat9 hGr hTr hvlt hGw hS' hG9 HLIVE8 HOF;go_wp2_with (fail);refine hQ' _ _ (fun _ _ => RFW.out _ ⟨cell_of_heap (i := 1) kk9 rfl, cell_of_heap (i := 0) kt9 rfl⟩) ?_
            clear hQ' hP' Q' RFW RFH;refine Pl.head_sel0 [(true, 15), (true, 16)] (by kernel_rfl) (by kernel_rfl) ?_
            simp only [Pl.sel, List.drop_succ_cons, List.drop_zero];repeat (go_big_quiet_step (fail))
            refine wpQuiet_nil ?_;refine Pl.tail_sel [(false, 17)] (by kernel_rfl) (by kernel_rfl) ?_
            simp only [Pl.sel, List.drop_succ_cons, List.drop_zero];have c1 := cell_of_heap (i := 1) kk9 rfl;have f1 := free_of_heap (i := 1) kk9;have l9 := heap_lt kk9;clear kk9 kt9;go_wp2_with (fail);go_roundw
            case rel => exact ⟨q + 1, l ++ [ps], us ++ [.pointer (some ⟨lkg, 0, none⟩)], _, by omega, by go_num, HSUB2.out, HUL10.out, HK10.out, HKT10.out, HO10.out, HOF9.out, HW10.out, HG10.out⟩
            case measure => simp [intOf]; omega
          ·have HNO : Hid (ctxParse bs gl = none) := HNOP.out (by rw [HSUB1.out, if_neg (fun h => foq (by omega))])
           refine (rest_no S sl sl (oq : Nat) w5 (Nat.le_refl _) hslm (by omega)).mono ?_
           rintro e w6 ⟨rfl, hb6⟩;have HB6w := Bas.hid (HB5w.out.trans (hb6.mono HB5w.out.size));clear hb6;go_wp2_with (fail);exact ⟨rfl, HB6w.out, by rw [HNO.out]⟩
         ·have HNO : Hid (ctxParse bs gl = none) := HNOP.out (by rw [HSUB1.out, if_neg (fun h => f4 h.1)])
          refine (u32_no S sl sl (4 * (q : Int)) _ (Nat.le_refl _) hslm (by omega)).mono ?_
          rintro e w6 ⟨rfl, hb6⟩;have HB6w := Bas.hid (HBD.out.trans (hb6.mono HBD.out.size));clear hb6;go_wp2_with (fail);exact ⟨rfl, HB6w.out, by rw [HNO.out]⟩
        ·have e1 : decide ((q : Int) < (many : Int)) = false := by simp; omega
         have e1b : decide (q < many) = false := by simp; omega
         have e1c : ¬ (q : Int) < (many : Int) := by omega
         have hqe : q = many := by omega
         have HPF : Hid (ctxParse bs gl = some ⟨M, l⟩) := by unfold Hid; rw [HPY.out, ← hqe, HSUB.out]; rfl
         have HLL := Bas.hid (subsL_len hsub);have HFIN : Hid (Lives w.heap.size (fun u => CtxAt u (.pointer (some ⟨GT, 0, none⟩)) ⟨M, l⟩) wr) := fun u hu =>
          ⟨GT, gm, _, us, rfl, lives_heap HK.out hGT u hu, (HM.out.below (HGTE.out.symm ▸ HBG.out)) u hu, HUL.out.trans HLL.out.symm, by
           have h := Row.leads_owned (lives_own HO.out hGT u hu);have hq : q = l.length := HLL.out.symm;subst hq;exact h, fun j ps x hj hx => (HOF.out j ps x hj hx).lives u hu⟩
         clear hsub hul hk hkt ho hof hbw hbg hqe ct cq;go_wp2_with (fail);go_ret;exact ⟨HBW.out, by rw [HPF.out]; exact ⟨_, rfl, HFIN.out⟩⟩
   ·have HNO : Hid (ctxParse bs gl = none) := by unfold Hid; rw [HPARSE.out, if_neg (fun h => g16 (by omega))]
    refine' Pl.region_vh 73 [] [0, 1, 2] [(4, 6)] 3 21 [5] _ (fun ch w' => ch = short ∧ Below w.heap.size w w') (by kernel_rfl) (by kernel_rfl) (by kernel_rfl) (by simp) (fun _ _ _ _ e h => ⟨e ▸ h.1, h.2⟩) ?_ ?_ ?_ ?_
    rotate_left
    ·intro I F hI hF;simp only [Pl.selN, List.nil_append, List.drop_succ_cons, List.drop_zero];have z0 := fun i => hF.cell lT c0 i
     repeat (go_big_quiet_step ((go_at_call 50; with_reducible exact hF.call (HU.out _ (HB3.out.trans ((hF.bel _).mono HB3.out.size))))))
     refine wpQuiet_nil ?_;rfl
    ·simp only [Pl.selN, List.drop_succ_cons, List.drop_zero, List.mem_singleton, forall_eq];intro u hu
     go_simp
     simp only [Pl.valsAt];refine (rest_no a len cap (o16 : Nat) u hl hc (by omega)).mono ?_
     rintro e w'' ⟨he, hb⟩;exact .inr ⟨short, he, rfl, HB3.out.trans ((hu.trans (hb.mono hu.size)).mono HB3.out.size)⟩
    ·intro x hx;simp only [List.mem_singleton] at hx;subst hx;simp only [Pl.selN, List.drop_succ_cons, List.drop_zero, List.mem_singleton, forall_eq];intro u hu
     go_simp
     simp only [Pl.valsAt];exact (Below.refl _ _).alloc (Nat.le_refl _) _
    ·rintro c a' u hd ⟨rfl, hb⟩;exact ⟨hd, hb, by rw [HNO.out]⟩
  ·have HNO : Hid (ctxParse bs gl = none) := by unfold Hid; rw [HPARSE.out, if_neg (fun h => f20 h.1)]
   refine' Pl.region_vh 73 [] [0, 1] [(4, 6)] 2 20 [3, 5] _ (fun ch w' => ch = short ∧ Below w.heap.size w w') (by kernel_rfl) (by kernel_rfl) (by kernel_rfl) (by simp) (fun _ _ _ _ e h => ⟨e ▸ h.1, h.2⟩) ?_ ?_ ?_ ?_
   rotate_left
   ·intro I F hI hF;simp only [Pl.selN, List.nil_append, List.drop_succ_cons, List.drop_zero];have z0 := fun i => hF.cell lT c0 i
    repeat (go_big_quiet_step (fail))
    refine wpQuiet_nil ?_;rfl
   ·simp only [Pl.selN, List.drop_succ_cons, List.drop_zero, List.mem_singleton, forall_eq];intro u hu
    go_simp
    simp only [Pl.valsAt];refine (u32_no a len cap 16 u hl hc (by omega)).mono ?_
    rintro e w'' ⟨he, hb⟩;exact .inr ⟨short, he, rfl, HB3.out.trans ((hu.trans (hb.mono hu.size)).mono HB3.out.size)⟩
   ·intro x hx;simp only [List.mem_singleton] at hx;subst hx;simp only [Pl.selN, List.drop_succ_cons, List.drop_zero, List.mem_singleton, forall_eq];intro u hu
    go_simp
    simp only [Pl.valsAt];exact (Below.refl _ _).alloc (Nat.le_refl _) _
   ·rintro c a' u hd ⟨rfl, hb⟩;exact ⟨hd, hb, by rw [HNO.out]⟩
end Cx
namespace In
open Vw Ch Lk St Ln Dr
structure InsD where
 m : MachD
 list : List Int
def hereOf (e : EntD) : Int := if e.a = 65535 then 0 else e.flags / 32 % 32
def markOf (e : EntD) : Int := if e.b = 65535 then 0 else e.flags % 32
def entOk (n : Nat) (e : EntD) : Prop := (hereOf e = 0 ∨ 2 * e.a + 2 * hereOf e ≤ n) ∧ (markOf e = 0 ∨ 2 * e.b + 2 * markOf e ≤ n)
instance (n : Nat) (e : EntD) : Decidable (entOk n e) := by unfold entOk; infer_instance
def insParse (bs : List Int) (gl : Nat) : Option InsD := (parseSt bs gl 2).bind fun M =>
 if 20 ≤ bs.length ∧ be bs 16 4 ≤ bs.length then
  if ∀ e ∈ M.ents, entOk (bs.drop (be bs 16 4).toNat).length e then some ⟨M, bs.drop (be bs 16 4).toNat⟩ else none
 else none
theorem here_bd {e : EntD} (_h0 : 0 ≤ e.flags) : (0 ≤ hereOf e ∧ hereOf e ≤ 31) ∧ 0 ≤ markOf e ∧ markOf e ≤ 31 := by
 unfold hereOf markOf;constructor <;> split <;> omega
structure InsOk (T : InsD) : Prop where
 m : MachOk T.m
 ents : ∀ e ∈ T.m.ents, entOk T.list.length e
 byte : ∀ x ∈ T.list, 0 ≤ x ∧ x ≤ 255
theorem ins_ok {bs : List Int} (hb : ∀ x ∈ bs, 0 ≤ x ∧ x ≤ 255) {gl : Nat} (h1 : 1 ≤ gl) (h2 : gl ≤ 65536) {T : InsD} (h : insParse bs gl = some T) : InsOk T := by
 unfold insParse at h;cases hM : parseSt bs gl 2 with
 | none => rw [hM] at h; cases h
 | some M =>
  rw [hM] at h;simp only [Option.bind_some] at h;split at h
  ·split at h
   ·rename_i he
    cases h;exact ⟨parseSt_ok hb h1 h2 hM, he, fun x hx => hb x (List.mem_of_mem_drop hx)⟩
   ·cases h
  ·cases h
def InsAt (w : World) (v : Value) (T : InsD) : Prop :=
 ∃ g gm S len cap, v = .pointer (some ⟨g, 0, none⟩) ∧ w.heap[g]? = some (.cells #[.pointer (some ⟨gm, 0, none⟩), .slice S len cap] 187 (0, 0)) ∧ MachAt w (.pointer (some ⟨gm, 0, none⟩)) T.m ∧ VB w S T.list ∧ T.list.length = len ∧ len ≤ cap ∧ cap ≤ maxLen
theorem InsAt.below {w w' : World} {v : Value} {T : InsD} (h : InsAt w v T) (hb : Below w.heap.size w w') : InsAt w' v T := by
 obtain ⟨g, gm, S, len, cap, h1, h2, h3, h4, h5, h6, h7⟩ := h;exact ⟨g, gm, S, len, cap, h1, (hb.block _ (heap_lt h2)).trans h2, h3.below hb, h4.below hb, h5, h6, h7⟩
def InsTakeP (w : World) (a : Option Addr) (bs : List Int) (gl : Nat) (e : Ending) (w' : World) : Prop :=
 Below w.heap.size w w' ∧ match insParse bs gl with
  | none => e = .panicked short
  | some T => ∃ v, e = .returned v ∧ Lives w.heap.size (fun u => VB u a bs → InsAt u v T) w'
theorem all_take_step {es : List EntD} {n i : Nat} {e : EntD} (he : es[i]? = some e) (h : ∀ x ∈ es.take i, entOk n x) (h1 : entOk n e) : ∀ x ∈ es.take (i + 1), entOk n x := by
 intro x hx;rw [List.take_add_one, he] at hx;rcases List.mem_append.1 hx with hx | hx
 ·exact h x hx
 ·simp at hx; subst hx; exact h1
theorem i64_shr5 (x : Int) (h0 : 0 ≤ x) (h1 : x ≤ 65535) : bits .and .i64 (x / 32) 31 = x / 32 % 32 := i64_low (x / 32) 5 (by omega) (by omega) (by omega)
set_option maxHeartbeats 4000000 in
theorem counts_any (e0 fl e2 e3 : Int) (w : World) (h0 : 0 ≤ fl) (h1 : fl ≤ 65535) :
  Calls Tryz.prog 92 #[.agg #[.int .i64 e0, .int .i64 fl, .int .i64 e2, .int .i64 e3]] w fun e w' => e = .returned (.tuple #[.int .i64 (hereOf ⟨e0, fl, e2, e3⟩), .int .i64 (markOf ⟨e0, fl, e2, e3⟩)]) ∧ Below w.heap.size w w' := by
 have HB := Bas.hid ((Below.refl w.heap.size w).alloc (Nat.le_refl _) (.cells #[.int .i64 e0, .int .i64 fl, .int .i64 e2, .int .i64 e3] 162));have k := Bas.heap_new w (.cells #[.int .i64 e0, .int .i64 fl, .int .i64 e2, .int .i64 e3] 162);have c1 := cell_of_heap (i := 1) k rfl;have c2 := cell_of_heap (i := 2) k rfl;have c3 := cell_of_heap (i := 3) k rfl;have lk := heap_lt k;have q1 := i64_shr5 fl h0 h1;have q2 : bits .and .i64 fl 31 = fl % 32 := i64_low fl 5 (by omega) h0 h1
 clear k;obtain ⟨H, hH⟩ : ∃ H, hereOf ⟨e0, fl, e2, e3⟩ = H := ⟨_, rfl⟩;obtain ⟨K, hK⟩ : ∃ K, markOf ⟨e0, fl, e2, e3⟩ = K := ⟨_, rfl⟩;rw [hH, hK];unfold hereOf at hH;unfold markOf at hK;simp only at hH hK;by_cases z1 : e2 = 65535
 ·have g1 : (e2 == 65535) = true := by simpa using z1
  rw [if_pos z1] at hH;clear z1;by_cases z2 : e3 = 65535
  ·have g2 : (e3 == 65535) = true := by simpa using z2
   rw [if_pos z2] at hK;clear z2;subst hH hK;go_enter Tryz.func92, Tryz.ntmps92
   go_wp2_with (fail)
   go_ret2
   exact ⟨rfl, HB.out⟩
  ·have g2 : (e3 == 65535) = false := by simpa using z2
   rw [if_neg z2] at hK;clear z2;subst hH hK;go_enter Tryz.func92, Tryz.ntmps92
   go_wp2_with (fail)
   go_ret2
   exact ⟨rfl, HB.out⟩
 ·have g1 : (e2 == 65535) = false := by simpa using z1
  rw [if_neg z1] at hH;clear z1;by_cases z2 : e3 = 65535
  ·have g2 : (e3 == 65535) = true := by simpa using z2
   rw [if_pos z2] at hK;clear z2;subst hH hK;go_enter Tryz.func92, Tryz.ntmps92
   go_wp2_with (fail)
   go_ret2
   exact ⟨rfl, HB.out⟩
  ·have g2 : (e3 == 65535) = false := by simpa using z2
   rw [if_neg z2] at hK;clear z2;subst hH hK;go_enter Tryz.func92, Tryz.ntmps92
   go_wp2_with (fail)
   go_ret2
   exact ⟨rfl, HB.out⟩
end In
namespace In
open Vw Ch Lk St Ln Dr Cx
set_option maxRecDepth 100000 in
set_option maxHeartbeats 16000000 in
theorem insTake_any (a : Option Addr) (len cap : Nat) (bs : List Int) (gl : Nat) (w : World) (hl : len ≤ cap) (hc : cap ≤ maxLen) (hv : VB w a bs) (hbl : bs.length = len) (hg1 : 1 ≤ gl) (hg2 : gl ≤ 65536) :
  Calls Tryz.prog 63 #[.agg #[.slice a len cap], .int .i64 gl] w (InsTakeP w a bs gl) := by
 have k1 := Bas.heap_new w (.cells #[.slice a len cap] 52);have hb1 := (Below.refl w.heap.size w).alloc (Nat.le_refl _) (.cells #[.slice a len cap] 52);have HB1 := Bas.hid hb1;have HV := Bas.hid (fun (w' : World) (hb : Below w.heap.size w w') => hv.below hb)
 have hbyte := hv.byte;have b16 := be_rng4 hv.byte 16 4 (by omega)
 obtain ⟨o16, ho16⟩ := Int.eq_ofNat_of_zero_le b16.1;have HO16 := Bas.hid ho16;have HBY := Bas.hid hbyte;have HK1 := Bas.hid k1;have c0 := cell_of_heap (i := 0) k1 rfl;clear hb1 hv b16 ho16 hbyte k1;go_enter Tryz.func63, Tryz.ntmps63
 go_wp2_with (fail);generalize w.alloc (.cells #[.slice a len cap] 52) = W1 at *;obtain ⟨T2, hT2⟩ : ∃ T2, w.heap.size = T2 := ⟨_, rfl⟩;rw [hT2] at c0 HK1 ⊢;have HT2 := Bas.hid hT2;clear hT2;obtain ⟨RI, RF, Ri, RF0, RFk, RFw⟩ := Pl.fam_of W1 (fun u => u.cell? ⟨T2, 0, none⟩ = some (.slice a len cap)) c0
 have RFH := Bas.hid RF0;have RhI : Nonempty RI := ⟨Ri⟩;have RFW := Bas.hid RFw;have z0 := fun i => RFk i
 clear RF0 RFw RFk c0;refine Pl.region_plan0 Ri [(true, 0), (true, 1), (true, 3), (true, 4), (false, 2), (false, 5), (false, 6), (true, 7), (false, 8), (true, 9)] [8] (by kernel_rfl) (by kernel_rfl) (fun _ _ _ _ e h => ⟨e ▸ h.1, h.2⟩) RFH.out ?_
 refine Pl.head_sel0 [(true, 0), (true, 1), (true, 3), (true, 4)] (by kernel_rfl) (by kernel_rfl) ?_
 simp only [Pl.sel, List.drop_succ_cons, List.drop_zero];repeat (go_big_quiet_step (fail))
 refine wpQuiet_nil ?_;rw [← RFH.out];clear z0;refine Pl.one_sel (by kernel_rfl) ?_
 intro Q' hQ' hP';simp only [Pl.sel, List.drop_succ_cons, List.drop_zero];go_wp2_with (fail);have hbd : Below W1.heap.size W1 W1.drew := Bas.below_drewN (Below.refl W1.heap.size W1) 1;have hbd2 : Below w.heap.size w W1.drew := HB1.out.trans (hbd.mono HB1.out.size);refine (stTake_any a len cap bs gl 2 W1.drew hl hc (HV.out _ hbd2) hbl (by omega) hg1 hg2).mono ?_
 rintro e w2 ⟨hb2, h2⟩;have HB2' := Bas.hid (hbd.trans hb2);have HB2 := Bas.hid (hbd2.trans (hb2.mono hbd2.size));have kT := (HB2'.out.block _ (heap_lt HK1.out)).trans HK1.out;have HKT := Bas.hid kT;clear hb2 hbd;cases hp : parseSt bs gl 2 with
 | none =>
  rw [hp] at h2;simp only at h2;subst h2;have HNO : Hid (insParse bs gl = none) := by unfold Hid insParse; rw [hp]; rfl
  clear hp kT;go_wp2_with (fail);exact ⟨rfl, HB2.out, by rw [HNO.out]⟩
 | some M =>
  rw [hp] at h2;simp only at h2;obtain ⟨v, rfl, hm⟩ := h2;have hv2 : ∃ gm, v = .pointer (some ⟨gm, 0, none⟩) := by
   obtain ⟨gm, _, _, _, _, h, _⟩ := hm.now;exact ⟨gm, h⟩
  obtain ⟨gm, rfl⟩ := hv2;have HM := Bas.hid (hm.mono hbd2.size);have HP := Bas.hid hp;have HOK := Bas.hid (parseSt_ok HBY.out hg1 hg2 hp);have HPARSE : Hid (insParse bs gl = if 20 ≤ len ∧ (o16 : Int) ≤ len then if ∀ e ∈ M.ents, entOk (bs.drop o16).length e then some ⟨M, bs.drop o16⟩ else none else none) := by
   unfold Hid insParse; rw [hp, Option.bind_some, HO16.out, hbl, Int.toNat_natCast]
  clear hm hp hbd2;go_wp2_with (fail);refine hQ' _ _ (fun _ _ => RFW.out _ (cell_of_heap (i := 0) kT rfl)) ?_
  clear kT hQ' hP' Q';refine Pl.one_sel (by kernel_rfl) ?_
  intro Q' hQ' hP';simp only [Pl.sel, List.drop_succ_cons, List.drop_zero];go_wp2_with (fail);by_cases f20 : 20 ≤ len
  case neg =>
   have HNO : Hid (insParse bs gl = none) := by unfold Hid; rw [HPARSE.out, if_neg (fun h => f20 h.1)]
   refine (u32_no a len cap 16 w2 hl hc (by omega)).mono ?_
   rintro e w3 ⟨rfl, hb3⟩;have HB3 := Bas.hid (HB2.out.trans (hb3.mono HB2.out.size));clear hb3;go_wp2_with (fail);exact ⟨rfl, HB3.out, by rw [HNO.out]⟩
  have hu32 : Calls Tryz.prog 50 #[.agg #[.slice a len cap], .int .i64 16] w2 fun e w'' => e = .returned (.int .i64 (o16 : Nat)) ∧ Below w2.heap.size w2 w'' := by
   have h := u32_ok a len cap bs 16 w2 hl hc (HV.out _ HB2.out) hbl (by omega) (by omega)
   rw [show ((16 : Int)).toNat = 16 by rfl, HO16.out] at h
   exact h
  refine hu32.mono ?_;rintro e w3 ⟨rfl, hb3⟩;have HB3 := Bas.hid (HB2.out.trans (hb3.mono HB2.out.size));have HBm3 := Bas.hid hb3;have kT3 := (hb3.block _ (heap_lt HKT.out)).trans HKT.out;have HKT3 := Bas.hid kT3;clear hu32 hb3 HKT;go_wp2_with (fail);refine hQ' _ _ (fun _ _ => RFW.out _ (cell_of_heap (i := 0) kT3 rfl)) ?_
  clear kT3 hQ' hP' Q';refine Pl.one_sel (by kernel_rfl) ?_
  intro Q' hQ' hP';simp only [Pl.sel, List.drop_succ_cons, List.drop_zero];go_wp2_with (fail);by_cases g16 : o16 ≤ len
  case neg =>
   have HNO : Hid (insParse bs gl = none) := by unfold Hid; rw [HPARSE.out, if_neg (fun h => g16 (by omega))]
   refine (rest_no a len cap (o16 : Nat) w3 hl hc (by omega)).mono ?_
   rintro e w4 ⟨rfl, hb4⟩;have HB4 := Bas.hid (HB3.out.trans (hb4.mono HB3.out.size));clear hb4;go_wp2_with (fail);exact ⟨rfl, HB4.out, by rw [HNO.out]⟩
  have hrest : Calls Tryz.prog 75 #[.agg #[.slice a len cap], .int .i64 (o16 : Nat)] w3 fun e w'' => e = .returned (.agg #[.slice (sub a o16 (len - o16)) (len - o16) (len - o16)]) ∧ Below w3.heap.size w3 w'' := by
   have h := rest_ok a len cap (o16 : Nat) w3 hl hc (by omega) (by omega)
   rw [Int.toNat_natCast] at h;exact h
  have HS := Bas.hid (fun (u : World) (hu : VB u a bs) => (by
   have h := vb_drop hu o16 (by omega)
   rw [hbl] at h;exact h : VB u (sub a o16 (len - o16)) (bs.drop o16)))
  have HPY : Hid (insParse bs gl = if ∀ e ∈ M.ents, entOk (bs.drop o16).length e then some ⟨M, bs.drop o16⟩ else none) := by unfold Hid; rw [HPARSE.out, if_pos ⟨f20, by omega⟩]
  generalize sub a o16 (len - o16) = S at *;obtain ⟨sl, hsl⟩ : ∃ sl, len - o16 = sl := ⟨_, rfl⟩;rw [hsl] at hrest;have HSL : Hid ((bs.drop o16).length = sl) := by unfold Hid; rw [List.length_drop, hbl]; exact hsl
  have hslm : sl ≤ maxLen := by omega
  clear hsl;refine hrest.mono ?_;rintro e w4 ⟨rfl, hb4⟩;have HB4 := Bas.hid (HB3.out.trans (hb4.mono HB3.out.size));have HM4 := Bas.hid (HM.out.below (HBm3.out.trans (hb4.mono HBm3.out.size)));have kT4 := (hb4.block _ (heap_lt HKT3.out)).trans HKT3.out;clear hrest hb4 HKT3 HBm3 HM HB3;go_wp2_with (fail);refine hQ' _ _ (fun _ _ => RFW.out _ (cell_of_heap (i := 0) kT4 rfl)) ?_
  clear kT4 hQ' hP' Q' RFW RFH;refine Pl.head_sel0 [(true, 7)] (by kernel_rfl) (by kernel_rfl) ?_
  simp only [Pl.sel, List.drop_succ_cons, List.drop_zero];repeat (go_big_quiet_step (fail))
  refine wpQuiet_nil ?_;refine Pl.one_sel (by kernel_rfl) ?_
  intro Q' hQ' hP';simp only [Pl.sel, List.drop_succ_cons, List.drop_zero];go_wp2_with (fail);refine hQ' _ _ (fun hn => absurd (List.mem_singleton.2 rfl) hn) ?_
  clear hQ' hP' Q';refine Pl.head_sel0 (rest := []) [(true, 9)] (by kernel_rfl) (by kernel_rfl) ?_
  simp only [Pl.sel, List.drop_succ_cons, List.drop_zero];repeat (go_big_quiet_step (fail))
  refine wpQuiet_nil ?_;simp only [Pl.walkM];have k5 := Bas.heap_new w4 (.cells #[.pointer (some ⟨gm, 0, none⟩), .slice S sl sl] 187);have hb5 := (Below.refl w4.heap.size w4).alloc (Nat.le_refl _) (.cells #[.pointer (some ⟨gm, 0, none⟩), .slice S sl sl] 187);have HB5 := Bas.hid (HB4.out.trans (hb5.mono HB4.out.size));have HM5 := Bas.hid (HM4.out.below hb5);have hGw : w.heap.size ≤ w4.heap.size := HB4.out.size;have HGW := Bas.hid hGw;clear hb5 HM4 HB4 RhI Ri hGw;generalize w4.alloc (.cells #[.pointer (some ⟨gm, 0, none⟩), .slice S sl sl] 187) = W5 at *;obtain ⟨GT, hGT⟩ : ∃ GT, w4.heap.size = GT := ⟨_, rfl⟩;rw [hGT] at k5 HGW ⊢;clear hGT;have HK5 := Bas.hid k5;have HENT := Bas.hid (entries_any (.pointer (some ⟨gm, 0, none⟩)) M W5 HM5.out.now HOK.out);obtain ⟨n, hn⟩ : ∃ n, M.ents.length = n := ⟨_, rfl⟩;have HN := Bas.hid hn;have hn6 := HOK.out.nents;rw [hn] at HENT hn6;have ct := cell_of_heap (i := 0) k5 rfl;have lG := heap_lt k5;clear k5 hn;go_wp2_with (fail);refine HENT.out.mono ?_;rintro e w6 ⟨hb6, v6, rfl, ho6⟩;obtain ⟨a6, c6, rfl⟩ := own_slice ho6;have HB6 := Bas.hid hb6;have HO6 := Bas.hid ho6;clear hb6 ho6 HENT ct lG;go_wp2_with (fail);go_loopw [25] (fun vi wr => ∃ i : Nat, i ≤ n ∧ vi = .int .i64 i ∧ Below w6.heap.size w6 wr ∧ ∀ x ∈ M.ents.take i, entOk sl x) (fun vi _ => n - (intOf vi).toNat)
  case atStart => exact ⟨0, Nat.zero_le _, rfl, Below.refl _ _, fun x hx => by simp at hx⟩
  case round =>
   obtain ⟨i, hi, rfl, hb, hall⟩ := hrel;have HB := Bas.hid hb;have HALL := Bas.hid hall;have hB5w : Below W5.heap.size W5 wr := HB6.out.trans (hb.mono HB6.out.size);have hBw : Below w.heap.size w wr := HB5.out.trans (hB5w.mono HB5.out.size);have kG := (hB5w.block _ (heap_lt HK5.out)).trans HK5.out;have HB5W := Bas.hid hB5w;have HBW := Bas.hid hBw;have HKG := Bas.hid kG;by_cases hin : i < n
   ·have e1 : decide ((i : Int) < (n : Int)) = true := by simp; omega
    obtain ⟨⟨e0, fl, e2, e3⟩, he⟩ : ∃ e, M.ents[i]? = some e := ⟨_, List.getElem?_eq_getElem (by rw [HN.out]; exact hin)⟩
    have hmem := List.mem_of_getElem? he;obtain ⟨_, ⟨hf0, hf1⟩, ⟨ha0, ha1⟩, hb0, hb1⟩ := HOK.out.ents _ hmem;simp only at hf0 hf1 ha0 ha1 hb0 hb1;obtain ⟨⟨hh0, hh1⟩, hm0, hm1⟩ := here_bd (e := ⟨e0, fl, e2, e3⟩) hf0;have HSTEP := Bas.hid (fun (h : entOk sl ⟨e0, fl, e2, e3⟩) => all_take_step he HALL.out h)
    have HNO : Hid (¬ entOk sl ⟨e0, fl, e2, e3⟩ → insParse bs gl = none) := fun h => by
     rw [HPY.out, if_neg];intro hx;have := hx _ hmem;rw [HSL.out] at this;exact h this
    obtain ⟨be', ce, hve, lbe, d0, d1, d2, d3⟩ := enC_at (Row.owned_below HO6.out hb) he;cases hve;have HCT := Bas.hid (fun w => counts_any e0 fl e2 e3 w hf0 hf1)
    obtain ⟨H, hH⟩ : ∃ H, hereOf ⟨e0, fl, e2, e3⟩ = H := ⟨_, rfl⟩;obtain ⟨K, hK⟩ : ∃ K, markOf ⟨e0, fl, e2, e3⟩ = K := ⟨_, rfl⟩;have HEO : Hid (entOk sl ⟨e0, fl, e2, e3⟩ ↔ ((H = 0 ∨ 2 * e2 + 2 * H ≤ sl) ∧ (K = 0 ∨ 2 * e3 + 2 * K ≤ sl))) := by unfold Hid entOk; rw [hH, hK]
    rw [hH] at hh0 hh1 HCT;rw [hK] at hm0 hm1 HCT;have kE := Bas.heap_new wr (.cells #[.int .i64 e0, .int .i64 fl, .int .i64 e2, .int .i64 e3] 162);have hb9 := (Below.refl wr.heap.size wr).alloc (Nat.le_refl _) (.cells #[.int .i64 e0, .int .i64 fl, .int .i64 e2, .int .i64 e3] 162);have HB9 := Bas.hid hb9;have q0 := cell_of_heap (i := 0) kE rfl;have q1 := cell_of_heap (i := 1) kE rfl;have q2 := cell_of_heap (i := 2) kE rfl;have q3 := cell_of_heap (i := 3) kE rfl;have lE := heap_lt kE;have HKE := Bas.hid kE;simp only at d0 d1 d2 d3;clear hb hall he hmem hB5w hBw kG hb9 kE hH hK;go_wp2_with (fail);generalize (wr.alloc (.cells #[.int .i64 e0, .int .i64 fl, .int .i64 e2, .int .i64 e3] 162)) = W9 at *;refine (HCT.out W9).mono ?_;rintro e w10 ⟨rfl, hb10⟩;have hbr : Below wr.heap.size wr w10 := HB9.out.trans (hb10.mono HB9.out.size);have HBR := Bas.hid hbr;have kE10 := (hb10.block _ (heap_lt HKE.out)).trans HKE.out;have kG10 := (hbr.block _ (heap_lt HKG.out)).trans HKG.out;have HKG10 := Bas.hid kG10;have HKE10 := Bas.hid kE10;clear hb10 hbr q0 q1 q2 q3 lE d0 d1 d2 d3 lbe HCT;by_cases zH : H = 0
    ·have eH : decide (0 < H) = false := by simp; omega
     have ct := cell_of_heap (i := 1) HKG10.out rfl;have cE2 := cell_of_heap (i := 2) HKE10.out rfl;have cE3 := cell_of_heap (i := 3) HKE10.out rfl;have lG := heap_lt HKG10.out;have lE := heap_lt HKE10.out;by_cases zK : K = 0
     ·have eK : decide (0 < K) = false := by simp; omega
      have hstep := Bas.hid (HSTEP.out (HEO.out.2 ⟨.inl zH, .inl zK⟩));clear zK;go_wp2_with (fail);go_roundw
      case rel => exact ⟨i + 1, by omega, by go_num, HB.out.trans (HBR.out.mono HB.out.size), hstep.out⟩
      case measure => simp [intOf]; omega
     ·have eK : decide (0 < K) = true := by simp; omega
      by_cases fK : 2 * e3 + 2 * K ≤ sl
      ·have hstep := Bas.hid (HSTEP.out (HEO.out.2 ⟨.inl zH, .inr fK⟩));have hrow : rowsB sl (2 * e3) K 2 := ⟨by omega, by omega, .inr (by omega), by omega, by omega⟩
       have HR := Bas.hid (fun (w' : World) => rows_ok S sl sl (2 * e3) K 2 w' (Nat.le_refl _) hslm hrow)
       clear hrow;go_wp2_with (fail);refine' Pl.region_v0 58 [] [0, 1, 2, 3, 4, 5, 6, 7, 8] [] _ (by kernel_rfl) (by kernel_rfl) (by simp) (fun _ _ _ _ e h => ⟨e ▸ h.1, h.2⟩) ?_ ?_
       rotate_left
       ·intro I F hI hF;simp only [Pl.selN, List.nil_append, List.drop_succ_cons, List.drop_zero];have y0 := fun i => hF.cell lG ct i
        have y1 := fun i => hF.cell lE cE3 i
        repeat (go_big_quiet_step ((go_at_call 74; with_reducible exact hF.call (HR.out _))))
        refine wpQuiet_nil ?_;rfl
       intro u2 hu2;simp only [Pl.selN];have HB2' := Bas.hid (HBR.out.trans (hu2.mono HBR.out.size));clear hu2 ct cE2 cE3 lG lE;go_wp2_with (fail);go_roundw
       case rel => exact ⟨i + 1, by omega, by go_num, HB.out.trans (HB2'.out.mono HB.out.size), hstep.out⟩
       case measure => simp [intOf]; omega
      ·have hrow : ¬ rowsB sl (2 * e3) K 2 := fun h => by obtain ⟨_, _, _, _, h5⟩ := h; omega
       have HNN : Hid (insParse bs gl = none) := HNO.out (fun h => by have := (HEO.out.1 h).2; omega)
       go_wp2_with (fail);refine' Pl.region_vh 58 [] [0, 1, 2, 3, 4, 5, 6, 7] [] 8 55 [] _ (fun ch w' => ch = short ∧ Below w.heap.size w w') (by kernel_rfl) (by kernel_rfl) (by kernel_rfl) (by simp) (fun _ _ _ _ e h => ⟨e ▸ h.1, h.2⟩) ?_ ?_ ?_ ?_
       rotate_left
       ·intro I F hI hF;simp only [Pl.selN, List.nil_append, List.drop_succ_cons, List.drop_zero];have y0 := fun i => hF.cell lG ct i
        have y1 := fun i => hF.cell lE cE3 i
        repeat (go_big_quiet_step (fail))
        refine wpQuiet_nil ?_;rfl
       ·simp only [Pl.selN, List.drop_succ_cons, List.drop_zero, List.mem_singleton, forall_eq];intro u hu
        go_simp
        simp only [Pl.valsAt];refine (rows_no S sl sl (2 * e3) K 2 u (Nat.le_refl _) hslm hrow).mono ?_;rintro e w'' ⟨he, hb⟩;have hw := HBW.out.trans (HBR.out.mono HBW.out.size);exact .inr ⟨short, he, rfl, hw.trans ((hu.trans (hb.mono hu.size)).mono hw.size)⟩
       ·intro x hx; cases hx
       ·rintro c a' u hd ⟨rfl, hb⟩;exact ⟨hd, hb, by rw [HNN.out]⟩
    ·have eH : decide (0 < H) = true := by simp; omega
     by_cases fH : 2 * e2 + 2 * H ≤ sl
     ·have ct := cell_of_heap (i := 1) HKG10.out rfl;have cE2 := cell_of_heap (i := 2) HKE10.out rfl;have cE3 := cell_of_heap (i := 3) HKE10.out rfl;have lG := heap_lt HKG10.out;have lE := heap_lt HKE10.out;have hrow : rowsB sl (2 * e2) H 2 := ⟨by omega, by omega, .inr (by omega), by omega, by omega⟩
      have HR := Bas.hid (fun (w' : World) => rows_ok S sl sl (2 * e2) H 2 w' (Nat.le_refl _) hslm hrow)
      clear hrow;go_wp2_with (fail);refine' Pl.region_v0 58 [] [0, 1, 2, 3, 4, 5, 6, 7, 8] [] _ (by kernel_rfl) (by kernel_rfl) (by simp) (fun _ _ _ _ e h => ⟨e ▸ h.1, h.2⟩) ?_ ?_
      rotate_left
      ·intro I F hI hF;simp only [Pl.selN, List.nil_append, List.drop_succ_cons, List.drop_zero];have y0 := fun i => hF.cell lG ct i
       have y1 := fun i => hF.cell lE cE2 i
       repeat (go_big_quiet_step ((go_at_call 74; with_reducible exact hF.call (HR.out _))))
       refine wpQuiet_nil ?_;rfl
      intro u1 hu1;simp only [Pl.selN];have HBR1 := Bas.hid (HBR.out.trans (hu1.mono HBR.out.size));have HKG11 := Bas.hid ((hu1.block _ (heap_lt HKG10.out)).trans HKG10.out);have HKE11 := Bas.hid ((hu1.block _ (heap_lt HKE10.out)).trans HKE10.out);clear hu1 ct cE2 cE3 lG lE;have ct := cell_of_heap (i := 1) HKG11.out rfl;have cE2 := cell_of_heap (i := 2) HKE11.out rfl;have cE3 := cell_of_heap (i := 3) HKE11.out rfl;have lG := heap_lt HKG11.out;have lE := heap_lt HKE11.out;by_cases zK : K = 0
      ·have eK : decide (0 < K) = false := by simp; omega
       have hstep := Bas.hid (HSTEP.out (HEO.out.2 ⟨.inr fH, .inl zK⟩));clear zK;go_wp2_with (fail);go_roundw
       case rel => exact ⟨i + 1, by omega, by go_num, HB.out.trans (HBR1.out.mono HB.out.size), hstep.out⟩
       case measure => simp [intOf]; omega
      ·have eK : decide (0 < K) = true := by simp; omega
       by_cases fK : 2 * e3 + 2 * K ≤ sl
       ·have hstep := Bas.hid (HSTEP.out (HEO.out.2 ⟨.inr fH, .inr fK⟩));have hrow : rowsB sl (2 * e3) K 2 := ⟨by omega, by omega, .inr (by omega), by omega, by omega⟩
        have HR := Bas.hid (fun (w' : World) => rows_ok S sl sl (2 * e3) K 2 w' (Nat.le_refl _) hslm hrow)
        clear hrow;go_wp2_with (fail);refine' Pl.region_v0 58 [] [0, 1, 2, 3, 4, 5, 6, 7, 8] [] _ (by kernel_rfl) (by kernel_rfl) (by simp) (fun _ _ _ _ e h => ⟨e ▸ h.1, h.2⟩) ?_ ?_
        rotate_left
        ·intro I F hI hF;simp only [Pl.selN, List.nil_append, List.drop_succ_cons, List.drop_zero];have y0 := fun i => hF.cell lG ct i
         have y1 := fun i => hF.cell lE cE3 i
         repeat (go_big_quiet_step ((go_at_call 74; with_reducible exact hF.call (HR.out _))))
         refine wpQuiet_nil ?_;rfl
        intro u2 hu2;simp only [Pl.selN];have HB2' := Bas.hid (HBR1.out.trans (hu2.mono HBR1.out.size));clear hu2 ct cE2 cE3 lG lE;go_wp2_with (fail);go_roundw
        case rel => exact ⟨i + 1, by omega, by go_num, HB.out.trans (HB2'.out.mono HB.out.size), hstep.out⟩
        case measure => simp [intOf]; omega
       ·have hrow : ¬ rowsB sl (2 * e3) K 2 := fun h => by obtain ⟨_, _, _, _, h5⟩ := h; omega
        have HNN : Hid (insParse bs gl = none) := HNO.out (fun h => by have := (HEO.out.1 h).2; omega)
        go_wp2_with (fail);refine' Pl.region_vh 58 [] [0, 1, 2, 3, 4, 5, 6, 7] [] 8 55 [] _ (fun ch w' => ch = short ∧ Below w.heap.size w w') (by kernel_rfl) (by kernel_rfl) (by kernel_rfl) (by simp) (fun _ _ _ _ e h => ⟨e ▸ h.1, h.2⟩) ?_ ?_ ?_ ?_
        rotate_left
        ·intro I F hI hF;simp only [Pl.selN, List.nil_append, List.drop_succ_cons, List.drop_zero];have y0 := fun i => hF.cell lG ct i
         have y1 := fun i => hF.cell lE cE3 i
         repeat (go_big_quiet_step (fail))
         refine wpQuiet_nil ?_;rfl
        ·simp only [Pl.selN, List.drop_succ_cons, List.drop_zero, List.mem_singleton, forall_eq];intro u hu
         go_simp
         simp only [Pl.valsAt];refine (rows_no S sl sl (2 * e3) K 2 u (Nat.le_refl _) hslm hrow).mono ?_;rintro e w'' ⟨he, hb⟩;have hw := HBW.out.trans (HBR1.out.mono HBW.out.size);exact .inr ⟨short, he, rfl, hw.trans ((hu.trans (hb.mono hu.size)).mono hw.size)⟩
        ·intro x hx; cases hx
        ·rintro c a' u hd ⟨rfl, hb⟩;exact ⟨hd, hb, by rw [HNN.out]⟩
     ·have ct := cell_of_heap (i := 1) HKG10.out rfl;have cE2 := cell_of_heap (i := 2) HKE10.out rfl;have cE3 := cell_of_heap (i := 3) HKE10.out rfl;have lG := heap_lt HKG10.out;have lE := heap_lt HKE10.out;have hrow : ¬ rowsB sl (2 * e2) H 2 := fun h => by obtain ⟨_, _, _, _, h5⟩ := h; omega
      have HNN : Hid (insParse bs gl = none) := HNO.out (fun h => by have := (HEO.out.1 h).1; omega)
      go_wp2_with (fail);refine' Pl.region_vh 58 [] [0, 1, 2, 3, 4, 5, 6, 7] [] 8 44 [] _ (fun ch w' => ch = short ∧ Below w.heap.size w w') (by kernel_rfl) (by kernel_rfl) (by kernel_rfl) (by simp) (fun _ _ _ _ e h => ⟨e ▸ h.1, h.2⟩) ?_ ?_ ?_ ?_
      rotate_left
      ·intro I F hI hF;simp only [Pl.selN, List.nil_append, List.drop_succ_cons, List.drop_zero];have y0 := fun i => hF.cell lG ct i
       have y1 := fun i => hF.cell lE cE2 i
       repeat (go_big_quiet_step (fail))
       refine wpQuiet_nil ?_;rfl
      ·simp only [Pl.selN, List.drop_succ_cons, List.drop_zero, List.mem_singleton, forall_eq];intro u hu
       go_simp
       simp only [Pl.valsAt];refine (rows_no S sl sl (2 * e2) H 2 u (Nat.le_refl _) hslm hrow).mono ?_;rintro e w'' ⟨he, hb⟩;have hw := HBW.out.trans (HBR.out.mono HBW.out.size);exact .inr ⟨short, he, rfl, hw.trans ((hu.trans (hb.mono hu.size)).mono hw.size)⟩
      ·intro x hx; cases hx
      ·rintro c a' u hd ⟨rfl, hb⟩;exact ⟨hd, hb, by rw [HNN.out]⟩
   ·have e1 : decide ((i : Int) < (n : Int)) = false := by simp; omega
    have e1b : decide (i < n) = false := by simp; omega
    have e1c : ¬ (i : Int) < (n : Int) := by omega
    have HPF : Hid (insParse bs gl = some ⟨M, bs.drop o16⟩) := by
     unfold Hid;rw [HPY.out, if_pos];rw [HSL.out];rw [List.take_of_length_le (by rw [HN.out]; omega)] at hall
     exact hall
    have HFIN : Hid (Lives w.heap.size (fun u => VB u a bs → InsAt u (.pointer (some ⟨GT, 0, none⟩)) ⟨M, bs.drop o16⟩) wr) := fun u hu hvu =>
     ⟨GT, gm, S, sl, sl, rfl, lives_heap HKG.out HGW.out u hu, (HM5.out.below HB5W.out) u hu, HS.out u hvu, HSL.out, Nat.le_refl _, hslm⟩
    clear hb hall hB5w hBw kG;go_wp2_with (fail);go_ret;exact ⟨HBW.out, by rw [HPF.out]; exact ⟨_, rfl, HFIN.out⟩⟩
end In
namespace Dr
theorem flag_32 (x : Int) (k : Nat) (m : Int) (hm : m = ((2 ^ k : Nat) : Int)) (hk : k < 32) (h0 : 0 ≤ x) (h1 : x ≤ 4294967295) : bits .and .i64 x m = if x / m % 2 = 1 then m else 0 := by
 subst hm;obtain ⟨n, rfl⟩ := Int.eq_ofNat_of_zero_le h0;have hp : 2 ^ k < 2 ^ 32 := Nat.pow_lt_pow_right (by omega) hk
 rw [i64_and_nat n (2 ^ k) (by omega) (by omega), nat_bit k n]
 have h2 : n / 2 ^ k % 2 = 0 ∨ n / 2 ^ k % 2 = 1 := by omega
 have e : ((n : Int) / ((2 ^ k : Nat) : Int)) % 2 = ((n / 2 ^ k % 2 : Nat) : Int) := by simp
 rw [e];rcases h2 with h | h <;> rw [h] <;> simp
end Dr
namespace Lg
open Vw Ch Lk St Ln Dr
structure LigD where
 m : MachD
 act : List Int
 comp : List Int
 lig : List Int
def lastA (act : List Int) (k : Nat) : Prop := be act (4 * k) 4 / 2147483648 % 2 = 1
instance (act : List Int) (k : Nat) : Decidable (lastA act k) := by unfold lastA; infer_instance
def endsL (act : List Int) : Nat → Nat → Bool
 | 0, _ => false
 | f + 1, k => if 4 * k + 4 ≤ act.length then if lastA act k then true else endsL act f (k + 1) else false
def ligEntOk (act : List Int) (e : EntD) : Prop := e.flags / 8192 % 2 = 1 → endsL act (act.length + 1) e.a.toNat = true
instance (act : List Int) (e : EntD) : Decidable (ligEntOk act e) := by unfold ligEntOk; infer_instance
def ligParse (bs : List Int) (gl : Nat) : Option LigD := (parseSt bs gl 1).bind fun M =>
 if 28 ≤ bs.length ∧ be bs 16 4 ≤ bs.length ∧ be bs 20 4 ≤ bs.length ∧ be bs 24 4 ≤ bs.length then
  if ∀ e ∈ M.ents, ligEntOk (bs.drop (be bs 16 4).toNat) e then some ⟨M, bs.drop (be bs 16 4).toNat, bs.drop (be bs 20 4).toNat, bs.drop (be bs 24 4).toNat⟩ else none
 else none
structure LigOk (T : LigD) : Prop where
 m : MachOk T.m
 ents : ∀ e ∈ T.m.ents, ligEntOk T.act e
 bact : ∀ x ∈ T.act, 0 ≤ x ∧ x ≤ 255
 bcomp : ∀ x ∈ T.comp, 0 ≤ x ∧ x ≤ 255
 blig : ∀ x ∈ T.lig, 0 ≤ x ∧ x ≤ 255
theorem lig_ok {bs : List Int} (hb : ∀ x ∈ bs, 0 ≤ x ∧ x ≤ 255) {gl : Nat} (h1 : 1 ≤ gl) (h2 : gl ≤ 65536) {T : LigD} (h : ligParse bs gl = some T) : LigOk T := by
 unfold ligParse at h;cases hM : parseSt bs gl 1 with
 | none => rw [hM] at h; cases h
 | some M =>
  rw [hM] at h;simp only [Option.bind_some] at h;split at h
  ·split at h
   ·rename_i he
    cases h;exact ⟨parseSt_ok hb h1 h2 hM, he, fun x hx => hb x (List.mem_of_mem_drop hx), fun x hx => hb x (List.mem_of_mem_drop hx), fun x hx => hb x (List.mem_of_mem_drop hx)⟩
   ·cases h
  ·cases h
def LigAt (w : World) (v : Value) (T : LigD) : Prop :=
 ∃ g gm S1 l1 S2 l2 S3 l3, v = .pointer (some ⟨g, 0, none⟩) ∧ w.heap[g]? = some (.cells #[.pointer (some ⟨gm, 0, none⟩), .slice S1 l1 l1, .slice S2 l2 l2, .slice S3 l3 l3] 176 (0, 0)) ∧ MachAt w (.pointer (some ⟨gm, 0, none⟩)) T.m ∧
  (VB w S1 T.act ∧ T.act.length = l1 ∧ l1 ≤ maxLen) ∧ (VB w S2 T.comp ∧ T.comp.length = l2 ∧ l2 ≤ maxLen) ∧ VB w S3 T.lig ∧ T.lig.length = l3 ∧ l3 ≤ maxLen
theorem LigAt.below {w w' : World} {v : Value} {T : LigD} (h : LigAt w v T) (hb : Below w.heap.size w w') : LigAt w' v T := by
 obtain ⟨g, gm, S1, l1, S2, l2, S3, l3, h1, h2, h3, ⟨a1, a2, a3⟩, ⟨b1, b2, b3⟩, c1, c2, c3⟩ := h;exact ⟨g, gm, S1, l1, S2, l2, S3, l3, h1, (hb.block _ (heap_lt h2)).trans h2, h3.below hb, ⟨a1.below hb, a2, a3⟩, ⟨b1.below hb, b2, b3⟩, c1.below hb, c2, c3⟩
def LigTakeP (w : World) (a : Option Addr) (bs : List Int) (gl : Nat) (e : Ending) (w' : World) : Prop :=
 Below w.heap.size w w' ∧ match ligParse bs gl with
  | none => e = .panicked short
  | some T => ∃ v, e = .returned v ∧ Lives w.heap.size (fun u => VB u a bs → LigAt u v T) w'
theorem lig_take_step {es : List EntD} {act : List Int} {i : Nat} {e : EntD} (he : es[i]? = some e) (h : ∀ x ∈ es.take i, ligEntOk act x) (h1 : ligEntOk act e) : ∀ x ∈ es.take (i + 1), ligEntOk act x := by
 intro x hx;rw [List.take_add_one, he] at hx;rcases List.mem_append.1 hx with hx | hx
 ·exact h x hx
 ·simp at hx; subst hx; exact h1
end Lg
namespace Lg
open Vw Ch Lk St Ln Dr Cx In
set_option maxRecDepth 100000 in
set_option maxHeartbeats 16000000 in
theorem ligTake_any (a : Option Addr) (len cap : Nat) (bs : List Int) (gl : Nat) (w : World) (hl : len ≤ cap) (hc : cap ≤ maxLen) (hv : VB w a bs) (hbl : bs.length = len) (hg1 : 1 ≤ gl) (hg2 : gl ≤ 65536) :
  Calls Tryz.prog 59 #[.agg #[.slice a len cap], .int .i64 gl] w (LigTakeP w a bs gl) := by
 have k1 := Bas.heap_new w (.cells #[.slice a len cap] 52);have hb1 := (Below.refl w.heap.size w).alloc (Nat.le_refl _) (.cells #[.slice a len cap] 52);have HB1 := Bas.hid hb1;have HV := Bas.hid (fun (w' : World) (hb : Below w.heap.size w w') => hv.below hb)
 have hbyte := hv.byte;have b16 := be_rng4 hv.byte 16 4 (by omega)
 obtain ⟨o16, ho16⟩ := Int.eq_ofNat_of_zero_le b16.1;have HO16 := Bas.hid ho16;have b20 := be_rng4 hv.byte 20 4 (by omega)
 obtain ⟨o20, ho20⟩ := Int.eq_ofNat_of_zero_le b20.1;have HO20 := Bas.hid ho20;have b24 := be_rng4 hv.byte 24 4 (by omega)
 obtain ⟨o24, ho24⟩ := Int.eq_ofNat_of_zero_le b24.1;have HO24 := Bas.hid ho24;have HBY := Bas.hid hbyte;have HK1 := Bas.hid k1;have c0 := cell_of_heap (i := 0) k1 rfl;clear hb1 hv b16 ho16 b20 ho20 b24 ho24 hbyte k1;go_enter Tryz.func59, Tryz.ntmps59
 go_wp2_with (fail);generalize w.alloc (.cells #[.slice a len cap] 52) = W1 at *;obtain ⟨T2, hT2⟩ : ∃ T2, w.heap.size = T2 := ⟨_, rfl⟩;rw [hT2] at c0 HK1 ⊢;have HT2 := Bas.hid hT2;clear hT2;obtain ⟨RI, RF, Ri, RF0, RFk, RFw⟩ := Pl.fam_of W1 (fun u => u.cell? ⟨T2, 0, none⟩ = some (.slice a len cap)) c0
 have RFH := Bas.hid RF0;have RhI : Nonempty RI := ⟨Ri⟩;have RFW := Bas.hid RFw;have z0 := fun i => RFk i
 clear RF0 RFw RFk c0;refine Pl.region_plan0 Ri [(true, 0), (true, 1), (true, 3), (true, 4), (true, 7), (true, 8), (true, 11), (true, 12), (false, 2), (false, 5), (false, 6), (false, 9), (false, 10), (false, 13), (false, 14), (true, 15), (false, 16), (true, 17)] [16] (by kernel_rfl) (by kernel_rfl) (fun _ _ _ _ e h => ⟨e ▸ h.1, h.2⟩) RFH.out ?_
 refine Pl.head_sel0 [(true, 0), (true, 1), (true, 3), (true, 4), (true, 7), (true, 8), (true, 11), (true, 12)] (by kernel_rfl) (by kernel_rfl) ?_
 simp only [Pl.sel, List.drop_succ_cons, List.drop_zero];repeat (go_big_quiet_step (fail))
 refine wpQuiet_nil ?_;rw [← RFH.out];clear z0;refine Pl.one_sel (by kernel_rfl) ?_
 intro Q' hQ' hP';simp only [Pl.sel, List.drop_succ_cons, List.drop_zero];go_wp2_with (fail);have hbd : Below W1.heap.size W1 W1.drew := Bas.below_drewN (Below.refl W1.heap.size W1) 1;have hbd2 : Below w.heap.size w W1.drew := HB1.out.trans (hbd.mono HB1.out.size);refine (stTake_any a len cap bs gl 1 W1.drew hl hc (HV.out _ hbd2) hbl (by omega) hg1 hg2).mono ?_
 rintro e w2 ⟨hb2, h2⟩;have HB2' := Bas.hid (hbd.trans hb2);have HB2 := Bas.hid (hbd2.trans (hb2.mono hbd2.size));have kT := (HB2'.out.block _ (heap_lt HK1.out)).trans HK1.out;have HKT := Bas.hid kT;clear hb2 hbd;cases hp : parseSt bs gl 1 with
 | none =>
  rw [hp] at h2;simp only at h2;subst h2;have HNO : Hid (ligParse bs gl = none) := by unfold Hid ligParse; rw [hp]; rfl
  clear hp kT;go_wp2_with (fail);exact ⟨rfl, HB2.out, by rw [HNO.out]⟩
 | some M =>
  rw [hp] at h2;simp only at h2;obtain ⟨v, rfl, hm⟩ := h2;have hv2 : ∃ gm, v = .pointer (some ⟨gm, 0, none⟩) := by
   obtain ⟨gm, _, _, _, _, h, _⟩ := hm.now;exact ⟨gm, h⟩
  obtain ⟨gm, rfl⟩ := hv2;have HM := Bas.hid (hm.mono hbd2.size);have HP := Bas.hid hp;have HOK := Bas.hid (parseSt_ok HBY.out hg1 hg2 hp);have HPARSE : Hid (ligParse bs gl = if 28 ≤ len ∧ (o16 : Int) ≤ len ∧ (o20 : Int) ≤ len ∧ (o24 : Int) ≤ len then if ∀ e ∈ M.ents, ligEntOk (bs.drop o16) e then some ⟨M, bs.drop o16, bs.drop o20, bs.drop o24⟩ else none else none) := by
   unfold Hid ligParse; rw [hp, Option.bind_some, HO16.out, HO20.out, HO24.out, hbl, Int.toNat_natCast, Int.toNat_natCast, Int.toNat_natCast]
  clear hm hp hbd2;go_wp2_with (fail);refine hQ' _ _ (fun _ _ => RFW.out _ (cell_of_heap (i := 0) kT rfl)) ?_
  clear kT hQ' hP' Q';refine Pl.one_sel (by kernel_rfl) ?_
  intro Q' hQ' hP';simp only [Pl.sel, List.drop_succ_cons, List.drop_zero];go_wp2_with (fail);have HM2 := Bas.hid HM.out;have HKT2 := Bas.hid HKT.out;clear HM HKT;by_cases f16 : 20 ≤ len
  case neg =>
   have HNO : Hid (ligParse bs gl = none) := by unfold Hid; rw [HPARSE.out, if_neg (fun h => f16 (by omega))]
   refine (u32_no a len cap 16 w2 hl hc (by omega)).mono ?_
   rintro e w' ⟨rfl, hb3⟩;have HBN := Bas.hid (HB2.out.trans (hb3.mono HB2.out.size));clear hb3;go_wp2_with (fail);exact ⟨rfl, HBN.out, by rw [HNO.out]⟩
  have hu32 : Calls Tryz.prog 50 #[.agg #[.slice a len cap], .int .i64 16] w2 fun e w'' => e = .returned (.int .i64 (o16 : Nat)) ∧ Below w2.heap.size w2 w'' := by
   have h := u32_ok a len cap bs 16 w2 hl hc (HV.out _ HB2.out) hbl (by omega) (by omega)
   rw [show ((16 : Int)).toNat = 16 by rfl, HO16.out] at h
   exact h
  refine hu32.mono ?_;rintro e w3 ⟨rfl, hb3⟩;have HB3 := Bas.hid (HB2.out.trans (hb3.mono HB2.out.size));have HM3 := Bas.hid (HM2.out.below hb3);have kT3 := (hb3.block _ (heap_lt HKT2.out)).trans HKT2.out;have HKT3 := Bas.hid kT3;clear hu32 hb3 HKT2 HM2 HB2;go_wp2_with (fail);refine hQ' _ _ (fun _ _ => RFW.out _ (cell_of_heap (i := 0) kT3 rfl)) ?_
  clear kT3 hQ' hP' Q';refine Pl.one_sel (by kernel_rfl) ?_
  intro Q' hQ' hP';simp only [Pl.sel, List.drop_succ_cons, List.drop_zero];go_wp2_with (fail);by_cases g16 : o16 ≤ len
  case neg =>
   have HNO : Hid (ligParse bs gl = none) := by unfold Hid; rw [HPARSE.out, if_neg (fun h => g16 (by omega))]
   refine (rest_no a len cap (o16 : Nat) w3 hl hc (by omega)).mono ?_
   rintro e w' ⟨rfl, hb4⟩;have HBN := Bas.hid (HB3.out.trans (hb4.mono HB3.out.size));clear hb4;go_wp2_with (fail);exact ⟨rfl, HBN.out, by rw [HNO.out]⟩
  have hrest : Calls Tryz.prog 75 #[.agg #[.slice a len cap], .int .i64 (o16 : Nat)] w3 fun e w'' => e = .returned (.agg #[.slice (sub a o16 (len - o16)) (len - o16) (len - o16)]) ∧ Below w3.heap.size w3 w'' := by
   have h := rest_ok a len cap (o16 : Nat) w3 hl hc (by omega) (by omega)
   rw [Int.toNat_natCast] at h;exact h
  have HS16 := Bas.hid (fun (u : World) (hu : VB u a bs) => (by
   have h := vb_drop hu o16 (by omega)
   rw [hbl] at h;exact h : VB u (sub a o16 (len - o16)) (bs.drop o16)))
  generalize sub a o16 (len - o16) = S16 at *;obtain ⟨l16, hsl16⟩ : ∃ l16, len - o16 = l16 := ⟨_, rfl⟩;rw [hsl16] at hrest;have HSL16 : Hid ((bs.drop o16).length = l16) := by unfold Hid; rw [List.length_drop, hbl]; exact hsl16
  have hslm16 : l16 ≤ maxLen := by omega
  clear hsl16;refine hrest.mono ?_;rintro e w4 ⟨rfl, hb4⟩;have HB4 := Bas.hid (HB3.out.trans (hb4.mono HB3.out.size));have HM4 := Bas.hid (HM3.out.below hb4);have kT4 := (hb4.block _ (heap_lt HKT3.out)).trans HKT3.out;have HKT4 := Bas.hid kT4;clear hrest hb4 HKT3 HM3 HB3;go_wp2_with (fail);refine hQ' _ _ (fun _ _ => RFW.out _ (cell_of_heap (i := 0) kT4 rfl)) ?_
  clear kT4 hQ' hP' Q';refine Pl.one_sel (by kernel_rfl) ?_
  intro Q' hQ' hP';simp only [Pl.sel, List.drop_succ_cons, List.drop_zero];go_wp2_with (fail);by_cases f20 : 24 ≤ len
  case neg =>
   have HNO : Hid (ligParse bs gl = none) := by unfold Hid; rw [HPARSE.out, if_neg (fun h => f20 (by omega))]
   refine (u32_no a len cap 20 w4 hl hc (by omega)).mono ?_
   rintro e w' ⟨rfl, hb3⟩;have HBN := Bas.hid (HB4.out.trans (hb3.mono HB4.out.size));clear hb3;go_wp2_with (fail);exact ⟨rfl, HBN.out, by rw [HNO.out]⟩
  have hu32 : Calls Tryz.prog 50 #[.agg #[.slice a len cap], .int .i64 20] w4 fun e w'' => e = .returned (.int .i64 (o20 : Nat)) ∧ Below w4.heap.size w4 w'' := by
   have h := u32_ok a len cap bs 20 w4 hl hc (HV.out _ HB4.out) hbl (by omega) (by omega)
   rw [show ((20 : Int)).toNat = 20 by rfl, HO20.out] at h
   exact h
  refine hu32.mono ?_;rintro e w5 ⟨rfl, hb3⟩;have HB5 := Bas.hid (HB4.out.trans (hb3.mono HB4.out.size));have HM5 := Bas.hid (HM4.out.below hb3);have kT3 := (hb3.block _ (heap_lt HKT4.out)).trans HKT4.out;have HKT5 := Bas.hid kT3;clear hu32 hb3 HKT4 HM4 HB4;go_wp2_with (fail);refine hQ' _ _ (fun _ _ => RFW.out _ (cell_of_heap (i := 0) kT3 rfl)) ?_
  clear kT3 hQ' hP' Q';refine Pl.one_sel (by kernel_rfl) ?_
  intro Q' hQ' hP';simp only [Pl.sel, List.drop_succ_cons, List.drop_zero];go_wp2_with (fail);by_cases g20 : o20 ≤ len
  case neg =>
   have HNO : Hid (ligParse bs gl = none) := by unfold Hid; rw [HPARSE.out, if_neg (fun h => g20 (by omega))]
   refine (rest_no a len cap (o20 : Nat) w5 hl hc (by omega)).mono ?_
   rintro e w' ⟨rfl, hb4⟩;have HBN := Bas.hid (HB5.out.trans (hb4.mono HB5.out.size));clear hb4;go_wp2_with (fail);exact ⟨rfl, HBN.out, by rw [HNO.out]⟩
  have hrest : Calls Tryz.prog 75 #[.agg #[.slice a len cap], .int .i64 (o20 : Nat)] w5 fun e w'' => e = .returned (.agg #[.slice (sub a o20 (len - o20)) (len - o20) (len - o20)]) ∧ Below w5.heap.size w5 w'' := by
   have h := rest_ok a len cap (o20 : Nat) w5 hl hc (by omega) (by omega)
   rw [Int.toNat_natCast] at h;exact h
  have HS20 := Bas.hid (fun (u : World) (hu : VB u a bs) => (by
   have h := vb_drop hu o20 (by omega)
   rw [hbl] at h;exact h : VB u (sub a o20 (len - o20)) (bs.drop o20)))
  generalize sub a o20 (len - o20) = S20 at *;obtain ⟨l20, hsl20⟩ : ∃ l20, len - o20 = l20 := ⟨_, rfl⟩;rw [hsl20] at hrest;have HSL20 : Hid ((bs.drop o20).length = l20) := by unfold Hid; rw [List.length_drop, hbl]; exact hsl20
  have hslm20 : l20 ≤ maxLen := by omega
  clear hsl20;refine hrest.mono ?_;rintro e w6 ⟨rfl, hb4⟩;have HB6 := Bas.hid (HB5.out.trans (hb4.mono HB5.out.size));have HM6 := Bas.hid (HM5.out.below hb4);have kT4 := (hb4.block _ (heap_lt HKT5.out)).trans HKT5.out;have HKT6 := Bas.hid kT4;clear hrest hb4 HKT5 HM5 HB5;go_wp2_with (fail);refine hQ' _ _ (fun _ _ => RFW.out _ (cell_of_heap (i := 0) kT4 rfl)) ?_
  clear kT4 hQ' hP' Q';refine Pl.one_sel (by kernel_rfl) ?_
  intro Q' hQ' hP';simp only [Pl.sel, List.drop_succ_cons, List.drop_zero];go_wp2_with (fail);by_cases f24 : 28 ≤ len
  case neg =>
   have HNO : Hid (ligParse bs gl = none) := by unfold Hid; rw [HPARSE.out, if_neg (fun h => f24 (by omega))]
   refine (u32_no a len cap 24 w6 hl hc (by omega)).mono ?_
   rintro e w' ⟨rfl, hb3⟩;have HBN := Bas.hid (HB6.out.trans (hb3.mono HB6.out.size));clear hb3;go_wp2_with (fail);exact ⟨rfl, HBN.out, by rw [HNO.out]⟩
  have hu32 : Calls Tryz.prog 50 #[.agg #[.slice a len cap], .int .i64 24] w6 fun e w'' => e = .returned (.int .i64 (o24 : Nat)) ∧ Below w6.heap.size w6 w'' := by
   have h := u32_ok a len cap bs 24 w6 hl hc (HV.out _ HB6.out) hbl (by omega) (by omega)
   rw [show ((24 : Int)).toNat = 24 by rfl, HO24.out] at h
   exact h
  refine hu32.mono ?_;rintro e w7 ⟨rfl, hb3⟩;have HB7 := Bas.hid (HB6.out.trans (hb3.mono HB6.out.size));have HM7 := Bas.hid (HM6.out.below hb3);have kT3 := (hb3.block _ (heap_lt HKT6.out)).trans HKT6.out;have HKT7 := Bas.hid kT3;clear hu32 hb3 HKT6 HM6 HB6;go_wp2_with (fail);refine hQ' _ _ (fun _ _ => RFW.out _ (cell_of_heap (i := 0) kT3 rfl)) ?_
  clear kT3 hQ' hP' Q';refine Pl.one_sel (by kernel_rfl) ?_
  intro Q' hQ' hP';simp only [Pl.sel, List.drop_succ_cons, List.drop_zero];go_wp2_with (fail);by_cases g24 : o24 ≤ len
  case neg =>
   have HNO : Hid (ligParse bs gl = none) := by unfold Hid; rw [HPARSE.out, if_neg (fun h => g24 (by omega))]
   refine (rest_no a len cap (o24 : Nat) w7 hl hc (by omega)).mono ?_
   rintro e w' ⟨rfl, hb4⟩;have HBN := Bas.hid (HB7.out.trans (hb4.mono HB7.out.size));clear hb4;go_wp2_with (fail);exact ⟨rfl, HBN.out, by rw [HNO.out]⟩
  have hrest : Calls Tryz.prog 75 #[.agg #[.slice a len cap], .int .i64 (o24 : Nat)] w7 fun e w'' => e = .returned (.agg #[.slice (sub a o24 (len - o24)) (len - o24) (len - o24)]) ∧ Below w7.heap.size w7 w'' := by
   have h := rest_ok a len cap (o24 : Nat) w7 hl hc (by omega) (by omega)
   rw [Int.toNat_natCast] at h;exact h
  have HS24 := Bas.hid (fun (u : World) (hu : VB u a bs) => (by
   have h := vb_drop hu o24 (by omega)
   rw [hbl] at h;exact h : VB u (sub a o24 (len - o24)) (bs.drop o24)))
  generalize sub a o24 (len - o24) = S24 at *;obtain ⟨l24, hsl24⟩ : ∃ l24, len - o24 = l24 := ⟨_, rfl⟩;rw [hsl24] at hrest;have HSL24 : Hid ((bs.drop o24).length = l24) := by unfold Hid; rw [List.length_drop, hbl]; exact hsl24
  have hslm24 : l24 ≤ maxLen := by omega
  clear hsl24;refine hrest.mono ?_;rintro e w8 ⟨rfl, hb4⟩;have HB8 := Bas.hid (HB7.out.trans (hb4.mono HB7.out.size));have HM8 := Bas.hid (HM7.out.below hb4);have kT4 := (hb4.block _ (heap_lt HKT7.out)).trans HKT7.out;have HKT8 := Bas.hid kT4;clear hrest hb4 HKT7 HM7 HB7;go_wp2_with (fail);refine hQ' _ _ (fun _ _ => RFW.out _ (cell_of_heap (i := 0) kT4 rfl)) ?_
  clear kT4 hQ' hP' Q';clear RFW RFH;refine Pl.head_sel0 [(true, 15)] (by kernel_rfl) (by kernel_rfl) ?_
  simp only [Pl.sel, List.drop_succ_cons, List.drop_zero];repeat (go_big_quiet_step (fail))
  refine wpQuiet_nil ?_;refine Pl.one_sel (by kernel_rfl) ?_
  intro Q' hQ' hP';simp only [Pl.sel, List.drop_succ_cons, List.drop_zero];go_wp2_with (fail);refine hQ' _ _ (fun hn => absurd (List.mem_singleton.2 rfl) hn) ?_
  clear hQ' hP' Q';refine Pl.head_sel0 (rest := []) [(true, 17)] (by kernel_rfl) (by kernel_rfl) ?_
  simp only [Pl.sel, List.drop_succ_cons, List.drop_zero];repeat (go_big_quiet_step (fail))
  refine wpQuiet_nil ?_;simp only [Pl.walkM];have HPY : Hid (ligParse bs gl = if ∀ e ∈ M.ents, ligEntOk (bs.drop o16) e then some ⟨M, bs.drop o16, bs.drop o20, bs.drop o24⟩ else none) := by unfold Hid; rw [HPARSE.out, if_pos ⟨f24, by omega, by omega, by omega⟩]
  have k5 := Bas.heap_new w8 (.cells #[.pointer (some ⟨gm, 0, none⟩), .slice S16 l16 l16, .slice S20 l20 l20, .slice S24 l24 l24] 176);have hb5 := (Below.refl w8.heap.size w8).alloc (Nat.le_refl _) (.cells #[.pointer (some ⟨gm, 0, none⟩), .slice S16 l16 l16, .slice S20 l20 l20, .slice S24 l24 l24] 176);have HB5 := Bas.hid (HB8.out.trans (hb5.mono HB8.out.size));have HM5 := Bas.hid (HM8.out.below hb5);have hGw : w.heap.size ≤ w8.heap.size := HB8.out.size;have HGW := Bas.hid hGw;clear hb5 HM8 HB8 RhI Ri hGw HKT8;generalize w8.alloc (.cells #[.pointer (some ⟨gm, 0, none⟩), .slice S16 l16 l16, .slice S20 l20 l20, .slice S24 l24 l24] 176) = W5 at *;obtain ⟨GT, hGT⟩ : ∃ GT, w8.heap.size = GT := ⟨_, rfl⟩;rw [hGT] at k5 HGW ⊢;clear hGT;have HK5 := Bas.hid k5;have HENT := Bas.hid (entries_any (.pointer (some ⟨gm, 0, none⟩)) M W5 HM5.out.now HOK.out);obtain ⟨n, hn⟩ : ∃ n, M.ents.length = n := ⟨_, rfl⟩;have HN := Bas.hid hn;have hn6 := HOK.out.nents;rw [hn] at HENT hn6;have ct := cell_of_heap (i := 0) k5 rfl;have lG := heap_lt k5;clear k5 hn;go_wp2_with (fail);refine HENT.out.mono ?_;rintro e w6 ⟨hb6, v6, rfl, ho6⟩;obtain ⟨a6, c6, rfl⟩ := own_slice ho6;have HB6 := Bas.hid hb6;have HO6 := Bas.hid ho6;clear hb6 ho6 HENT ct lG;go_wp2_with (fail);go_loopw [32] (fun vi wr => ∃ i : Nat, i ≤ n ∧ vi = .int .i64 i ∧ Below w6.heap.size w6 wr ∧ ∀ x ∈ M.ents.take i, ligEntOk (bs.drop o16) x) (fun vi _ => n - (intOf vi).toNat)
  case atStart => exact ⟨0, Nat.zero_le _, rfl, Below.refl _ _, fun x hx => by simp at hx⟩
  case round =>
   obtain ⟨i, hi, rfl, hb, hall⟩ := hrel;have HB := Bas.hid hb;have HALL := Bas.hid hall;have hB5w : Below W5.heap.size W5 wr := HB6.out.trans (hb.mono HB6.out.size);have hBw : Below w.heap.size w wr := HB5.out.trans (hB5w.mono HB5.out.size);have kG := (hB5w.block _ (heap_lt HK5.out)).trans HK5.out;have HB5W := Bas.hid hB5w;have HBW := Bas.hid hBw;have HKG := Bas.hid kG;by_cases hin : i < n
   ·have e1 : decide ((i : Int) < (n : Int)) = true := by simp; omega
    obtain ⟨⟨e0, fl, e2, e3⟩, he⟩ : ∃ e, M.ents[i]? = some e := ⟨_, List.getElem?_eq_getElem (by rw [HN.out]; exact hin)⟩
    have hmem := List.mem_of_getElem? he;obtain ⟨_, ⟨hf0, hf1⟩, ⟨ha0, ha1⟩, hb0, hb1⟩ := HOK.out.ents _ hmem;simp only at hf0 hf1 ha0 ha1 hb0 hb1;have HSTEP := Bas.hid (fun (h : ligEntOk (bs.drop o16) ⟨e0, fl, e2, e3⟩) => lig_take_step he HALL.out h)
    have HNO : Hid (¬ ligEntOk (bs.drop o16) ⟨e0, fl, e2, e3⟩ → ligParse bs gl = none) := fun h => by
     rw [HPY.out, if_neg];exact fun hx => h (hx _ hmem)
    obtain ⟨be', ce, hve, lbe, d0, d1, d2, d3⟩ := enC_at (Row.owned_below HO6.out hb) he;cases hve;have kE := Bas.heap_new wr (.cells #[.int .i64 e0, .int .i64 fl, .int .i64 e2, .int .i64 e3] 162);have hb9 := (Below.refl wr.heap.size wr).alloc (Nat.le_refl _) (.cells #[.int .i64 e0, .int .i64 fl, .int .i64 e2, .int .i64 e3] 162);have HB9 := Bas.hid hb9;have q1 := cell_of_heap (i := 1) kE rfl;have q2 := cell_of_heap (i := 2) kE rfl;have lE := heap_lt kE;have HKG9 := Bas.hid ((hb9.block _ (heap_lt kG)).trans kG);have hfl := flag_at fl 13 8192 rfl (by omega) hf0 hf1
    obtain ⟨an, han⟩ := Int.eq_ofNat_of_zero_le ha0;subst han;simp only at d0 d1 d2 d3;clear hb hall he hmem hB5w hBw kG hb9 kE;by_cases z1 : fl / 8192 % 2 = 1
    ·rw [if_pos z1] at hfl;have HEO : Hid (ligEntOk (bs.drop o16) ⟨e0, fl, (an : Int), e3⟩ ↔ endsL (bs.drop o16) ((bs.drop o16).length + 1) an = true) := by
      unfold Hid ligEntOk; simp only [Int.toNat_natCast]; exact ⟨fun h => h z1, fun h _ => h⟩
     clear z1;go_wp2_with (fail);generalize (wr.alloc (.cells #[.int .i64 e0, .int .i64 fl, .int .i64 (an : Int), .int .i64 e3] 162)) = W9 at *;clear q1 q2 lE d0 d1 d2 d3 lbe hfl;obtain ⟨F, hF⟩ : ∃ F, (bs.drop o16).length + 1 = F := ⟨_, rfl⟩;rw [hF] at HEO;have HF := Bas.hid hF;have hFl : F = l16 + 1 := by rw [← hF, HSL16.out]
     clear hF;go_loopw [8] (fun v8 wr => ∃ k f : Nat, v8 = .int .i64 k ∧ f + k = F + an ∧ (4 * k ≤ l16 ∨ k ≤ 65535) ∧ endsL (bs.drop o16) f k = endsL (bs.drop o16) F an ∧ Below W9.heap.size W9 wr) (fun v8 _ => F + an - (intOf v8).toNat)
     case atStart => exact ⟨an, F, rfl, rfl, .inr (by omega), rfl, Below.refl _ _⟩
     case round =>
      obtain ⟨k, f, rfl, hfk, hak, hends, hbk⟩ := hrel;have hk63 : 4 * (k : Int) ≤ 9223372036854775807 := by have h := hslm16; unfold maxLen at h; omega
      have HENDS := Bas.hid hends;have HBK := Bas.hid hbk;have hGk := (hbk.block _ (heap_lt HKG9.out)).trans HKG9.out;have ct := cell_of_heap (i := 1) hGk rfl;have lG := heap_lt hGk;have hVk : Below w.heap.size w wr := HBW.out.trans ((HB9.out.trans (hbk.mono HB9.out.size)).mono HBW.out.size);have HVK := Bas.hid hVk;clear hends hbk hGk hVk;by_cases h4 : 4 * k + 4 ≤ l16
      ·have hu := u32_ok S16 l16 l16 (bs.drop o16) (4 * (k : Int)) wr (Nat.le_refl _) hslm16 (HS16.out _ (HV.out _ HVK.out)) HSL16.out (by omega) (by omega)
       rw [show (4 * (k : Int)).toNat = 4 * k by omega] at hu
       have hr := be_rng4 (fun x hx => HBY.out x (List.mem_of_mem_drop hx) : ∀ x ∈ bs.drop o16, 0 ≤ x ∧ x ≤ 255) (4 * k) 4 (by omega)
       obtain ⟨x, hx⟩ : ∃ x, be (bs.drop o16) (4 * k) 4 = x := ⟨_, rfl⟩;have hq := flag_32 x 31 2147483648 rfl (by omega) (by rw [← hx]; exact hr.1) (by rw [← hx]; have := hr.2; omega)
       obtain ⟨f', rfl⟩ : ∃ f', f = f' + 1 := ⟨f - 1, by omega⟩
       have hE : endsL (bs.drop o16) (f' + 1) k = if x / 2147483648 % 2 = 1 then true else endsL (bs.drop o16) f' (k + 1) := by
        rw [endsL, if_pos (by rw [HSL16.out]; exact h4)]
        have hi : lastA (bs.drop o16) k ↔ x / 2147483648 % 2 = 1 := by unfold lastA; rw [hx]
        by_cases hz : x / 2147483648 % 2 = 1
        ·rw [if_pos (hi.2 hz), if_pos hz]
        ·rw [if_neg (fun h => hz (hi.1 h)), if_neg hz]
       rw [hx] at hu;have HU := Bas.hid hu;have HE2 := Bas.hid (hE.symm.trans HENDS.out);clear hu hr hx hE;by_cases z2 : x / 2147483648 % 2 = 1
       ·rw [if_pos z2] at hq;have HST : Hid (ligEntOk (bs.drop o16) ⟨e0, fl, (an : Int), e3⟩) := HEO.out.2 (by rw [← HE2.out, if_pos z2])
        clear z2;go_wp2_with (fail)
        with_reducible refine HU.out.mono ?_
        rintro e w9 ⟨rfl, hb9⟩;have HBX := Bas.hid (HB.out.trans ((HB9.out.trans ((HBK.out.trans (hb9.mono HBK.out.size)).mono HB9.out.size)).mono HB.out.size));clear hb9 HU ct lG;go_wp2_with (fail);go_roundw
        case rel => exact ⟨i + 1, by omega, by go_num, HBX.out, HSTEP.out HST.out⟩
        case measure => simp [intOf]; omega
       ·rw [if_neg z2] at hq;have HE3 : Hid (endsL (bs.drop o16) f' (k + 1) = endsL (bs.drop o16) F an) := by have := HE2.out; rw [if_neg z2] at this; exact this
        clear z2;go_wp2_with (fail)
        with_reducible refine HU.out.mono ?_
        rintro e w9 ⟨rfl, hb9⟩;have HBX := Bas.hid (HBK.out.trans (hb9.mono HBK.out.size));clear hb9 HU ct lG;go_wp2_with (fail);go_roundw
        case rel => exact ⟨k + 1, f', by go_num, by omega, .inl (by omega), HE3.out, HBX.out⟩
        case measure => simp [intOf]; omega
      ·have hE : endsL (bs.drop o16) f k = false := by
        cases f with
        | zero => rfl
        | succ f => rw [endsL, if_neg (by rw [HSL16.out]; exact h4)]
       have HNN : Hid (ligParse bs gl = none) := HNO.out (fun h => by
        have h2 := HEO.out.1 h;rw [← HENDS.out, hE] at h2;cases h2)
       have HU := Bas.hid (u32_no S16 l16 l16 (4 * (k : Int)) wr (Nat.le_refl _) hslm16 (by omega))
       clear hE;go_wp2_with (fail)
       with_reducible refine HU.out.mono ?_
       rintro e w9 ⟨rfl, hb9⟩;have HBX := Bas.hid (HVK.out.trans (hb9.mono HVK.out.size));clear hb9 HU ct lG;go_wp2_with (fail);exact ⟨rfl, HBX.out, by rw [HNN.out]⟩
    ·rw [if_neg z1] at hfl;have HST : Hid (ligEntOk (bs.drop o16) ⟨e0, fl, (an : Int), e3⟩) := fun h => absurd h z1
     clear z1;go_wp2_with (fail);go_roundw
     case rel => exact ⟨i + 1, by omega, by go_num, HB.out.trans (HB9.out.mono HB.out.size), HSTEP.out HST.out⟩
     case measure => simp [intOf]; omega
   ·have e1 : decide ((i : Int) < (n : Int)) = false := by simp; omega
    have e1b : decide (i < n) = false := by simp; omega
    have e1c : ¬ (i : Int) < (n : Int) := by omega
    have HPF : Hid (ligParse bs gl = some ⟨M, bs.drop o16, bs.drop o20, bs.drop o24⟩) := by
     unfold Hid;rw [HPY.out, if_pos];rw [List.take_of_length_le (by rw [HN.out]; omega)] at hall
     exact hall
    have HFIN : Hid (Lives w.heap.size (fun u => VB u a bs → LigAt u (.pointer (some ⟨GT, 0, none⟩)) ⟨M, bs.drop o16, bs.drop o20, bs.drop o24⟩) wr) := fun u hu hvu =>
     ⟨GT, gm, S16, l16, S20, l20, S24, l24, rfl, lives_heap HKG.out HGW.out u hu, (HM5.out.below HB5W.out) u hu, ⟨HS16.out u hvu, HSL16.out, hslm16⟩, ⟨HS20.out u hvu, HSL20.out, hslm20⟩, HS24.out u hvu, HSL24.out, hslm24⟩
    clear hb hall hB5w hBw kG;go_wp2_with (fail);go_ret;exact ⟨HBW.out, by rw [HPF.out]; exact ⟨_, rfl, HFIN.out⟩⟩
end Lg
namespace Dr
open Ch Lk St Ln
structure BoxesV {σ : Type} (X : σ → (Nat → Prop) → World → Prop) : Prop where
 lt : ∀ s Bx u, X s Bx u → ∀ k, Bx k → k < u.heap.size
 stab : ∀ s Bx u u' (T : Nat → Prop), X s Bx u → Mod T u u' → (∀ k, T k → ¬ Bx k) → X s Bx u'
def PlRV {σ : Type} (w : World) (base g : Nat) (sv : Value) (D : Nat) (X : σ → (Nat → Prop) → World → Prop) (Inv : σ → List Gl → Prop) (s : σ) (xs : List Gl) (S : Nat → Prop) (u : World) : Prop :=
 ∃ sv' Bx, LineAt u base g sv' xs ∧ Mod (blk g sv) w u ∧ (∀ k, sv'.ownBlock = some k → sv.ownBlock = some k ∨ w.heap.size ≤ k) ∧ (∀ k, sv'.ownBlock = some k → k ≠ D ∧ ¬ Bx k) ∧ X s Bx u ∧ (∀ k, Bx k → w.heap.size ≤ k ∧ k ≠ D) ∧ Inv s xs ∧ S = fun k => blk g sv' k ∨ Bx k
def ActV {σ : Type} (F0 : PlF σ) (base g : Nat) (X : σ → (Nat → Prop) → World → Prop) (Bx : Nat → Prop) (Inv : σ → List Gl → Prop) (s : σ) (xs : List Gl) (sv' : Value) (u : World) (pl : Int) (e : EntD) (en : Ending) (u' : World) : Prop :=
 en = .returned (.tuple #[]) ∧ ∃ sv'' Bx', LineAt u' base g sv'' (F0 s xs pl e).2 ∧ X (F0 s xs pl e).1 Bx' u' ∧ Inv (F0 s xs pl e).1 (F0 s xs pl e).2 ∧ Mod (fun k => blk g sv' k ∨ Bx k) u u' ∧ (∀ k, sv''.ownBlock = some k → sv'.ownBlock = some k ∨ u.heap.size ≤ k) ∧ (∀ k, Bx' k → Bx k ∨ u.heap.size ≤ k) ∧ ∀ k, sv''.ownBlock = some k → ¬ Bx' k
theorem env_plainV {σ : Type} (M : MachD) (F0 : PlF σ) (W0 w : World) (base gm g : Nat) (sv : Value) (xs0 : List Gl) (D K B : Nat) (caps : Array Value) (X : σ → (Nat → Prop) → World → Prop) (Inv : σ → List Gl → Prop)
  (hok : MachOk M) (hm : MachAt W0 (.pointer (some ⟨gm, 0, none⟩)) M) (hb0 : Below W0.heap.size W0 w) (hbase : W0.heap.size ≤ base) (hL : LineAt w base g sv xs0)
  (hX : BoxesV X) (hD : w.heap.size ≤ D)
  (hB : ∀ s Bx u, X s Bx u → u.heap[B]? = some (.cells #[.func (.func K) #[] caps] 166 (0, 0)))
  (hcf : ∀ args w, (callFunc K args).run Tryz.prog w = .ok (.enter K args) w)
  (hact : ∀ s xs sv' Bx u (pl : Int) (e : EntD), LineAt u base g sv' xs → Below W0.heap.size W0 u → X s Bx u → (∀ k, Bx k → w.heap.size ≤ k) → Inv s xs → 0 ≤ pl → pl ≤ 4398046511104 → e ∈ M.ents → (∀ k, sv'.ownBlock = some k → ¬ Bx k) →
   Calls Tryz.prog K (#[.int .i64 pl, .agg #[.int .i64 e.next, .int .i64 e.flags, .int .i64 e.a, .int .i64 e.b]] ++ caps) u (ActV F0 base g X Bx Inv s xs sv' u pl e)) :
  Env M (plF F0) (PlRV w base g sv D X Inv) base gm g D 104 #[] #[.pointer (some ⟨B, 0, none⟩)] := by
 have hblk := hL.blk_low;have hbel : ∀ s xs S u, PlRV w base g sv D X Inv s xs S u → Below W0.heap.size W0 u := fun s xs S u hR => by
  obtain ⟨_, _, _, h2, _⟩ := hR;exact h2.below hb0 (fun k hk => Nat.le_trans hbase (hblk k hk).1) hb0.size
 have hg : g < w.heap.size := hL.lt;refine ⟨hok, fun s xs S u hR => hm.below (hbel s xs S u hR), fun s xs S u hR => ?_, fun s xs S u hR => ?_, fun s xs S u u' hR hmod => ?_, fun s xs S u pl e hR hDu hpl hpl2 hmem h1 h2 h3 => ?_, fun s xs S u pl e hR hpl => ?_⟩
 ·obtain ⟨sv', _, h1, _⟩ := hR;exact ⟨sv', h1⟩
 ·obtain ⟨sv', Bx, h1, h2, h3, h4, h5, h6, h7, rfl⟩ := hR;intro k hk;rcases hk with hk | hk
  ·refine ⟨(h1.blk_low k hk).2, ?_⟩;rcases hk with rfl | hk
   ·omega
   ·exact (h4 k hk).1
  ·exact ⟨hX.lt s Bx u h5 k hk, (h6 k hk).2⟩
 ·obtain ⟨sv', Bx, h1, h2, h3, h4, h5, h6, h7, rfl⟩ := hR;refine ⟨sv', Bx, h1.mod hmod ?_, h2.trans hmod (fun k hk hlt => by omega), h3, h4, hX.stab s Bx u u' _ h5 hmod (fun k hk hb => (h6 k hb).2 hk), h6, h7, rfl⟩
  intro k hk e;rcases hk with rfl | hk
  ·omega
  ·exact (h4 k hk).1 e
 ·have hbu := hbel s xs S u hR;obtain ⟨sv', Bx, q1, q2, q3, q4, q5, q6, q7, rfl⟩ := hR;have hpw : wrap64 (pl + 1) = pl + 1 := by simp only [wrap64]; omega
  have hfin := plain1_any K caps B pl e.next e.flags e.a e.b (fun u'' => Mod (fun k => blk g sv' k ∨ Bx k) u u'' ∧ ∃ S', PlRV w base g sv D X Inv (F0 s xs pl e).1 (F0 s xs pl e).2 S' u'') u hcf (hB s Bx u q5) (fun u' hb' => ?_)
  ·rw [Array.empty_append];refine hfin.mono ?_;rintro en u'' ⟨rfl, h7, h8⟩;refine ⟨?_, h7, h8⟩;rw [hpw];rfl
  ·refine (hact s xs sv' Bx u' pl e (q1.below hb') (hbu.trans (hb'.mono hbu.size)) (hX.stab s Bx u u' (fun _ => False) q5 (Mod.of_below hb') (fun _ h => h.elim)) (fun k hk => (q6 k hk).1) q7 hpl hpl2 hmem (fun k hk => (q4 k hk).2)).mono ?_
   rintro en u'' ⟨rfl, sv'', Bx', r1, r2, r3, r4, r5, r7, r8⟩;have r6 : Mod (fun k => blk g sv' k ∨ Bx k) u u'' := (Mod.of_below (S := fun k => blk g sv' k ∨ Bx k) hb').trans r4 (fun _ h _ => h)
   have hzu := hb'.size;have hzw := q2.size;refine ⟨rfl, r6, _, sv'', Bx', r1, q2.trans r6 (fun k hk hlt => ?_), fun k hk => ?_, fun k hk => ?_, r2, fun k hk => ?_, r3, rfl⟩
   ·rcases hk with hk | hk
    ·rcases hk with rfl | hk
     ·exact .inl rfl
     ·rcases q3 k hk with h | h
      ·exact .inr h
      ·omega
    ·have := (q6 k hk).1; omega
   ·rcases r5 k hk with h | h
    ·exact q3 k h
    ·exact .inr (Nat.le_trans q2.size (Nat.le_trans hb'.size h))
   ·refine ⟨?_, r8 k hk⟩;rcases r5 k hk with h | h
    ·exact (q4 k h).1
    ·omega
   ·rcases r7 k hk with h | h
    ·exact q6 k h
    ·exact ⟨by omega, by omega⟩
 ·unfold plF;simp only;omega
theorem plain_wayV {σ : Type} (M : MachD) (F0 : PlF σ) (W0 w w1 : World) (base gm g : Nat) (sv : Value) (xs : List Gl) (K B : Nat) (caps : Array Value) (X : σ → (Nat → Prop) → World → Prop) (Bx : Nat → Prop) (Inv : σ → List Gl → Prop) (s : σ)
  (hok : MachOk M) (hm : MachAt W0 (.pointer (some ⟨gm, 0, none⟩)) M) (hb0 : Below W0.heap.size W0 w) (hbase : W0.heap.size ≤ base) (hL : LineAt w base g sv xs) (hlen : xs.length ≤ 4294967296)
  (hX : BoxesV X) (hBx : ∀ k, Bx k → w.heap.size ≤ k) (hB : ∀ s Bx u, X s Bx u → u.heap[B]? = some (.cells #[.func (.func K) #[] caps] 166 (0, 0)))
  (hcf : ∀ args w, (callFunc K args).run Tryz.prog w = .ok (.enter K args) w) (hb1 : Below w.heap.size w w1) (hXs : X s Bx w1) (hI : Inv s xs)
  (hact : ∀ s xs sv' Bx u (pl : Int) (e : EntD), LineAt u base g sv' xs → Below W0.heap.size W0 u → X s Bx u → (∀ k, Bx k → w.heap.size ≤ k) → Inv s xs → 0 ≤ pl → pl ≤ 4398046511104 → e ∈ M.ents → (∀ k, sv'.ownBlock = some k → ¬ Bx k) →
   Calls Tryz.prog K (#[.int .i64 pl, .agg #[.int .i64 e.next, .int .i64 e.flags, .int .i64 e.a, .int .i64 e.b]] ++ caps) u (ActV F0 base g X Bx Inv s xs sv' u pl e)) :
  Calls Tryz.prog 78 #[.pointer (some ⟨gm, 0, none⟩), .pointer (some ⟨g, 0, none⟩), plainV B] w1 fun e w' =>
   e = .returned (.tuple #[.int .i64 (dall M (plF F0) s xs).1.steps, .int .i64 (dall M (plF F0) s xs).2]) ∧ LnTo w base g sv (dall M (plF F0) s xs).1.xs w' ∧ ∃ s' Bx', X s' Bx' w' ∧ ∀ k, Bx' k → w.heap.size ≤ k := by
 have hown := fun k (hk : sv.ownBlock = some k) => Row.own_block hL.own hk
 have E := env_plainV M F0 W0 w base gm g sv xs w1.heap.size K B caps X Inv hok hm hb0 hbase hL hX hb1.size hB hcf hact;have hR : PlRV w base g sv w1.heap.size X Inv s xs (fun k => blk g sv k ∨ Bx k) w1 :=
  ⟨sv, Bx, hL.below hb1, Mod.of_below hb1, fun _ h => .inl h, fun k hk => by
   have h1 := (hown k hk).2;have h2 := hb1.size;exact ⟨by omega, fun hb => by have := hBx k hb; omega⟩, hXs, fun k hk => ⟨hBx k hk, by have := hX.lt s Bx w1 hXs k hk; omega⟩, hI, rfl⟩
 refine (run_any M (plF F0) _ base gm g 104 _ _ w1 E (fun args w => by simp [go_sem]) s xs _ hR hlen).mono ?_
 rintro e w' ⟨rfl, _, S', sv', Bx', h1, h2, h3, _, h4, h5, _⟩;exact ⟨rfl, ⟨sv', h1, h2, h3⟩, _, Bx', h4, fun k hk => (h5 k hk).1⟩
end Dr
namespace Lg
open Vw Ch Lk St Ln Dr
theorem infoIn : (Tryz.prog.info? 3).map (fun i => (i.zero, i.size, i.bytes)) = some (some (.int .i64 0), 1, 8) := by kernel_rfl
def OffRow (w : World) (v : Value) (rb : Option Nat) (ps : List Int) : Prop :=
 (v = .slice none 0 0 ∧ rb = none ∧ ps = []) ∨ ∃ b off cap cur, v = .slice (some ⟨b, off, none⟩) ps.length cap ∧ rb = some b ∧ w.heap[b]? = some (.cells cur 3 (0, 0)) ∧ ps.length ≤ cap ∧ off + cap ≤ cur.size ∧ cap ≤ maxLen ∧ ∀ j x, ps[j]? = some x → cur[off + j]? = some (.int .i64 x)
theorem OffRow.slice {w : World} {v : Value} {rb : Option Nat} {ps : List Int} (h : OffRow w v rb ps) : ∃ a c, v = .slice a ps.length c := by
 rcases h with ⟨rfl, _, rfl⟩ | ⟨b, off, cap, cur, rfl, _⟩
 ·exact ⟨none, 0, rfl⟩
 ·exact ⟨_, _, rfl⟩
theorem OffRow.keep {w w' : World} {v : Value} {rb : Option Nat} {ps : List Int} (h : OffRow w v rb ps) (hk : ∀ b, rb = some b → w'.heap[b]? = w.heap[b]?) : OffRow w' v rb ps := by
 rcases h with h | ⟨b, off, cap, cur, h1, h2, h3, h4⟩
 ·exact .inl h
 ·exact .inr ⟨b, off, cap, cur, h1, h2, (hk b h2).trans h3, h4⟩
theorem OffRow.lt {w : World} {v : Value} {rb : Option Nat} {ps : List Int} (h : OffRow w v rb ps) : ∀ b, rb = some b → b < w.heap.size := by
 rcases h with ⟨_, rfl, _⟩ | ⟨b, off, cap, cur, _, rfl, h3, _⟩
 ·intro b h; cases h
 ·intro k hk; cases hk; exact heap_lt h3
theorem OffRow.cell {w : World} {v : Value} {rb : Option Nat} {ps : List Int} (h : OffRow w v rb ps) {j : Nat} {x : Int} (hj : ps[j]? = some x) : ∃ b off cap, v = .slice (some ⟨b, off, none⟩) ps.length cap ∧ ps.length ≤ cap ∧ cap ≤ maxLen ∧ w.cell? ⟨b, off + j, none⟩ = some (.int .i64 x) := by
 rcases h with ⟨_, _, rfl⟩ | ⟨b, off, cap, cur, h1, h2, h3, h4, h5, h6, h7⟩
 ·simp at hj
 ·exact ⟨b, off, cap, h1, h4, h6, cell_of_heap h3 (h7 j x hj)⟩
theorem OffRow.tail {w : World} {b off n cap : Nat} {rb : Option Nat} {ps : List Int} (h : OffRow w (.slice (some ⟨b, off, none⟩) n cap) rb ps) (hn : 2 ≤ n) : OffRow w (.slice (some ⟨b, off + 1, none⟩) (n - 1) (cap - 1)) rb (ps.drop 1) := by
 rcases h with ⟨h, _⟩ | ⟨b, off, cap, cur, h1, h2, h3, h4, h5, h6, h7⟩
 ·cases h
 ·cases h1;refine .inr ⟨b, off + 1, cap - 1, cur, by rw [List.length_drop], h2, h3, by rw [List.length_drop]; omega, by omega, by omega, fun j x hj => ?_⟩
  rw [List.getElem?_drop] at hj;have := h7 _ x hj
  rwa [← Nat.add_assoc] at this
theorem OffRow.init {w : World} {b off n cap : Nat} {rb : Option Nat} {ps : List Int} (h : OffRow w (.slice (some ⟨b, off, none⟩) n cap) rb ps) : OffRow w (.slice (some ⟨b, off, none⟩) (n - 1) cap) rb ps.dropLast := by
 rcases h with ⟨h, _⟩ | ⟨b, off, cap, cur, h1, h2, h3, h4, h5, h6, h7⟩
 ·cases h
 ·cases h1;refine .inr ⟨b, off, cap, cur, by rw [List.length_dropLast], h2, h3, by rw [List.length_dropLast]; omega, h5, h6, fun j x hj => ?_⟩
  rw [List.getElem?_dropLast] at hj;split at hj
  ·exact h7 j x hj
  ·cases hj
theorem append_off {w : World} {ops : Array Oper} {rest : List Oper} {o : Oper} {a : Act} {Q : Exit → Act → World → Prop} (hgd : o.guard = none) (s x : Operand) (t : TypeId)
  (ho : o.op = .call { callee := .builtin .append, args := #[s, x], argTypes := #[t, t] }) (ht : Tryz.prog.underlying t = some (.slice 3))
  (v : Value) (rb : Option Nat) (ps : List Int) (hs : a.eval s = v) (h : OffRow w v rb ps) (hps : ps.length ≤ 1000000)
  (c : Nat) (i : Int) (hx : a.eval x = .slice (some ⟨c, 0, none⟩) 1 1) (hc : w.cell? ⟨c, 0, none⟩ = some (.int .i64 i))
  (hK : ∀ v' w' rb', OffRow w' v' rb' (ps ++ [i]) → Mod (fun k => rb = some k) w w' → (∀ k, rb' = some k → rb = some k ∨ w.heap.size ≤ k) → wpList Tryz.prog ops Q rest (a.put o.dst v') w') :
  wpList Tryz.prog ops Q (o :: rest) a w := by
 obtain ⟨i8, hi8, hz1, hz2, hz3⟩ := info_parts infoIn;have hnews : ∀ (j : Nat) (u : Value), ([.int .i64 i] : List Value)[j]? = some u → w.cell? ((⟨c, 0, none⟩ : Addr).add j) = some u := fun j u hj => by
  cases j with
  | zero => simp at hj; subst hj; simpa [Addr.add] using hc
  | succ j => simp at hj
 have hgrow : ∀ v' w', w'.ownsRow w.heap.size 3 1 v' (ps.length + 1) (ps.map (Value.int .i64) ++ [.int .i64 i]) → w.grownBy w' none → wpList Tryz.prog ops Q rest (a.put o.dst v') w' := fun v' w' how hgr => by
  have hm : Mod (fun k => rb = some k) w w' := Mod.of_grown hgr (fun g hg => by cases hg)
  obtain ⟨hlen, ⟨rfl, h0⟩ | ⟨g, cap, cur, rfl, hg, hh, hcp, hmx, hsz, htk⟩⟩ := how
  ·omega
  ·refine hK _ w' (some g) (.inr ⟨g, 0, cap, cur, by simp, rfl, hh, by simpa using hcp, by omega, hmx, fun j x hj => ?_⟩) hm (fun k hk => by cases hk; exact .inr hg)
   have hj1 : j < ps.length + 1 := by have := (List.getElem?_eq_some_iff.1 hj).1; simpa using this
   have h1 : (cur.toList.take ((ps.length + 1) * 1))[j]? = some (.int .i64 x) := by
    rw [htk, ← List.map_singleton, ← List.map_append, List.getElem?_map, hj]; rfl
   rw [List.getElem?_take_of_lt (by omega)] at h1
   simpa using h1
 rcases h with ⟨rfl, rfl, rfl⟩ | ⟨b, off, cap, cur, rfl, rfl, h3, h4, h5, h6, h7⟩
 ·exact wpList_append_grows w hgd s x t ho 3 i8 (.int .i64 0) 1 8 ht hi8 hz1 hz2 hz3 rfl (by decide) none 0 0 [] hs (fun _ => ⟨rfl, rfl⟩) rfl (fun b hb => by cases hb) ⟨c, 0, none⟩ 1 1 [.int .i64 i] hx rfl hnews (by simp; rfl) (by omega) (by unfold maxLen; omega) (by omega) (fun v' w' h1 h2 => hgrow v' w' h1 h2)
 ·have hcell : ∀ j u, (ps.map (Value.int .i64))[j]? = some u → w.cell? ⟨b, off + j, none⟩ = some u := fun j u hj => by
   rw [List.getElem?_map] at hj;cases hx : ps[j]? with
   | none => rw [hx] at hj; cases hj
   | some y => rw [hx] at hj; cases hj; exact cell_of_heap h3 (h7 j y hx)
  refine wpList_append_arg w hgd s x t ho 3 i8 (.int .i64 0) 1 8 ht hi8 hz1 hz2 hz3 rfl (by decide) b off ps.length cap (ps.map (Value.int .i64)) hs (by simp) hcell ⟨c, 0, none⟩ 1 1 [.int .i64 i] hx rfl hnews (by simp; rfl) (fun hr j hj => ?_) (by unfold maxLen; omega) (by omega) (fun hr => ?_) (fun _ => hgrow)
  ·have hj0 : j = 0 := by simp at hj; exact hj
   subst hj0;obtain ⟨u, hu⟩ : ∃ u, cur[off + ps.length * 1 + 0]? = some u := ⟨_, Array.getElem?_eq_getElem (by omega)⟩
   exact ⟨by rw [cell_of_heap h3 hu]; rfl, free_of_heap h3⟩
  ·have e : w.setCells b (off + ps.length * 1) [.int .i64 i] = w.setCell ⟨b, off + ps.length, none⟩ (.int .i64 i) := by simp [World.setCells]
   rw [e];refine hK _ _ (some b) (.inr ⟨b, off, cap, _, by simp, rfl, heap_set (i := off + ps.length) h3 (.int .i64 i), by simpa using hr, by simpa using h5, h6, fun j x hj => ?_⟩) ((Mod.refl _ w).set _ (.inl rfl)) (fun k hk => .inl hk)
   by_cases hjl : j < ps.length
   ·rw [List.getElem?_append_left hjl] at hj;rw [Array.getElem?_setIfInBounds_ne (by omega)]
    exact h7 j x hj
   ·have hje : j = ps.length := by have := (List.getElem?_eq_some_iff.1 hj).1; simp at this; omega
    subst hje;rw [List.getElem?_append_right (Nat.le_refl _), Nat.sub_self] at hj;cases hj;rw [Array.getElem?_setIfInBounds_self_of_lt (by omega)]
end Lg
namespace In
open Vw Ch Lk St Ln Dr
def glyL (list : List Int) (a n : Nat) : List Int := (List.range n).map fun i => be list (2 * (a + i)) 2
theorem glyL_len (list : List Int) (a n : Nat) : (glyL list a n).length = n := by unfold glyL; simp
theorem glyL_succ (list : List Int) (a i : Nat) : glyL list a (i + 1) = glyL list a i ++ [be list (2 * (a + i)) 2] := by unfold glyL; rw [List.range_succ, List.map_append]; rfl
set_option maxRecDepth 100000 in
set_option maxHeartbeats 4000000 in
theorem glyphsT_any (v : Value) (T : InsD) (a n : Nat) (W0 w : World) (hT : InsAt W0 v T) (hb0 : Below W0.heap.size W0 w) (ha : a ≤ 65535) (hn : n ≤ 100) (hfit : 2 * a + 2 * n ≤ T.list.length) :
  Calls Tryz.prog 140 #[v, .int .i64 a, .int .i64 n] w fun e w' => Below w.heap.size w w' ∧ ∃ v', e = .returned v' ∧ w'.ownsRow w.heap.size 3 1 v' n ((glyL T.list a n).map (Value.int .i64)) := by
 obtain ⟨gt, gm, S, len, cap, rfl, hgt, _, hv, hlen, hlc, hcm⟩ := hT;have HB0 := Bas.hid hb0;have HGT := Bas.hid hgt;have HV := Bas.hid hv;have HLEN := Bas.hid hlen;rw [hlen] at hfit;clear hb0 hgt hv hlen;go_enter Tryz.func140, Tryz.ntmps140
 go_wp2_with (fail);go_loopw [7, 10] (fun v7 vi wr => ∃ i : Nat, i ≤ n ∧ vi = .int .i64 i ∧ wr.ownsRow w.heap.size 3 1 v7 i ((glyL T.list a i).map (Value.int .i64)) ∧ Below w.heap.size w wr) (fun _ vi _ => n - (intOf vi).toNat)
 case atStart => exact ⟨0, Nat.zero_le _, rfl, Row.owned_nil _ _ _ _, Below.refl _ _⟩
 case round =>
  obtain ⟨i, hi, rfl, ho, hb⟩ := hrel;have HO := Bas.hid ho;have HB := Bas.hid hb;obtain ⟨a7, c7, rfl⟩ := own_slice ho;by_cases hin : i < n
  ·have e1 : decide ((i : Int) < (n : Int)) = true := by simp; omega
   have e2 : decide (i < n) = true := by simp; omega
   have hbw := HB0.out.trans (hb.mono HB0.out.size);have kt := (hbw.block _ (heap_lt HGT.out)).trans HGT.out;have q1 := cell_of_heap (i := 1) kt rfl;have lt := heap_lt kt;have hw2 : wrap64 (2 * ((a : Int) + (i : Int))) = 2 * ((a : Int) + (i : Int)) := by simp only [wrap64]; omega
   have hfi : 2 * ((a : Int) + (i : Int)) + 2 ≤ (len : Int) := by omega
   have HU := Bas.hid (u16_ok S len cap T.list (2 * ((a : Int) + (i : Int))) wr hlc hcm (HV.out.below hbw) HLEN.out (by omega) hfi)
   have htn : (2 * ((a : Int) + (i : Int))).toNat = 2 * (a + i) := by omega
   rw [htn] at HU;have HSU := Bas.hid (glyL_succ T.list a i);generalize be T.list (2 * (a + i)) 2 = x at *;clear ho hb hbw kt htn;go_wp2_with (fail);refine HU.out.mono ?_;rintro e w3 ⟨rfl, hb3⟩;have HB3 := Bas.hid (HB.out.trans (hb3.mono HB.out.size));have HO3 := Bas.hid (Row.owned_below HO.out hb3);clear hb3 q1 lt HU;go_wp2_with (at_builtin; refine Row.fence ?_);refine Row.unfence ?_;have q2 := Bas.heap_new w3 (.cells #[.int .i64 x] 3);have hb4 := (Below.refl w3.heap.size w3).alloc (Nat.le_refl _) (.cells #[.int .i64 x] 3);have HO4 := Bas.hid (Row.owned_below HO3.out hb4);have HB4 := Bas.hid (HB3.out.trans (hb4.mono HB3.out.size));clear hb4;generalize (w3.alloc (.cells #[.int .i64 x] 3)) = W4 at *;refine Row.append_any rfl _ _ 23 3 rfl (.int .i64 0) 1 8 Tryz.underlying23 Lg.infoIn rfl (by decide) w.heap.size _ i _ rfl HO4.out (.slice (some ⟨w3.heap.size, 0, none⟩) 1 1) 1 [.int .i64 x] rfl (leads_heap q2) rfl (by simp; rfl) (by unfold maxLen; omega) (by omega) HB4.out.size ?_
   intro v10 w10 ho10 hg10 _;have HO10 : Hid (w10.ownsRow w.heap.size 3 1 v10 (i + 1) ((glyL T.list a (i + 1)).map (Value.int .i64))) := by unfold Hid; rw [HSU.out, List.map_append]; exact ho10
   have HB10 := Bas.hid (HB4.out.grown hg10 HB4.out.size (fun g' hg' => (Row.own_block HO4.out hg').1))
   clear ho10 hg10 q2;go_wp2_with (fail);go_roundw
   case rel => exact ⟨i + 1, by omega, by go_num, HO10.out, HB10.out⟩
   case measure => simp [intOf]; omega
  ·have e1 : decide ((i : Int) < (n : Int)) = false := by simp; omega
   have e3 : ¬ (i : Int) < (n : Int) := by omega
   have hin2 : i = n := by omega
   have HF : Hid (wr.ownsRow w.heap.size 3 1 (.slice a7 i c7) n ((glyL T.list a n).map (Value.int .i64))) := by rw [← hin2]; exact ho
   clear ho hb hin2;go_wp2_with (fail);go_ret;exact ⟨HB.out, _, rfl, HF.out⟩
structure InsS where
 mark : Int
 left : Int
 done : Int
 broke : Bool
def putI (T : InsD) (s : InsS) (xs : List Gl) (place : Int) (a n : Nat) : InsS × List Gl × Bool :=
 if s.left < n then (⟨s.mark, s.left, s.done, true⟩, xs, false)
 else (⟨s.mark, s.left - n, s.done + n, s.broke⟩, insL xs place (glyL T.list a n), decide (0 ≤ place) && decide (place ≤ (xs.length : Int)))
def insObj (gt g : Nat) (s : InsS) : Obj := .cells #[.pointer (some ⟨gt, 0, none⟩), .pointer (some ⟨g, 0, none⟩), .int .i64 s.mark, .int .i64 s.left, .int .i64 s.done, .bool s.broke] 192 (0, 0)
def InsInv (B : Nat) (s : InsS) (xs : List Gl) : Prop := (-1 ≤ s.mark ∧ s.mark ≤ xs.length) ∧ 0 ≤ s.left ∧ 0 ≤ s.done ∧ s.left + s.done ≤ 1000000 ∧ xs.length + s.left ≤ 1000000 ∧ B = B
def PutTo (w : World) (base g gt : Nat) (sv : Value) (R : Nat) (r : InsS × List Gl × Bool) (w' : World) : Prop :=
 ∃ sv', LineAt w' base g sv' r.2.1 ∧ w'.heap[R]? = some (insObj gt g r.1) ∧ Mod (fun k => blk g sv k ∨ k = R) w w' ∧ ∀ k, sv'.ownBlock = some k → sv.ownBlock = some k ∨ w.heap.size ≤ k
set_option maxRecDepth 100000 in
set_option maxHeartbeats 8000000 in
theorem put_any (base g gt R : Nat) (sv : Value) (xs : List Gl) (T : InsD) (s : InsS) (place : Int) (a n : Nat) (W0 w : World) (hT : InsAt W0 (.pointer (some ⟨gt, 0, none⟩)) T) (hb0 : Below W0.heap.size W0 w) (hbase : base ≤ w.heap.size) (hWR : W0.heap.size ≤ R) (hL : LineAt w base g sv xs) (hR : w.heap[R]? = some (insObj gt g s))
  (hI : InsInv 0 s xs) (ha : a ≤ 65535) (hn : n ≤ 31) (hfit : 2 * a + 2 * n ≤ T.list.length) :
  Calls Tryz.prog 120 #[.pointer (some ⟨R, 0, none⟩), .int .i64 place, .int .i64 a, .int .i64 n] w fun e w' => e = .returned (.bool (putI T s xs place a n).2.2) ∧ PutTo w base g gt sv R (putI T s xs place a n) w' := by
 obtain ⟨mk, lf, dn, br⟩ := s;obtain ⟨hmk, hlf, hdn, hld, hxl, -⟩ := hI;simp only at hmk hlf hdn hld hxl;have hno : ∀ (u : World) (sv' : Value) (ys : List Gl) (s' : InsS), LineAt u base g sv' ys → u.heap[R]? = some (insObj gt g s') → ¬ blk g sv' R := fun u sv' ys s' h1 h2 hb => by
  rcases hb with rfl | hb
  ·rw [h1.head] at h2; injection h2 with h2; injection h2 with _ h2 _; exact absurd h2 (by decide)
  ·exact own_ty h1.own h2 (by decide) hb
 have HNO := Bas.hid hno;have HL := Bas.hid hL;have HR := Bas.hid hR;have HT := Bas.hid hT;have HB0 := Bas.hid hb0;have c0 := cell_of_heap (i := 0) (v := .pointer (some ⟨gt, 0, none⟩)) hR rfl;have c1 := cell_of_heap (i := 1) (v := .pointer (some ⟨g, 0, none⟩)) hR rfl;have c3 := cell_of_heap (i := 3) (v := .int .i64 lf) hR rfl;have c4 := cell_of_heap (i := 4) (v := .int .i64 dn) hR rfl;have c5 := cell_of_heap (i := 5) (v := .bool br) hR rfl;have f3 := free_of_heap (i := 3) hR;have f4 := free_of_heap (i := 4) hR;have f5 := free_of_heap (i := 5) hR;have lR := heap_lt hR;clear hL hR hT hb0 hno;by_cases hlt : lf < n
 ·have e1 : decide (lf < (n : Int)) = true := by simpa using hlt
  have HPU : Hid (putI T ⟨mk, lf, dn, br⟩ xs place a n = (⟨mk, lf, dn, true⟩, xs, false)) := if_pos hlt;go_enter Tryz.func120, Tryz.ntmps120
  go_wp2_with (fail);have k8 := heap_set (i := 5) HR.out (.bool true);have HM : Mod (fun k => k = R) w (w.setCell ⟨R, 5, none⟩ (.bool true)) := (Mod.refl _ w).set _ (.inl rfl)
  have HRES : Hid (PutTo w base g gt sv R (⟨mk, lf, dn, true⟩, xs, false) (w.setCell ⟨R, 5, none⟩ (.bool true))) :=
   ⟨sv, HL.out.mod HM (fun k hk e => HNO.out w sv xs _ HL.out HR.out (e ▸ hk)), k8, HM.mono (fun k hk _ => .inr hk), fun k hk => .inl hk⟩
  go_ret;exact ⟨by rw [HPU.out]; rfl, by rw [HPU.out]; exact HRES.out⟩
 ·have e1 : decide (lf < (n : Int)) = false := by simpa using hlt
  have hlt2 : (n : Int) ≤ lf := by omega
  have HPU : Hid (putI T ⟨mk, lf, dn, br⟩ xs place a n = (⟨mk, lf - n, dn + n, br⟩, insL xs place (glyL T.list a n), decide (0 ≤ place) && decide (place ≤ (xs.length : Int)))) := if_neg hlt;go_enter Tryz.func120, Tryz.ntmps120
  go_wp2_with (fail);have k7 := heap_set (i := 3) HR.out (.int .i64 (lf - n));have k8 := heap_set (i := 4) k7 (.int .i64 (dn + n));have hk8 : ((w.setCell ⟨R, 3, none⟩ (.int .i64 (lf - n))).setCell ⟨R, 4, none⟩ (.int .i64 (dn + n))).heap[R]? = some (insObj gt g ⟨mk, lf - n, dn + n, br⟩) := k8;have HM : Mod (fun k => k = R) w ((w.setCell ⟨R, 3, none⟩ (.int .i64 (lf - n))).setCell ⟨R, 4, none⟩ (.int .i64 (dn + n))) := ((Mod.refl (fun k => k = R) w).set (b := R) _ (.inl rfl)).set (b := R) _ (.inl rfl)
  have HL8 := Bas.hid (HL.out.mod HM (fun k hk e => HNO.out w sv xs _ HL.out HR.out (e ▸ hk)))
  have HB8 := Bas.hid (HM.below HB0.out (fun k hk => by rw [hk]; exact hWR) HB0.out.size)
  have hz8 : w.heap.size ≤ ((w.setCell ⟨R, 3, none⟩ (.int .i64 (lf - n))).setCell ⟨R, 4, none⟩ (.int .i64 (dn + n))).heap.size := HM.size;have HM8 := Bas.hid HM;have HK8 := Bas.hid hk8;clear c0 c1 c3 c4 c5 f3 f4 f5 lR k7 k8 hk8 HM;generalize ((w.setCell ⟨R, 3, none⟩ (.int .i64 (lf - n))).setCell ⟨R, 4, none⟩ (.int .i64 (dn + n))) = W8 at *;obtain ⟨RI, RF, Ri, RF0, RFk, RFw⟩ := Pl.fam_of W8 (fun u => u.heap[R]? = some (insObj gt g ⟨mk, lf - n, dn + n, br⟩)) HK8.out
  have RFH := Bas.hid RF0;have RhI : Nonempty RI := ⟨Ri⟩;have RFW := Bas.hid RFw;have z0 := fun i => cell_of_heap (i := 0) (v := .pointer (some ⟨gt, 0, none⟩)) (RFk i) rfl
  have z1 := fun i => cell_of_heap (i := 1) (v := .pointer (some ⟨g, 0, none⟩)) (RFk i) rfl
  have zl := fun i => heap_lt (RFk i)
  clear RF0 RFw RFk;refine Pl.region_plan0 Ri [(true, 0), (true, 1), (true, 2), (true, 3), (true, 4), (true, 5), (true, 6), (true, 7), (true, 8), (true, 9), (true, 10), (false, 11), (false, 12), (true, 13)] [] (by kernel_rfl) (by kernel_rfl) (fun _ _ _ _ e h => ⟨e ▸ h.1, h.2⟩) RFH.out ?_
  refine Pl.head_sel0 [(true, 0), (true, 1), (true, 2), (true, 3), (true, 4), (true, 5), (true, 6), (true, 7), (true, 8), (true, 9), (true, 10)] (by kernel_rfl) (by kernel_rfl) ?_
  simp only [Pl.sel, List.drop_succ_cons, List.drop_zero];repeat (go_big_quiet_step (fail))
  refine wpQuiet_nil ?_;rw [← RFH.out];clear z0 z1 zl;have hbd : Below W8.heap.size W8 W8.drew := Bas.below_drewN (Below.refl W8.heap.size W8) 1;refine Pl.one_sel (by kernel_rfl) ?_
  intro Q' hQ' hP';simp only [Pl.sel, List.drop_succ_cons, List.drop_zero];go_wp2_with (fail);refine (glyphsT_any (.pointer (some ⟨gt, 0, none⟩)) T a n W0 W8.drew HT.out (HB8.out.trans (hbd.mono HB8.out.size)) ha (by omega) hfit).mono ?_
  rintro e w9 ⟨hb9, v9, rfl, ho9⟩;have hb89 := hbd.trans hb9;have HL9 := Bas.hid (HL8.out.below hb89);have HK9 := Bas.hid ((hb89.block _ (heap_lt HK8.out)).trans HK8.out);have HM9 := Bas.hid (HM8.out.on hb89);have HO9 := Bas.hid (Row.leads_owned ho9);have hz9 : base ≤ w9.heap.size := Nat.le_trans hbase (Nat.le_trans hz8 hb89.size);obtain ⟨a9, c9, rfl⟩ := own_slice ho9;clear hbd hb9 hb89 ho9;go_wp2_with (fail);refine hQ' _ _ (fun _ _ => RFW.out _ HK9.out) ?_
  clear hQ' hP' Q';refine Pl.one_sel (by kernel_rfl) ?_
  intro Q' hQ' hP';simp only [Pl.sel, List.drop_succ_cons, List.drop_zero];go_wp2_with (fail);refine (lineInsert_any base g sv _ xs place (glyL T.list a n) n w9 HL9.out HO9.out (glyL_len _ _ _) hz9 (by omega)).mono ?_
  rintro e w10 ⟨rfl, hto⟩;obtain ⟨sv', h1, h2, h3⟩ := id hto;have hk10 := h2.heap HK9.out (HNO.out w9 sv xs _ HL9.out HK9.out);have HRES : Hid (PutTo w base g gt sv R (⟨mk, lf - n, dn + n, br⟩, insL xs place (glyL T.list a n), decide (0 ≤ place) && decide (place ≤ (xs.length : Int))) w10) :=
   ⟨sv', h1, hk10, (HM9.out.mono (T := fun k => blk g sv k ∨ k = R) (fun k hk _ => .inr hk)).trans h2 (fun k hk _ => .inl hk), fun k hk => (h3 k hk).imp id (fun h => Nat.le_trans HM9.out.size h)⟩
  clear hto h1 h2 h3;go_wp2_with (fail);refine hQ' _ _ (fun _ _ => RFW.out _ hk10) ?_
  clear hQ' hP' Q' hk10;refine Pl.head_sel0 (rest := []) [(true, 13)] (by kernel_rfl) (by kernel_rfl) ?_
  simp only [Pl.sel, List.drop_succ_cons, List.drop_zero];repeat (go_big_quiet_step (fail))
  refine wpQuiet_nil ?_;simp only [Pl.walkM];go_wp2_with (fail);go_ret;exact ⟨by rw [HPU.out]; rfl, by rw [HPU.out]; exact HRES.out⟩
def ins3 (s : InsS) (xs : List Gl) (i own : Int) (end' : Bool) (here fl : Int) : InsS × List Gl × Int × Int :=
 (if fl / 32768 % 2 = 1 ∧ end' = false then ⟨own, s.left, s.done, s.broke⟩ else s, xs, i, i + here + 1)
def bump (s : InsS) (place n : Int) : InsS := if place ≤ s.mark then ⟨s.mark + n, s.left, s.done, s.broke⟩ else s
def ins2 (T : InsD) (e : EntD) (s : InsS) (xs : List Gl) (i : Int) : InsS × List Gl × Int × Int :=
 if 0 < hereOf e then
  if e.flags / 2048 % 2 = 1 then
   if (putI T s xs i e.a.toNat (hereOf e).toNat).2.2 = false then ((putI T s xs i e.a.toNat (hereOf e).toNat).1, (putI T s xs i e.a.toNat (hereOf e).toNat).2.1, i, i + 1)
   else ins3 (bump (putI T s xs i e.a.toNat (hereOf e).toNat).1 i (hereOf e)) (putI T s xs i e.a.toNat (hereOf e).toNat).2.1 i (i + hereOf e) (decide ((xs.length : Int) ≤ i)) (hereOf e) e.flags
  else
   if (putI T s xs (min (i + 1) xs.length) e.a.toNat (hereOf e).toNat).2.2 = false then ((putI T s xs (min (i + 1) xs.length) e.a.toNat (hereOf e).toNat).1, (putI T s xs (min (i + 1) xs.length) e.a.toNat (hereOf e).toNat).2.1, i, i + 1)
   else ins3 (bump (putI T s xs (min (i + 1) xs.length) e.a.toNat (hereOf e).toNat).1 (min (i + 1) xs.length) (hereOf e)) (putI T s xs (min (i + 1) xs.length) e.a.toNat (hereOf e).toNat).2.1 i i (decide ((xs.length : Int) ≤ i)) (hereOf e) e.flags
 else ins3 s xs i i (decide ((xs.length : Int) ≤ i)) (hereOf e) e.flags
def insMk (e : EntD) (s : InsS) : Int := if e.flags / 1024 % 2 = 1 then s.mark else s.mark + 1
def insF (T : InsD) : ActF InsS := fun s xs i e =>
 if s.broke = true then (s, xs, i, i + 1)
 else if 0 < markOf e ∧ 0 ≤ s.mark then
  if (putI T s xs (insMk e s) e.b.toNat (markOf e).toNat).2.2 = false then ((putI T s xs (insMk e s) e.b.toNat (markOf e).toNat).1, (putI T s xs (insMk e s) e.b.toNat (markOf e).toNat).2.1, i, i + 1)
  else ins2 T e (bump (putI T s xs (insMk e s) e.b.toNat (markOf e).toNat).1 (insMk e s) (markOf e)) (putI T s xs (insMk e s) e.b.toNat (markOf e).toNat).2.1 (if insMk e s ≤ i then i + markOf e else i)
 else ins2 T e s xs i
theorem insL_len (xs : List Gl) (i : Int) (ids : List Int) : (insL xs i ids).length = if 0 ≤ i ∧ i ≤ (xs.length : Int) then xs.length + ids.length else xs.length := by
 unfold insL;by_cases h : i < 0 ∨ (xs.length : Int) < i
 ·rw [if_pos h, if_neg (by omega)]
 ·rw [if_neg h, if_pos (by omega)]
  simp only [List.length_append, List.length_take, List.length_map, List.length_drop];omega
theorem putI_inv {T : InsD} {s : InsS} {xs : List Gl} {place : Int} {a n : Nat} (h : InsInv 0 s xs) : InsInv 0 (putI T s xs place a n).1 (putI T s xs place a n).2.1 ∧ ((putI T s xs place a n).2.2 = true → (putI T s xs place a n).2.1.length = xs.length + n ∧ 0 ≤ place ∧ place ≤ xs.length ∧ (putI T s xs place a n).1.mark = s.mark) := by
 obtain ⟨h1, h2, h3, h4, h5, -⟩ := h;unfold putI;by_cases hl : s.left < n
 ·rw [if_pos hl]; exact ⟨⟨h1, h2, h3, h4, h5, rfl⟩, fun h => by cases h⟩
 ·rw [if_neg hl];have hlen := insL_len xs place (glyL T.list a n);rw [glyL_len] at hlen;simp only;refine ⟨⟨⟨h1.1, ?_⟩, by simp only; omega, by simp only; omega, by simp only; omega, ?_, rfl⟩, fun hk => ?_⟩
  ·simp only; rw [hlen]; split <;> omega
  ·simp only; rw [hlen]; split <;> omega
  ·simp only [Bool.and_eq_true, decide_eq_true_eq] at hk;rw [hlen, if_pos hk];exact ⟨rfl, hk.1, hk.2, trivial⟩
theorem bump_inv {s : InsS} {xs ys : List Gl} {place : Int} {n : Nat} (h : InsInv 0 s ys) (hl : ys.length = xs.length + n) (hm : s.mark ≤ xs.length) : InsInv 0 (bump s place n) ys := by
 obtain ⟨h1, h2, h3, h4, h5, -⟩ := h;unfold bump;split
 ·exact ⟨⟨by simp only; omega, by simp only; omega⟩, h2, h3, h4, h5, rfl⟩
 ·exact ⟨h1, h2, h3, h4, h5, rfl⟩
theorem ins3_inv {s : InsS} {xs : List Gl} {i own : Int} {end' : Bool} {here fl : Int} (h : InsInv 0 s xs) (ho : end' = false → -1 ≤ own ∧ own ≤ xs.length) : InsInv 0 (ins3 s xs i own end' here fl).1 (ins3 s xs i own end' here fl).2.1 := by
 obtain ⟨h1, h2, h3, h4, h5, -⟩ := h;unfold ins3;simp only;split
 ·rename_i hc
  exact ⟨ho hc.2, h2, h3, h4, h5, rfl⟩
 ·exact ⟨h1, h2, h3, h4, h5, rfl⟩
theorem ins2_inv {T : InsD} {e : EntD} {s : InsS} {xs : List Gl} {i : Int} (h : InsInv 0 s xs) (hi : 0 ≤ i) (hh : 0 ≤ hereOf e) : InsInv 0 (ins2 T e s xs i).1 (ins2 T e s xs i).2.1 := by
 unfold ins2;obtain ⟨n, hn⟩ := Int.eq_ofNat_of_zero_le hh;rw [hn];simp only [Int.toNat_natCast];split
 ·split
  ·obtain ⟨p1, p2⟩ := putI_inv (T := T) (place := i) (a := e.a.toNat) (n := n) h;split
   ·exact p1
   ·rename_i hk
    obtain ⟨q1, q2, q3, q4⟩ := p2 (by simpa using hk)
    refine ins3_inv (bump_inv p1 q1 (by rw [q4]; exact h.1.2)) (fun he => ?_)
    simp only [decide_eq_false_iff_not] at he;rw [q1]; omega
  ·obtain ⟨p1, p2⟩ := putI_inv (T := T) (place := min (i + 1) xs.length) (a := e.a.toNat) (n := n) h;split
   ·exact p1
   ·rename_i hk
    obtain ⟨q1, q2, q3, q4⟩ := p2 (by simpa using hk)
    refine ins3_inv (bump_inv p1 q1 (by rw [q4]; exact h.1.2)) (fun he => ?_)
    simp only [decide_eq_false_iff_not] at he;rw [q1]; omega
 ·refine ins3_inv h (fun he => ?_)
  simp only [decide_eq_false_iff_not] at he;omega
theorem insF_inv {T : InsD} {e : EntD} {s : InsS} {xs : List Gl} {i : Int} (h : InsInv 0 s xs) (hi : 0 ≤ i) (hh : 0 ≤ hereOf e) (hm : 0 ≤ markOf e) : InsInv 0 (insF T s xs i e).1 (insF T s xs i e).2.1 := by
 unfold insF;obtain ⟨n, hn⟩ := Int.eq_ofNat_of_zero_le hm;rw [hn];simp only [Int.toNat_natCast];split
 ·exact h
 ·split
  ·obtain ⟨p1, p2⟩ := putI_inv (T := T) (place := insMk e s) (a := e.b.toNat) (n := n) h;split
   ·exact p1
   ·rename_i hk
    obtain ⟨q1, q2, q3, q4⟩ := p2 (by simpa using hk)
    refine ins2_inv (bump_inv p1 q1 (by rw [q4]; exact h.1.2)) (by split <;> omega) hh
  ·exact ins2_inv h hi hh
def LvI (u : World) (base g gt : Nat) (sv : Value) (R : Nat) (s : InsS) (ys : List Gl) (w' : World) : Prop :=
 ∃ sv', LineAt w' base g sv' ys ∧ w'.heap[R]? = some (insObj gt g s) ∧ Mod (fun k => blk g sv k ∨ k = R) u w' ∧ ∀ k, sv'.ownBlock = some k → sv.ownBlock = some k ∨ u.heap.size ≤ k
theorem lv_apart {w : World} {base g gt R : Nat} {sv : Value} {ys : List Gl} {s : InsS} (h1 : LineAt w base g sv ys) (h2 : w.heap[R]? = some (insObj gt g s)) : ¬ blk g sv R := fun hb => by
 rcases hb with rfl | hb
 ·rw [h1.head] at h2; injection h2 with h2; injection h2 with _ h2 _; exact absurd h2 (by decide)
 ·exact own_ty h1.own h2 (by decide) hb
theorem LvI.set {u w' : World} {base g gt R : Nat} {sv : Value} {ys : List Gl} {mk lf dn : Int} {br : Bool} (h : LvI u base g gt sv R ⟨mk, lf, dn, br⟩ ys w') (m : Int) : LvI u base g gt sv R ⟨m, lf, dn, br⟩ ys (w'.setCell ⟨R, 2, none⟩ (.int .i64 m)) := by
 obtain ⟨sv', h1, h2, h3, h4⟩ := h;have hm : Mod (fun k => k = R) w' (w'.setCell ⟨R, 2, none⟩ (.int .i64 m)) := (Mod.refl (fun k => k = R) w').set (b := R) _ (.inl rfl)
 exact ⟨sv', h1.mod hm (fun k hk e => lv_apart h1 h2 (e ▸ hk)), heap_set (i := 2) h2 (.int .i64 m), h3.trans hm (fun k hk _ => .inr hk), h4⟩
theorem LvI.on {u w' w2 : World} {base g gt R : Nat} {sv : Value} {ys : List Gl} {s : InsS} (h : LvI u base g gt sv R s ys w') (hb : Below w'.heap.size w' w2) : LvI u base g gt sv R s ys w2 := by
 obtain ⟨sv', h1, h2, h3, h4⟩ := h;exact ⟨sv', h1.below hb, (hb.block _ (heap_lt h2)).trans h2, h3.on hb, h4⟩
theorem LvI.below {W0 u w' : World} {base g gt R : Nat} {sv : Value} {ys : List Gl} {s : InsS} (h : LvI u base g gt sv R s ys w') (hb : Below W0.heap.size W0 u) (hs : ∀ k, blk g sv k ∨ k = R → W0.heap.size ≤ k) : Below W0.heap.size W0 w' := by
 obtain ⟨_, _, _, h3, _⟩ := h;exact h3.below hb hs hb.size
theorem put_lv {u w : World} {base g gt R : Nat} {sv : Value} {xs : List Gl} {s : InsS} (T : InsD) (place : Int) (a n : Nat) (W0 : World) (E : Nat) (ent : Array Value) (h : LvI u base g gt sv R s xs w) (hT : InsAt W0 (.pointer (some ⟨gt, 0, none⟩)) T) (hb0 : Below W0.heap.size W0 u) (hs : ∀ k, blk g sv k ∨ k = R → W0.heap.size ≤ k) (hbase : base ≤ u.heap.size)
  (hI : InsInv 0 s xs) (ha : a ≤ 65535) (hn : n ≤ 31) (hfit : 2 * a + 2 * n ≤ T.list.length) (hE : w.heap[E]? = some (.cells ent 162 (0, 0))) :
  Calls Tryz.prog 120 #[.pointer (some ⟨R, 0, none⟩), .int .i64 place, .int .i64 a, .int .i64 n] w fun e w' => e = .returned (.bool (putI T s xs place a n).2.2) ∧ LvI u base g gt sv R (putI T s xs place a n).1 (putI T s xs place a n).2.1 w' ∧ w'.heap[E]? = some (.cells ent 162 (0, 0)) := by
 obtain ⟨sv', h1, h2, h3, h4⟩ := id h;refine (put_any base g gt R sv' xs T s place a n W0 w hT (h.below hb0 hs) (Nat.le_trans hbase h3.size) (hs R (.inr rfl)) h1 h2 hI ha hn hfit).mono ?_;rintro e w' ⟨rfl, hto⟩;have hm : Mod (fun k => blk g sv' k ∨ k = R) w w' := by obtain ⟨_, _, _, h, _⟩ := hto; exact h
 refine ⟨rfl, ?_, hm.heap hE (fun hb => ?_)⟩
 ·obtain ⟨sv2, k1, k2, k3, k4⟩ := hto;refine ⟨sv2, k1, k2, h3.trans k3 (fun k hk hlt => ?_), fun k hk => ?_⟩
  ·rcases hk with (rfl | hk) | hk
   ·exact .inl (.inl rfl)
   ·rcases h4 k hk with h | h
    ·exact .inl (.inr h)
    ·omega
   ·exact .inr hk
  ·rcases k4 k hk with h | h
   ·exact h4 k h
   ·exact .inr (Nat.le_trans h3.size h)
 ·rcases hb with (rfl | hb) | rfl
  ·rw [h1.head] at hE; injection hE with hE; injection hE with _ hE _; exact absurd hE (by decide)
  ·exact own_ty h1.own hE (by decide) hb
  ·rw [h2] at hE; injection hE with hE; injection hE with _ hE _; exact absurd hE (by decide)
def ActI (u : World) (base g gt : Nat) (sv : Value) (R : Nat) (r : InsS × List Gl × Int × Int) (e : Ending) (w' : World) : Prop := e = .returned (.tuple #[.int .i64 r.2.2.1, .int .i64 r.2.2.2]) ∧ LvI u base g gt sv R r.1 r.2.1 w'
set_option maxRecDepth 100000 in
set_option maxHeartbeats 32000000 in
theorem actA_any (base g gt R : Nat) (sv : Value) (xs : List Gl) (T : InsD) (mk lf dn pl en0 fl : Int) (aN bN hN mN : Nat) (W0 u : World) (hT : InsAt W0 (.pointer (some ⟨gt, 0, none⟩)) T) (hb0 : Below W0.heap.size W0 u) (hs : ∀ k, blk g sv k ∨ k = R → W0.heap.size ≤ k) (_hbase : base ≤ u.heap.size) (hL : LineAt u base g sv xs) (hK : u.heap[R]? = some (insObj gt g ⟨mk, lf, dn, true⟩)) (hI : InsInv 0 ⟨mk, lf, dn, true⟩ xs)
  (hfl : 0 ≤ fl ∧ fl ≤ 65535) (_haN : aN ≤ 65535) (_hbN : bN ≤ 65535) (hh : hereOf ⟨en0, fl, aN, bN⟩ = hN) (hm : markOf ⟨en0, fl, aN, bN⟩ = mN) (_hh31 : hN ≤ 31) (_hm31 : mN ≤ 31) (hfa : hN = 0 ∨ 2 * aN + 2 * hN ≤ T.list.length) (hfb : mN = 0 ∨ 2 * bN + 2 * mN ≤ T.list.length) (hpl : 0 ≤ pl ∧ pl ≤ 4398046511104) :
  Calls Tryz.prog 93 #[.pointer (some ⟨R, 0, none⟩), .int .i64 pl, .agg #[.int .i64 en0, .int .i64 fl, .int .i64 aN, .int .i64 bN]] u (ActI u base g gt sv R (insF T ⟨mk, lf, dn, true⟩ xs pl ⟨en0, fl, aN, bN⟩)) := by
 have k1 := Bas.heap_new u (.cells #[.int .i64 en0, .int .i64 fl, .int .i64 aN, .int .i64 bN] 162);have hb1 := (Below.refl u.heap.size u).alloc (Nat.le_refl _) (.cells #[.int .i64 en0, .int .i64 fl, .int .i64 aN, .int .i64 bN] 162);have HCN := Bas.hid (counts_any en0 fl aN bN (u.alloc (.cells #[.int .i64 en0, .int .i64 fl, .int .i64 aN, .int .i64 bN] 162)) hfl.1 hfl.2);rw [hh, hm] at HCN;have HT := Bas.hid hT;have HB0 := Bas.hid hb0;have HSET := Bas.hid hs;have HHH := Bas.hid hh;have HMM := Bas.hid hm;have HFA := Bas.hid hfa;have HFB := Bas.hid hfb;have HI0 := Bas.hid hI;have HS1 : Hid (LvI u base g gt sv R ⟨mk, lf, dn, true⟩ xs (u.alloc (.cells #[.int .i64 en0, .int .i64 fl, .int .i64 aN, .int .i64 bN] 162))) := LvI.on ⟨sv, hL, hK, Mod.refl _ _, fun k hk => .inl hk⟩ hb1
 have HE1 := Bas.hid k1;have q0 := cell_of_heap (i := 0) k1 rfl;have q1 := cell_of_heap (i := 1) k1 rfl;have q2 := cell_of_heap (i := 2) k1 rfl;have q3 := cell_of_heap (i := 3) k1 rfl;have lq := heap_lt k1;clear hT hb0 hs hL hK hI hh hm hfa hfb k1 hb1;go_enter Tryz.func93, Tryz.ntmps93
 go_wp2_with (fail);generalize (u.alloc (.cells #[.int .i64 en0, .int .i64 fl, .int .i64 aN, .int .i64 bN] 162)) = W1 at *;obtain ⟨E, hE⟩ : ∃ E, u.heap.size = E := ⟨_, rfl⟩;rw [hE] at HE1 ⊢;clear hE q0 q1 q2 q3 lq;refine HCN.out.mono ?_;rintro e wA ⟨rfl, hb2⟩;have HSA := Bas.hid (HS1.out.on hb2);have HEA := Bas.hid ((hb2.block _ (heap_lt HE1.out)).trans HE1.out);clear hb2 HCN HS1 HE1;have hRA : wA.heap[R]? = some (insObj gt g ⟨mk, lf, dn, true⟩) := by obtain ⟨_, _, h, _⟩ := id HSA.out; exact h
 have p5 := cell_of_heap (i := 5) (v := .bool true) hRA rfl;have p2 := cell_of_heap (i := 2) (v := .int .i64 mk) hRA rfl;have lp := heap_lt hRA;clear hRA;have HFIN : Hid (ActI u base g gt sv R (insF T ⟨mk, lf, dn, true⟩ xs pl ⟨en0, fl, aN, bN⟩) (.returned (.tuple #[.int .i64 pl, .int .i64 (pl + 1)])) wA) := by
  unfold Hid ActI insF; rw [if_pos rfl]; exact ⟨rfl, HSA.out⟩
 go_wp2_with (fail)
 go_ret2
 exact HFIN.out
end In
end Go.Proofs.YtoncnjhhdlpliaaGreat
