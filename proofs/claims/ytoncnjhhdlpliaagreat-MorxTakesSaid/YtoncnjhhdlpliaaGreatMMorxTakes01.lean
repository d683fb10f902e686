/- Parts of a proof: texts Own, LnD, PickMap, IdleSpeak, IdleSpeakW, MorxTakesW. -/
import Derived.Test.YtoncnjhhdlpliaaGreatMQ02
import Derived.Laws.AppendOwnNone
import Derived.Maps.RangeWalk
import Derived.Maps.Ext
import Derived.DeepKeys4
namespace Go.Proofs.YtoncnjhhdlpliaaGreat
open Go.RowKit
namespace Vw
theorem VB.block {w : World} {b o : Nat} {bs : List Int} {u : World} (h : VB w (some ⟨b, o, none⟩) bs) (hh : u.heap[b]? = w.heap[b]?) : VB u (some ⟨b, o, none⟩) bs :=
 ⟨h.len, h.byte, fun i hi => by
  obtain ⟨b', o', hab, hc⟩ := h.cell i hi;simp only [Option.some.injEq, Addr.mk.injEq, and_true] at hab;obtain ⟨rfl, rfl⟩ := hab;exact ⟨b, o, rfl, (World.cell?_of_block (w := w) hh).trans hc⟩⟩
theorem OwnB.block {w u : World} {g n : Nat} (h : OwnB w g n) (hh : u.heap[g]? = w.heap[g]?) : OwnB u g n := by
 obtain ⟨cur, h1, h2⟩ := h;exact ⟨cur, hh.trans h1, h2⟩
end Vw
namespace Ln
open Ch
theorem LineAt.base {w : World} {base base' g : Nat} {sv : Value} {xs : List Gl} (h : LineAt w base g sv xs) (hb : base' ≤ base) : LineAt w base' g sv xs :=
 ⟨h.head, Row.owned_base h.own hb, Nat.le_trans hb h.low⟩
end Ln
namespace Pk
open Ch Ft Go.Maps
theorem laidOut : laidOutB Tryz.prog = true := by kernel_rfl
end Pk
namespace Mx
open Vw Ch Lk St Ln Dr Rr Sw Cx In Lg Wr
theorem flat_byteM {α : Type} {f : α → List Int} : ∀ (l : List α), (∀ a ∈ l, ∀ x ∈ f a, 0 ≤ x ∧ x ≤ 255) → ∀ x ∈ l.flatMap f, 0 ≤ x ∧ x ≤ 255 := fun l h x hx => by
 obtain ⟨a, ha, hx⟩ := List.mem_flatMap.1 hx;exact h a ha x hx
theorem writeB_byteM (l : List WChain) (h : ∀ c ∈ l, okChain c) : ∀ x ∈ writeB l, 0 ≤ x ∧ x ≤ 255 := by
 have P := putB_byte;have hin : ∀ c ∈ l, ∀ x ∈ inB c, 0 ≤ x ∧ x ≤ 255 := fun c hc x hx => by
  obtain ⟨_, _, h3, h4, _⟩ := h c hc;simp only [inB, List.mem_append] at hx;rcases hx with (hx | hx) | hx
  ·refine flat_byteM _ (fun r _ y hy => ?_) x hx
   simp only [ruleB, List.mem_append] at hy;rcases hy with ((hy | hy) | hy) | hy <;> exact P _ _ y hy
  ·refine flat_byteM _ (fun s hs y hy => ?_) x hx
   simp only [subB, List.mem_append] at hy;rcases hy with ((hy | hy) | hy) | hy
   ·exact P _ _ y hy
   ·exact P _ _ y hy
   ·exact P _ _ y hy
   ·exact (h4 s hs).2.2.1 y hy
  ·rw [List.mem_replicate] at hx; omega
 intro x hx;simp only [writeB, headB, List.mem_append] at hx;rcases hx with ((hx | hx) | hx) | hx
 ·exact P _ _ x hx
 ·exact P _ _ x hx
 ·exact P _ _ x hx
 ·refine flat_byteM _ (fun c hc y hy => ?_) x hx
  simp only [chainB, List.mem_append] at hy;rcases hy with (((hy | hy) | hy) | hy) | hy
  ·exact P _ _ y hy
  ·exact P _ _ y hy
  ·exact P _ _ y hy
  ·exact P _ _ y hy
  ·exact hin c hc y hy
theorem writeB_lenM (l : List WChain) (hl : l.length ≤ 10) (h : ∀ c ∈ l, okChain c) : 8 ≤ (writeB l).length ∧ (writeB l).length ≤ 46238 := by
 have := Row.flat_len_le chainB 4623 l (fun c hc => chainB_len_le c (h c hc))
 simp only [writeB, List.length_append, headB_len];omega
def oneM : List WChain := [⟨1, [], [⟨4, 1, [0, 8, 0, 5, 0, 1, 0, 7]⟩], 0⟩]
def oneT : List MChain := [⟨1, [], [⟨4, 1, .swap [⟨5, 5, [7]⟩]⟩]⟩]
theorem oneM_ok : ∀ c ∈ oneM, okChain c := by
 intro c hc;simp only [oneM, List.mem_singleton] at hc;subst hc;refine ⟨by decide, by decide, fun r hr => ?_, fun s hs => ?_, by decide, by decide⟩
 ·cases hr
 ·simp only [List.mem_singleton] at hs; subst hs; exact ⟨by decide, by decide, by decide, by decide⟩
set_option maxRecDepth 100000 in
theorem oneM_parse : morxParse (writeB oneM) 9 = some oneT := by kernel_rfl
theorem oneT_flags : flagsOf oneT [] = [1] := by kernel_rfl
theorem oneT_run (F : WkF) (hF : ∀ ps left xs, F (.swap ps) left xs = ((swapRun ps xs).1, (0, (swapRun ps xs).2))) : chainsRun F 0 (oneT.zip [1]) 0 [(5, 0), (6, 1), (65535, 2)] 0 = ([(7, 0), (6, 1)], none) := by
 have ha : asks 1 0 ⟨4, 1, .swap [⟨5, 5, [7]⟩]⟩ = true := by kernel_rfl
 have ht : turnedOf 0 ⟨4, 1, .swap [⟨5, 5, [7]⟩]⟩ = false := by kernel_rfl
 have hr : runSub F 0 ⟨4, 1, .swap [⟨5, 5, [7]⟩]⟩ 0 [(5, 0), (6, 1), (65535, 2)] = ([(7, 0), (6, 1), (65535, 2)], (0, 0)) := by
  unfold runSub;rw [ht];simp only;rw [hF];kernel_rfl
 change chainsRun F 0 [(⟨1, [], [⟨4, 1, .swap [⟨5, 5, [7]⟩]⟩]⟩, 1)] 0 _ 0 = _;rw [chainsRun_cons];simp only;rw [subsRun_yes ha, hr];simp only [if_true, subsRun];kernel_rfl
def preLen (n : Nat) (xs : List Gl) (_ : Int) : Prop := xs.length ≤ n
theorem swapRun_len (ps : List PartD) (xs : List Gl) : (swapRun ps xs).1.length = xs.length := by unfold swapRun; simp
theorem oneT_ok (lf : LigD → List Gl → List Gl × Int) (inf : InsD → Int → List Gl → List Gl × (Int × Int)) : RunOk (fWork lf inf) (preLen 1000000) 0 oneT (flagsOf oneT []) := by
 intro i c fl hc hf s hs _;have hi : i = 0 := by
  have := (List.getElem?_eq_some_iff.1 hc).1;simp [oneT] at this; omega
 subst hi;cases hc;simp only [List.mem_singleton] at hs;subst hs;refine ⟨does_swap (fun xs left h => h) ⟨fun p hp => ?_, by kernel_rfl⟩ (by decide), fun xs left h => ?_⟩
 ·simp only [List.mem_singleton] at hp;subst hp;exact ⟨by decide, by decide, by decide, by decide, by decide, by decide⟩
 ·unfold preLen at h ⊢;have hl : (runSub (fWork lf inf) 0 ⟨4, 1, .swap [⟨5, 5, [7]⟩]⟩ left xs).1.length = xs.length := by
   unfold runSub;cases turnedOf 0 ⟨4, 1, .swap [⟨5, 5, [7]⟩]⟩ <;> simp [fWork, swapRun_len]
  rw [hl, List.length_reverse];exact ⟨h, by omega, h⟩
def lf0 : LigD → List Gl → List Gl × Int := fun _ xs => (xs, 0)
def inf0 : InsD → Int → List Gl → List Gl × (Int × Int) := fun _ _ xs => (xs, (0, 0))
set_option maxRecDepth 100000 in
set_option maxHeartbeats 8000000 in
theorem mspeaks_any (w : World) : Calls Tryz.prog 15 #[] w fun e w' => e = .returned (.bool true) ∧ Below w.heap.size w w' := by
 have WR := fun v w' h => write_any v oneM w' (by decide) oneM_ok h
 have HWR := Bas.hid WR;clear WR;go_enter Tryz.func15, Tryz.ntmps15
 go_wp2_with (fail);generalize hW2 : w.alloc (.cells #[.int .u8 0, .int .u8 8, .int .u8 0, .int .u8 5, .int .u8 0, .int .u8 1, .int .u8 0, .int .u8 7] 5) = W2;have s2 : W2.heap.size = w.heap.size + 1 := by rw [← hW2]; simp
 have b2 : W2.heap[w.heap.size]? = some (.cells #[.int .u8 0, .int .u8 8, .int .u8 0, .int .u8 5, .int .u8 0, .int .u8 1, .int .u8 0, .int .u8 7] 5 (0, 0)) := by rw [← hW2]; exact Bas.heap_new _ _
 have B2 : Below w.heap.size w W2 := by rw [← hW2]; exact (Below.refl _ _).alloc (Nat.le_refl _) _
 generalize hW3 : W2.alloc (.cells #[.int .u32 4, .int .u32 1, .slice (some ⟨w.heap.size, 0, none⟩) 8 8] 44) = W3;have s3 : W3.heap.size = w.heap.size + 1 + 1 := by rw [← hW3]; simp [s2]
 have b3 : W3.heap[w.heap.size]? = some (.cells #[.int .u8 0, .int .u8 8, .int .u8 0, .int .u8 5, .int .u8 0, .int .u8 1, .int .u8 0, .int .u8 7] 5 (0, 0)) := by rw [← hW3, Below.heap_alloc _ _ _ (by omega)]; exact b2
 have c3 : W3.heap[w.heap.size + 1]? = some (.cells #[.int .u32 4, .int .u32 1, .slice (some ⟨w.heap.size, 0, none⟩) 8 8] 44 (0, 0)) := by rw [← hW3, ← s2]; exact Bas.heap_new _ _
 have B3 : Below w.heap.size w W3 := by rw [← hW3]; exact B2.alloc (by omega) _
 generalize hW4 : W3.alloc (.cells #[.int .u32 1, .slice none 0 0, .slice (some ⟨w.heap.size + 1, 0, none⟩) 1 1, .int .u8 0] 31) = W4;have b4 : W4.heap[w.heap.size]? = some (.cells #[.int .u8 0, .int .u8 8, .int .u8 0, .int .u8 5, .int .u8 0, .int .u8 1, .int .u8 0, .int .u8 7] 5 (0, 0)) := by rw [← hW4, Below.heap_alloc _ _ _ (by omega)]; exact b3
 have c4 : W4.heap[w.heap.size + 1]? = some (.cells #[.int .u32 4, .int .u32 1, .slice (some ⟨w.heap.size, 0, none⟩) 8 8] 44 (0, 0)) := by rw [← hW4, Below.heap_alloc _ _ _ (by omega)]; exact c3
 have d4 : W4.heap[w.heap.size + 1 + 1]? = some (.cells #[.int .u32 1, .slice none 0 0, .slice (some ⟨w.heap.size + 1, 0, none⟩) 1 1, .int .u8 0] 31 (0, 0)) := by rw [← hW4, ← s3]; exact Bas.heap_new _ _
 have B4 : Below w.heap.size w W4 := by rw [← hW4]; exact B3.alloc (by omega) _
 clear hW2 hW3 hW4 s2 s3 b2 b3 c3 B2 B3;have hin : WChains W4 (.slice (some ⟨w.heap.size + 1 + 1, 0, none⟩) 1 1) oneM := by
  refine ⟨[(.slice none 0 0, .slice (some ⟨w.heap.size + 1, 0, none⟩) 1 1)], rfl, leads_heap d4, fun i c r hc hr => ?_⟩
  have hi : i = 0 := by
   have := (List.getElem?_eq_some_iff.1 hc).1;simp [oneM] at this; omega
  subst hi;cases hc; cases hr;refine ⟨.inl ⟨rfl, rfl, rfl⟩, [.slice (some ⟨w.heap.size, 0, none⟩) 8 8], rfl, leads_heap c4, fun j s d hs hd => ?_⟩
  have hj : j = 0 := by
   have := (List.getElem?_eq_some_iff.1 hs).1;simp at this; omega
  subst hj;cases hs; cases hd;refine ⟨_, _, rfl, ⟨by simp, by simp, fun i hi => ?_⟩, by simp, by simp [maxLen], by simp⟩
  refine ⟨_, _, rfl, cell_of_heap b4 ?_⟩;simp only [Nat.zero_add]
  match i, hi with
  | 0, _ => rfl
  | 1, _ => rfl
  | 2, _ => rfl
  | 3, _ => rfl
  | 4, _ => rfl
  | 5, _ => rfl
  | 6, _ => rfl
  | 7, _ => rfl
 refine (HWR.out _ W4 hin).mono ?_;rintro e w1 ⟨v1, rfl, hown, hb⟩;have hwl := writeB_lenM oneM (by decide) oneM_ok
 obtain ⟨g, cg, rfl, hgb, hgl, hgc, hgm, hvg, -⟩ := owned hown (fun e => by
  rcases Row.owned_parts hown with ⟨_, h0, _⟩ | ⟨_, _, h0, _⟩
  ·omega
  ·rw [h0] at e; cases e) rfl (writeB_byteM oneM oneM_ok) (by omega)
 have HB1 := Bas.hid (B4.trans (hb.mono B4.size));have HRD := Bas.hid (mread_any (some ⟨g, 0, none⟩) _ cg (writeB oneM) 9 w1 hgc hgm hvg rfl (by omega) (by simp) (by omega) (by omega))
 clear hown hb hin b4 c4 d4 B4 HWR hvg hgc hgm hgl hgb hwl;go_wp2_with (fail);refine HRD.out.mono ?_;rintro e w2 ⟨hb2, h⟩;rw [oneM_parse] at h;obtain ⟨p, rfl, hlv⟩ := h;have HB2 := Bas.hid (HB1.out.trans (hb2.mono HB1.out.size));have hat := hlv.now;obtain ⟨gt, vl, rs, hpe, hgt, hrest⟩ := id hat;cases hpe;have HAT := Bas.hid hat;clear hb2 hlv HRD HB1 hat hrest hgt;go_wp2_with (fail);have k3 := Bas.heap_new w2 (.cells #[.int .i64 5, .int .i64 6, .int .i64 65535] 3);have hb3 := (Below.refl w2.heap.size w2).alloc (Nat.le_refl _) (.cells #[.int .i64 5, .int .i64 6, .int .i64 65535] 3);have HB3 := Bas.hid hb3;have hld3 : Row.Leads (w2.alloc (.cells #[.int .i64 5, .int .i64 6, .int .i64 65535] 3)) (.slice (some ⟨w2.heap.size, 0, none⟩) 3 3) 3 (([5, 6, 65535] : List Int).map (Value.int .i64)) := leads_heap k3;have HLD3 := Bas.hid hld3;clear k3 hb3 hld3;generalize (w2.alloc (.cells #[.int .i64 5, .int .i64 6, .int .i64 65535] 3)) = W3 at *;refine (new_any _ [5, 6, 65535] 3 W3 HLD3.out rfl (by omega)).mono ?_
 rintro e w4 ⟨rfl, hb4, sv, hL⟩;have HB4 := Bas.hid (HB3.out.trans (hb4.mono HB3.out.size));have HL := Bas.hid hL;obtain ⟨G, hG⟩ : ∃ G, W3.heap.size = G := ⟨_, rfl⟩;have hGlo : w2.heap.size ≤ G := by rw [← hG]; exact HB3.out.size
 rw [hG] at HL ⊢;clear hb4 hL hG HLD3;go_wp2_with (fail);have hnil : ∀ u : World, Row.Leads u (.slice none 0 0) ([] : List (Int × Int)).length (([] : List (Int × Int)).flatMap Pk.setC) := fun u => .inl ⟨rfl, rfl, rfl⟩
 refine (mflags_any _ _ oneT [] w4 (HAT.out.below HB4.out) (by decide) (by decide) (hnil _) List.Pairwise.nil (by decide)).mono ?_
 rintro e w5 ⟨hb5, vf, rfl, hof⟩;rw [oneT_flags] at hof;have hof2 : w5.ownsRow w4.heap.size 27 1 vf 1 (([1] : List Int).flatMap fun x : Int => [Value.int .u32 x]) := hof
 obtain ⟨gf, cf, hvf, hgf, hgf2, -, hcf⟩ := Row.elem_cells (f := fun x : Int => [Value.int .u32 x]) (fun _ => rfl) hof2 (i := 0) (x := 1) rfl (by decide) rfl
 subst hvf;have HB5 := Bas.hid (HB4.out.trans (hb5.mono HB4.out.size));have HL5 := Bas.hid (HL.out.below hb5);have HFC := Bas.hid (hcf 0 _ rfl);clear hb5 hof hof2 hcf;go_wp2_with (fail);refine (mrun_any (fWork lf0 inf0) (preLen 1000000) (fun xs left h => h) _ _ oneT [] 0 0 G G sv (lnNew [5, 6, 65535]) w2 w5 HAT.out (by decide) (by decide) (by decide) (hnil _) List.Pairwise.nil (by decide) HB5.out hGlo HL5.out (by unfold preLen; decide) (oneT_ok lf0 inf0)).mono ?_
 rintro e w6 ⟨rfl, hto⟩;rw [oneT_flags] at hto ⊢;have hln : lnNew [5, 6, 65535] = [(5, 0), (6, 1), (65535, 2)] := by kernel_rfl
 rw [hln, oneT_run (fWork lf0 inf0) (fun _ _ _ => rfl)] at hto ⊢
 have hfv : faultV none = .agg #[.int .i64 0, .int .i64 0, .int .i64 0] := rfl;have hq : w6.cell? ⟨gf, 0, none⟩ = some (.int .u32 1) := by
  refine (World.cell?_of_block (lnTo_block hto hgf2 (fun hk => ?_))).trans HFC.out
  have h1 := (HL.out.blk_low gf hk).2;omega
 have lq := World.block_lt_of_cell? _ _ hq;obtain ⟨sv6, hL6, hm6, -⟩ := id hto;have HB6 := Bas.hid (hm6.below HB5.out (fun k hk => Nat.le_trans hGlo (HL5.out.blk_low k hk).1) HB5.out.size)
 have HL6 := Bas.hid hL6;have hbF := (Below.refl w6.heap.size w6).alloc (Nat.le_refl _) (.cells #[.int .i64 0, .int .i64 0, .int .i64 0] 36);have kF := Bas.heap_new w6 (.cells #[.int .i64 0, .int .i64 0, .int .i64 0] 36);have HBF := Bas.hid hbF;have f0 := cell_of_heap (i := 0) kF rfl;have f1 := cell_of_heap (i := 1) kF rfl;have f2 := cell_of_heap (i := 2) kF rfl;have lF := heap_lt kF;rw [hfv];clear hto hL6 hm6 hbF kF hnil;go_wp2_with (fail);generalize (w6.alloc (.cells #[.int .i64 0, .int .i64 0, .int .i64 0] 36)) = W7 at *;refine (glyphs_any G G sv6 [(7, 0), (6, 1)] W7 (HL6.out.below HBF.out) (by decide)).mono ?_
 rintro e w8 ⟨hb8, v8, rfl, ho8⟩;have HB8 := Bas.hid ((HB6.out.trans (HBF.out.mono HB6.out.size)).trans (hb8.mono (Nat.le_trans HB6.out.size HBF.out.size)));have HO8 := Bas.hid ho8;obtain ⟨a8, c8, rfl⟩ := own_slice ho8;clear hb8 ho8 f0 f1 f2 lF hq lq;go_wp2_with (fail);have k9 := Bas.heap_new w8 (.cells #[.int .i64 7, .int .i64 0, .int .i64 6, .int .i64 1] 47);have hb9 := (Below.refl w8.heap.size w8).alloc (Nat.le_refl _) (.cells #[.int .i64 7, .int .i64 0, .int .i64 6, .int .i64 1] 47);have HB9 := Bas.hid (HB8.out.trans (hb9.mono HB8.out.size));have hl1 := Row.leads_below (Row.leads_owned HO8.out) hb9;have hl2 : Row.Leads (w8.alloc (.cells #[.int .i64 7, .int .i64 0, .int .i64 6, .int .i64 1] 47)) (.slice (some ⟨w8.heap.size, 0, none⟩) 2 2) 2 (([(7, 0), (6, 1)] : List Gl).flatMap glC) := leads_heap k9;have HL1 := Bas.hid hl1;have HL2 := Bas.hid hl2;clear hl1 hl2 hb9 k9;generalize (w8.alloc (.cells #[.int .i64 7, .int .i64 0, .int .i64 6, .int .i64 1] 47)) = W9 at *;refine (rsame_any _ _ [(7, 0), (6, 1)] 2 W9 HL1.out HL2.out rfl (by omega)).mono ?_
 rintro e w10 ⟨rfl, hb10⟩;have HB10 := Bas.hid (HB2.out.trans ((HB9.out.trans (hb10.mono HB9.out.size)).mono HB2.out.size));clear hb10;go_wp2_with (fail);go_ret;exact ⟨rfl, HB10.out⟩
end Mx
namespace Mx
open Vw Ch Lk St Ln Dr
def MTakR (W : World) (bo : Nat) (P : Option (List MChain)) (S : Option Addr) (bs : List Int) (ok : Bool) (w2 : World) : Prop :=
 W.grownBy w2 (some bo) ∧ ok = P.isSome ∧ w2.frozen? ⟨bo, 0, none⟩ = false ∧ ∃ v, w2.cell? ⟨bo, 0, none⟩ = some v ∧ (P = none → v = .pointer none) ∧ (∀ T, P = some T → (∃ p, v = .pointer (some p)) ∧ Lives W.heap.size (fun u => VB u S bs → MorxAt u v T) w2)
set_option maxHeartbeats 4000000 in
theorem mtakes1_any (S : Option Addr) (len cap : Nat) (bs : List Int) (bv bo bt : Nat) (W : World) (hl : len ≤ cap) (hc : cap ≤ maxLen) (hv : VB W S bs) (hbl : bs.length = len) (hsmall : len ≤ 1000000000)
  (h0 : W.cell? ⟨bv, 0, none⟩ = some (.slice S len cap)) (h5 : W.cell? ⟨bo, 0, none⟩ = some (.pointer none)) (h6 : W.frozen? ⟨bo, 0, none⟩ = false) (hne : bt ≠ bo) (hk : W.heap[bt]? = some (.cells #[.bool false] 4 (0, 0))) :
  Calls Tryz.prog 17 #[.pointer (some ⟨bv, 0, none⟩), .pointer (some ⟨bo, 0, none⟩)] W (TryPost bt (MTakR W bo (morxParse bs 40) S bs)) := by
 have l0 := World.block_lt_of_cell? _ _ h0;have l5 := World.block_lt_of_cell? _ _ h5;have lt := (Array.getElem?_eq_some_iff.1 hk).1;have HV := Bas.hid hv;have H5 := Bas.hid h5;have H6 := Bas.hid h6;have HK := Bas.hid hk;clear hv h5 h6 hk;go_enter Tryz.func17, Tryz.ntmps17
 go_wp2_with (fail);refine (of_any S len cap W).mono ?_;rintro e w1 ⟨rfl, hb1⟩;have HB1 := Bas.hid hb1;have HT := Bas.hid (morxTake_any S len cap bs 40 w1 hl hc (HV.out.below hb1) hbl hsmall (by omega) (by omega))
 clear hb1;go_wp2_with (fail);refine HT.out.mono ?_;rintro e w2 ⟨hb2, he⟩;have hb : Below W.heap.size W w2 := HB1.out.trans (hb2.mono HB1.out.size);cases hp : morxParse bs 40 with
 | none =>
  rw [hp] at he;simp only at he;subst he;have HP : Hid (TryPost bt (MTakR W bo none S bs) (.panicked short) w2) := ⟨(hb.block bt lt).trans HK.out, .inr ⟨rfl, Bas.gbelow (Bas.grefl _ _) hb, rfl, (hb.frozen (p := ⟨bo, 0, none⟩) l5).trans H6.out, _, (hb.cell (p := ⟨bo, 0, none⟩) l5).trans H5.out, fun _ => rfl, fun T h => by cases h⟩⟩
  clear HT hb hp hb2 h0;go_wp2_with (fail);exact ⟨rfl, HP.out⟩
 | some T =>
  rw [hp] at he;simp only at he;obtain ⟨v, rfl, hok0⟩ := he;have hok := hok0.mono HB1.out.size;have HPP := Bas.hid hp;have hvp : ∃ p, v = .pointer (some p) := by
   obtain ⟨g, _, _, h, _⟩ := hok.now (HV.out.below hb);exact ⟨_, h⟩
  have c5 := (hb.cell (p := ⟨bo, 0, none⟩) l5).trans H5.out;have f5 := (hb.frozen (p := ⟨bo, 0, none⟩) l5).trans H6.out;have hs2 := hb.size;have lt2 : bo < w2.heap.size := by have : bo < W.heap.size := l5; omega
  have HP : Hid (TryPost bt (MTakR W bo (some T) S bs) (.returned (.tuple #[])) (w2.setCell ⟨bo, 0, none⟩ v)) := by
   refine ⟨(Below.heap_setCell _ _ _ _ hne).trans ((hb.block bt lt).trans HK.out), .inl ⟨rfl, Bas.gset (Bas.gbelow (Bas.grefl _ _) hb) 0 v, rfl, by simpa [go_sem] using f5, v, by simp [go_sem, c5], fun h => (by cases h), fun T' hT' => ⟨hvp, ?_⟩⟩⟩
   cases hT';exact fun u hu => hok u fun k h1 h2 => (hu k h1 (by simpa [World.setCell] using h2)).trans (Below.heap_setCell _ _ _ _ (by have : bo < W.heap.size := l5; show k ≠ bo; omega))
  obtain ⟨pp, rfl⟩ := hvp;clear HT hb hok hok0 hp h0 hb2;go_wp2_with (fail);refine bodyPost_ret (v := .tuple #[]) (by simp [results, Tryz.results17, go_sem]) rfl ?_
  rw [HPP.out];exact HP.out
set_option maxRecDepth 100000 in
set_option maxHeartbeats 16000000 in
theorem morxTakes_walk (a : Option Addr) (len cap : Nat) (z : List Int) (ida : Option Addr) (idn idc : Nat) (idz : List Int) (w : World) (hz : Bas.IsRow .u8 w a len cap z) (hidz : Bas.IsRow .i64 w ida idn idc idz) :
  Calls Tryz.prog 5 #[.slice a len cap, .slice ida idn idc] w fun e w' => e = .returned (.bool true) ∧ Below w.heap.size w w' := by
 have hmf : ∀ (fn : Fn) (first cap : Array Value) (w : World), (Instr.makeFunc fn first cap).run Tryz.prog w = .ok (.func fn first cap) w := fun _ _ _ _ => rfl
 have hcf : ∀ (caps : Array Value) w, (callFunc 17 caps).run Tryz.prog w = .ok (.enter 17 caps) w := fun caps w => by simp [go_sem]
 have HCF := Bas.hid hcf;have hlm : len ≤ 9223372036854775807 := by
  rcases hz with ⟨rfl, rfl, rfl, rfl⟩ | ⟨x, rfl, hl, hm, _⟩
  ·omega
  ·unfold maxLen at hm; omega
 have him : idn ≤ 9223372036854775807 := by
  rcases hidz with ⟨rfl, rfl, rfl, rfl⟩ | ⟨x, rfl, hl, hm, _⟩
  ·omega
  ·unfold maxLen at hm; omega
 have HZ := Bas.hid hz;have HID : Hid (Row.Leads w (.slice ida idn idc) idn ((idz.take idn).map (Value.int .i64)) ∧ (idz.take idn).length = idn) := by
  rcases hidz with ⟨rfl, rfl, rfl, rfl⟩ | ⟨x, rfl, hl, hm, hlz, hcell, _⟩
  ·exact ⟨.inl ⟨rfl, rfl, rfl⟩, rfl⟩
  ·refine ⟨.inr ⟨_, _, rfl, fun j u hu => ?_⟩, by rw [List.length_take]; omega⟩
   rw [List.getElem?_map] at hu;cases hj : (idz.take idn)[j]? with
   | none => rw [hj] at hu; cases hu
   | some y =>
    rw [hj] at hu;cases hu;have hjl := (List.getElem?_eq_some_iff.1 hj).1;rw [List.length_take] at hjl;rw [List.getElem?_take_of_lt (by omega)] at hj
    have := hcell j (by omega)
    rw [List.getD_eq_getElem?_getD, hj] at this;exact this
 generalize idz.take idn = ids at *;have k1 := Bas.heap_new w (.cells #[.slice a len cap] 42);have hb1 := (Below.refl w.heap.size w).alloc (Nat.le_refl _) (.cells #[.slice a len cap] 42);have HB1 := Bas.hid hb1;have HK1 := Bas.hid k1;clear hz hidz k1 hb1 hcf;go_enter Tryz.func5, Tryz.ntmps5
 go_wp2_with (fail);generalize (w.alloc (.cells #[.slice a len cap] 42)) = W1 at *;obtain ⟨T2, hT2⟩ : ∃ T2, w.heap.size = T2 := ⟨_, rfl⟩;have HT2 := Bas.hid hT2;rw [hT2] at HK1 ⊢;clear hT2;refine (mspeaks_any _).mono ?_;rintro e w2 ⟨rfl, hb2⟩;have HB2 := Bas.hid (HB1.out.trans (hb2.mono HB1.out.size));have HK2 := Bas.hid ((hb2.block _ (heap_lt HK1.out)).trans HK1.out);have c0 := cell_of_heap (i := 0) (v := .slice a len cap) HK2.out rfl;have lk := heap_lt HK2.out;clear hb2 HK1;by_cases hbig : 800 < len
 ·have e1 : decide ((800 : Int) < (len : Int)) = true := by simp; omega
  go_wp2_with (fail);go_ret;exact ⟨rfl, HB2.out⟩
 ·have e1 : decide ((800 : Int) < (len : Int)) = false := by simp; omega
  by_cases hbig2 : 40 < idn
  ·have e2 : decide ((40 : Int) < (idn : Int)) = true := by simp; omega
   go_wp2_with (fail);go_ret;exact ⟨rfl, HB2.out⟩
  ·have e2 : decide ((40 : Int) < (idn : Int)) = false := by simp; omega
   have hlen : len ≤ 800 := by omega
   have hidn : idn ≤ 40 := by omega
   obtain ⟨hvb0, hbl0, hl0, hc0, hn0⟩ := VB_of_row HZ.out (by omega)
   obtain ⟨bs, hbs⟩ : ∃ bs, z.take len = bs := ⟨_, rfl⟩;rw [hbs] at hvb0 hbl0;have HVB := Bas.hid hvb0;have HBL := Bas.hid hbl0;clear hvb0 hbl0 hbs hbig hbig2;have k3 := Bas.heap_new w2 (.cells #[.pointer none] 24);have hb3 := (Below.refl w2.heap.size w2).alloc (Nat.le_refl _) (.cells #[.pointer none] 24);have HB3 := Bas.hid (HB2.out.trans (hb3.mono HB2.out.size));have HK3 := Bas.hid ((hb3.block _ (heap_lt HK2.out)).trans HK2.out);have HT5 := Bas.hid k3;clear hb3 k3;go_wp2_with (fail);generalize (w2.alloc (.cells #[.pointer none] 24)) = W3 at *;obtain ⟨T5, hT5⟩ : ∃ T5, w2.heap.size = T5 := ⟨_, rfl⟩;have hT25 : w.heap.size ≤ T5 := by rw [← hT5]; exact HB2.out.size
   rw [hT5] at HT5 ⊢;clear hT5 c0 lk;have hb4 := (Below.refl W3.heap.size W3).alloc (Nat.le_refl _) (.cells #[.bool false] 4);have HC := Bas.hid (mtakes1_any a len cap bs T2 T5 W3.heap.size (W3.alloc (.cells #[.bool false] 4)) hl0 hc0 ((HVB.out.below HB3.out).below hb4) HBL.out (by omega)
    (cell_of_heap (i := 0) ((hb4.block _ (heap_lt HK3.out)).trans HK3.out) rfl) (cell_of_heap (i := 0) ((hb4.block _ (heap_lt HT5.out)).trans HT5.out) rfl) (free_of_heap (i := 0) ((hb4.block _ (heap_lt HT5.out)).trans HT5.out)) (by have := heap_lt HT5.out; omega) (Bas.heap_new _ _))
   refine (try_any 17 _ W3 _ (HCF.out _) HC.out).mono ?_;rintro e w5 ⟨ok, w6, rfl, ⟨hg6, hok, hfz6, v, hcv, hvn, hm⟩, hlt6, hg5⟩;have hs6 := hg6.size;simp only [World.size_alloc] at hs6;have hs5 := hg5.size;have l5 := heap_lt HT5.out;have hcv5 : w5.cell? ⟨T5, 0, none⟩ = some v := (Bas.gcell hg5 (by omega) (by simp; omega)).trans hcv
   have lo5 := World.block_lt_of_cell? _ _ hcv5;have HBF : Hid (Below w.heap.size w w5) := Bas.below_g (Bas.below_g (HB3.out.alloc HB3.out.size _) hg6 (by simp; omega) (by omega)) hg5 (by have := HB3.out.size; omega) (by have := HB3.out.size; omega)
   have hlt2 := heap_lt HK3.out;have hw3 := HB3.out.size;have hT2' := HT2.out;have hne25 : T2 ≠ T5 := fun e => by
    have h1 := HT5.out;rw [← e, HK3.out] at h1;injection h1 with h1; injection h1 with _ h1 _; exact absurd h1 (by decide)
   have hk25 : w5.heap[T2]? = some (.cells #[.slice a len cap] 42 (0, 0)) := ((hg5.block T2 (by omega) (by simp; omega)).trans ((hg6.block T2 (by simp; omega) (by simp; omega)).trans (Below.heap_alloc W3 _ _ hlt2))).trans HK3.out
   have HK5 := Bas.hid hk25;have HMT : Hid (∀ T, morxParse bs 40 = some T → (∃ p, v = .pointer (some p)) ∧ ∀ u, Below w5.heap.size w5 u → MorxAt u v T) := fun T hT => by
    obtain ⟨h1, h2⟩ := hm T hT;refine ⟨h1, fun u hu => h2 u (fun k q1 q2 => ?_) (HVB.out.below (HBF.out.trans (hu.mono HBF.out.size)))⟩
    simp only [World.size_alloc] at q1;exact (hu.block k (by omega)).trans (hg5.block k q2 (by simp; omega))
   have c0 := cell_of_heap (i := 0) (v := .slice a len cap) hk25 rfl;have lk := heap_lt hk25;have HCV := Bas.hid hcv5;have HOK := Bas.hid hok;have HVN := Bas.hid hvn;have HRD := Bas.hid (mread_any a len cap bs 40 w5 hl0 hc0 (HVB.out.below HBF.out) HBL.out (by omega) hn0 (by omega) (by omega))
   clear hg6 hok hfz6 hcv hvn hm hlt6 hg5 hs6 hs5 l5 hcv5 hlt2 hw3 hT2' hne25 hk25 HC hb4;go_wp2_with (fail);refine HRD.out.mono ?_;rintro e w7 ⟨hb7, h7⟩;have HB57 := Bas.hid hb7;have HB7 := Bas.hid (HBF.out.trans (hb7.mono HBF.out.size));have c5 := (hb7.cell (p := ⟨T5, 0, none⟩) lo5).trans HCV.out;have lo7 := World.block_lt_of_cell? _ _ c5;have HC5 := Bas.hid c5;clear hb7 HRD c0 lk;cases hP : morxParse bs 40 with
   | none =>
    rw [hP] at h7;simp only at h7;subst h7;have hv := HVN.out hP;subst hv;have hokk := HOK.out;rw [hP] at hokk;simp only [Option.isSome] at hokk;subst hokk;clear hP;go_wp2_with (fail);go_ret;exact ⟨rfl, HB7.out⟩
   | some T =>
    rw [hP] at h7;simp only at h7;obtain ⟨p2, rfl, hlv⟩ := h7;obtain ⟨⟨p, rfl⟩, hat1⟩ := HMT.out T hP;have HA1 := Bas.hid (hat1 w7 HB57.out);have hat2 := hlv.now;obtain ⟨g2, _, _, hpe, _⟩ := id hat2;cases hpe;have HA2 := Bas.hid hat2;have hokk := HOK.out;rw [hP] at hokk;simp only [Option.isSome] at hokk;subst hokk;have HFEW := Bas.hid (morx_few HVB.out.byte hP);have hbsl : bs.length ≤ 800 := by rw [HBL.out]; exact hlen
    have hT1 : T.length ≤ 100000 := by have := HFEW.out.len; omega
    have HT2r : Hid (∀ c ∈ T, c.rules.length ≤ 100000) := fun c hc => by have := HFEW.out.rules c hc; omega
    have HT3r : Hid (∀ c ∈ T, c.subs.length ≤ 1000000) := fun c hc => by have := HFEW.out.subs c hc; omega
    have HRO := Bas.hid (runOk_read HVB.out.byte (by omega) (by omega) hP 1 (flagsOf T []))
    clear hP hlv hat1 hat2;go_wp2_with (fail);refine (new_any _ ids idn w7 (Row.leads_below HID.out.1 HB7.out) HID.out.2 (by omega)).mono ?_
    rintro e w8 ⟨rfl, hb8, sv1, hL1⟩;obtain ⟨G1, hG1⟩ : ∃ G, w7.heap.size = G := ⟨_, rfl⟩;have HG1 := Bas.hid hG1;have HB78 := Bas.hid hb8;have HB8 := Bas.hid (HB7.out.trans (hb8.mono HB7.out.size));have HL1 := Bas.hid hL1;rw [hG1] at HL1 ⊢;clear hb8 hL1 hG1;go_wp2_with (fail);refine (new_any _ ids idn w8 (Row.leads_below HID.out.1 HB8.out) HID.out.2 (by omega)).mono ?_
    rintro e w9 ⟨rfl, hb9, sv2, hL2⟩;obtain ⟨G2, hG2⟩ : ∃ G, w8.heap.size = G := ⟨_, rfl⟩;have HG2 := Bas.hid hG2;have HB79 := Bas.hid (HB78.out.trans (hb9.mono HB78.out.size));have HB9 := Bas.hid (HB8.out.trans (hb9.mono HB8.out.size));have HL19 := Bas.hid (HL1.out.below hb9);have HL2 := Bas.hid hL2;rw [hG2] at HL2 ⊢;have c5 := (HB79.out.cell (p := ⟨T5, 0, none⟩) lo7).trans HC5.out;have lo9 := World.block_lt_of_cell? _ _ c5;clear hb9 hL2 hG2;go_wp2_with (fail);have hnil : ∀ u : World, Row.Leads u (.slice none 0 0) ([] : List (Int × Int)).length (([] : List (Int × Int)).flatMap Pk.setC) := fun u => .inl ⟨rfl, rfl, rfl⟩
    have hln : (lnNew ids).length = idn := by unfold lnNew; rw [lnPre_len]; exact HID.out.2
    have hpre : preL (lnNew ids) 50 := ⟨by omega, by rw [hln]; omega⟩
    have hG12 : w7.heap.size ≤ G1 := Nat.le_of_eq HG1.out;have hG22 : G1 < G2 := by rw [← HG2.out]; exact HL1.out.lt
    have hG29 : G2 < w9.heap.size := HL2.out.lt;obtain ⟨RR, hRR⟩ : ∃ r, chainsRun fAll 1 (T.zip (flagsOf T [])) 0 (lnNew ids) 50 = r := ⟨_, rfl⟩;have HRL : Hid (RR.1.length ≤ 1000000) := by unfold Hid; rw [← hRR]; exact chainsRun_len 1 _ 0 _ 50 hpre
    have hrun1 := mrun_any fAll preL preL_len _ _ T [] 1 50 G1 G1 sv1 (lnNew ids) w7 w9 HA1.out HT2r.out hT1 HT3r.out (hnil w9) List.Pairwise.nil (by decide) HB79.out hG12 HL19.out hpre HRO.out
    rw [hRR] at hrun1;have HR1 := Bas.hid hrun1;clear hrun1;refine HR1.out.mono ?_;rintro e w10 ⟨rfl, hto1⟩;obtain ⟨svx, hLx, hmx, hox⟩ := id hto1;have hbl1 := HL19.out.blk_low;have hsv1 : ∀ k, blk G1 sv1 k → k < w8.heap.size := fun k hk => (HL1.out.blk_low k hk).2
    have hg2w : w8.heap.size = G2 := HG2.out;have hL210 : LineAt w10 G2 G2 sv2 (lnNew ids) := HL2.out.mod hmx (fun k hk hb => by
     have h1 := (HL2.out.blk_low k hk).1;have h2 := hsv1 k hb;omega)
    have HB710 := Bas.hid (hmx.below HB79.out (fun k hk => Nat.le_trans hG12 (hbl1 k hk).1) HB79.out.size)
    have hrun2 := mrun_any fAll preL preL_len _ _ T [] 1 50 G2 G2 sv2 (lnNew ids) w7 w10 HA2.out HT2r.out hT1 HT3r.out (hnil w10) List.Pairwise.nil (by decide) HB710.out (by omega) hL210 hpre HRO.out
    rw [hRR] at hrun2;have HR2 := Bas.hid hrun2;obtain ⟨f0, f1, f2, hfv⟩ : ∃ x y z, faultV RR.2 = .agg #[.int .i64 x, .int .i64 y, .int .i64 z] := by
     cases RR.2 with
     | none => exact ⟨0, 0, 0, rfl⟩
     | some q => obtain ⟨x, y, z⟩ := q; exact ⟨x, y, z, rfl⟩
    rw [hfv] at HR2 ⊢;have HLx := Bas.hid hLx;have HMX := Bas.hid hmx;have HOX := Bas.hid hox;have HL210 := Bas.hid hL210;have HB10 := Bas.hid (HB7.out.trans (HB710.out.mono HB7.out.size));have HSV1 := Bas.hid hsv1;clear hto1 hLx hmx hox hbl1 hsv1 hL210 hrun2 hfv HR1 c5 lo9 hnil hRR;go_wp2_with (fail);refine HR2.out.mono ?_;rintro e w11 ⟨rfl, hto2⟩;obtain ⟨svy, hLy, hmy, -⟩ := id hto2;have hLx11 : LineAt w11 G1 G1 svx RR.1 := HLx.out.mod hmy (fun k hk hb => by
     have h1 := HL210.out.blk_low k hb;have hs9 := HMX.out.size;rcases hk with rfl | hk
     ·rcases hb with h | h
      ·omega
      ·have := (HL2.out.blk_low _ (.inr h)).1; omega
     ·rcases HOX.out k hk with h | h
      ·have := HSV1.out k (.inr h); omega
      ·have h2 := (HL2.out.blk_low k hb).2; omega)
    have HLX := Bas.hid hLx11;have HLY := Bas.hid hLy;have HB11 := Bas.hid (hmy.below HB10.out (fun k hk => Nat.le_trans (Nat.le_trans HB7.out.size (by omega)) (HL210.out.blk_low k hk).1) HB10.out.size)
    have e0 : (f0 == f0) = true := by simp
    have e1' : (f1 == f1) = true := by simp
    have e2' : (f2 == f2) = true := by simp
    clear hto2 hLy hmy hLx11 HR2;have hrl := HRL.out;go_wp2_with (fail);refine (glyphs_any G1 G1 svx RR.1 w11 HLX.out (by omega)).mono ?_
    rintro e w12 ⟨hb12, v12, rfl, ho12⟩;have HB12 := Bas.hid (HB11.out.trans (hb12.mono HB11.out.size));have HO12 := Bas.hid (Row.leads_owned ho12);have HLY12 := Bas.hid (HLY.out.below hb12);obtain ⟨a12, c12, rfl⟩ := own_slice ho12;clear hb12 ho12;go_wp2_with (fail);refine (glyphs_any G2 G2 svy RR.1 w12 HLY12.out (by omega)).mono ?_
    rintro e w13 ⟨hb13, v13, rfl, ho13⟩;have HB13 := Bas.hid (HB12.out.trans (hb13.mono HB12.out.size));have HO13 := Bas.hid (Row.leads_owned ho13);have HO123 := Bas.hid (Row.leads_below HO12.out hb13);obtain ⟨a13, c13, rfl⟩ := own_slice ho13;clear hb13 ho13;go_wp2_with (fail);refine (rsame_any _ _ RR.1 _ w13 HO123.out HO13.out rfl (by omega)).mono ?_
    rintro e w14 ⟨rfl, hb14⟩;have HB14 := Bas.hid (HB13.out.trans (hb14.mono HB13.out.size));clear hb14;go_wp2_with (fail);go_ret;exact ⟨rfl, HB14.out⟩
end Mx
end Go.Proofs.YtoncnjhhdlpliaaGreat
