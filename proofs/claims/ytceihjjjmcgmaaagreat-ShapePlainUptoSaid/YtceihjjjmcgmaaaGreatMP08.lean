/- Parts of a proof: texts RefFace, Open, Bulk, PickA, PickLay, PickSort, FeatExcl, PickMap, BulkP, ShSmall, FeatRef, PickSettleD. -/
import Derived.Test.YtceihjjjmcgmaaaGreatMP07
import Derived.Laws.ResultCell
import Derived.ProofKit
import Derived.OpenShut
import Derived.Deep.Slices
import Derived.Test.YtceihjjjmcgmaaaGreatRows
import Derived.Sort.Grow
import Derived.Shelf.SlSortCmp.WholeK
import Derived.Maps.RangeWalk
import Derived.Maps.Ext
import Derived.DeepKeys4
set_option maxHeartbeats 16000000
set_option maxRecDepth 100000
namespace Go.Proofs.YtceihjjjmcgmaaaGreat
open Go.RowKit
namespace Fo
open Vw Wr Ref01
theorem rface_ok(a:Option Addr)(len cap:Nat)(bs:List Int)(P:List PartD)(i0 i1 i2 g m:Nat)(w:World)(hl:len≤cap)(hc:cap≤maxLen)(hv:VB w a bs)(hbl:bs.length=len)(hF:IsFont bs P)(h0:P[i0]? =some ⟨sMaxp,maxpL (g:Nat)⟩)(h1:P[i1]? =some ⟨sHead,headL 1000⟩)(h2:P[i2]? =some ⟨sHhea,hheaL (m:Nat)⟩)
  (hm1:1≤m) (hmg:m≤g) (hgb:g≤65535):
  Calls Tryz.prog 20 #[.slice a len cap] w fun e w'=>e=.returned (.tuple #[.agg #[.int .i64 (g:Int),.int .i64 1000,.int .i64 (m:Int)],.bool true])∧Below w.heap.size w w':=by
 have HF0:=fun w' (hb:Below w.heap.size w w')=>rfind_yes a len cap bs P sMaxp i0 _ h0 rfl w' hl hc (hv.below hb) hbl hF
 have HF1:=fun w' (hb:Below w.heap.size w w')=>rfind_yes a len cap bs P sHead i1 _ h1 rfl w' hl hc (hv.below hb) hbl hF
 have HF2:=fun w' (hb:Below w.heap.size w w')=>rfind_yes a len cap bs P sHhea i2 _ h2 rfl w' hl hc (hv.below hb) hbl hF
 simp only [maxpL_len,headL_len,hheaL_len] at HF0 HF1 HF2;generalize sl a (atM P i0) cap=A0 at*;generalize sl a (atM P i1) cap=A1 at*;generalize sl a (atM P i2) cap=A2 at*;generalize cap - atM P i0=C0 at*;generalize cap - atM P i1=C1 at*;generalize cap - atM P i2=C2 at*;have HG0:=Bas.hid HF0;have HG1:=Bas.hid HF1;have HG2:=Bas.hid HF2;have k1:=Bas.heap_new w (.cells #[.int .i64 0,.int .i64 0,.int .i64 0] 50);have HB1:=Bas.hid ((Below.refl w.heap.size w).alloc (Nat.le_refl _) (.cells #[.int .i64 0,.int .i64 0,.int .i64 0] 50));clear hv hbl hF h0 h1 h2 HF0 HF1 HF2;go_enter Tryz.func20,Tryz.ntmps20
 go_wp2_with (fail);generalize w.alloc (.cells #[.int .i64 0,.int .i64 0,.int .i64 0] 50)=W1 at*;refine (HG0.out _ HB1.out).mono ?_;rintro e w2 ⟨rfl,hb2,v0,l0⟩;have HB2:=Bas.hid (HB1.out.trans (hb2.mono HB1.out.size));have k2:=(hb2.block _ (heap_lt k1)).trans k1;have HV0:=Bas.hid (v0.below hb2);clear hb2 k1 v0 HG0 HB1;go_wp2_with (fail);refine (HG1.out _ HB2.out).mono ?_;rintro e w3 ⟨rfl,hb3,v1,l1⟩;have HB3:=Bas.hid (HB2.out.trans (hb3.mono HB2.out.size));have k3:=(hb3.block _ (heap_lt k2)).trans k2;have HW0:=Bas.hid (HV0.out.below hb3);have HV1:=Bas.hid (v1.below hb3);clear hb3 k2 v1 HG1 HB2 HV0;go_wp2_with (fail);refine (HG2.out _ HB3.out).mono ?_;rintro e w4 ⟨rfl,hb4,v2,l2⟩;have HB4:=Bas.hid (HB3.out.trans (hb4.mono HB3.out.size));have k4:=(hb4.block _ (heap_lt k3)).trans k3;have HU0:=Bas.hid (HW0.out.below hb4);have HU1:=Bas.hid (HV1.out.below hb4);have HU2:=Bas.hid (v2.below hb4);clear hb4 k3 v2 HG2 HB3 HW0 HV1;have UA:=Bas.hid (u_at A0 6 C0 (maxpL (g:Nat)) 0 4 (by omega) 0 4 rfl rfl (by omega) (maxpL_len _) (by omega) w4 HU0.out)
 rw [maxp_kind] at UA;have UB:=Bas.hid (u_at A0 6 C0 (maxpL (g:Nat)) 4 2 (by omega) 4 2 rfl rfl (by omega) (maxpL_len _) (by omega) w4 HU0.out)
 rw [maxp_g _ (by omega)] at UB
 have UC:=Bas.hid (u_at A1 54 C1 (headL 1000) 18 2 (by omega) 18 2 rfl rfl (by omega) (headL_len _) (by omega) w4 HU1.out)
 rw [head_u _ (by omega)] at UC
 have UD:=Bas.hid (u_at A2 36 C2 (hheaL (m:Nat)) 34 2 (by omega) 34 2 rfl rfl (by omega) (hheaL_len _) (by omega) w4 HU2.out)
 rw [hhea_m _ (by omega)] at UD
 go_wp2_with (fail);refine UA.out.mono ?_;rintro e w' ⟨rfl,rfl⟩;go_wp2_with (fail);refine UB.out.mono ?_;rintro e w' ⟨rfl,rfl⟩;go_wp2_with (fail);refine UC.out.mono ?_;rintro e w' ⟨rfl,rfl⟩;go_wp2_with (fail);refine UD.out.mono ?_;rintro e w' ⟨rfl,rfl⟩;have lT:=heap_lt k4;have HB5:=Bas.hid (HB4.out.alloc HB4.out.size (.cells #[.int .i64 (g:Int),.int .i64 1000,.int .i64 (m:Int)] 50));have n5:=Bas.heap_new w4 (.cells #[.int .i64 (g:Int),.int .i64 1000,.int .i64 (m:Int)] 50);have k5:=(Below.heap_alloc w4 (.cells #[.int .i64 (g:Int),.int .i64 1000,.int .i64 (m:Int)] 50) _ lT).trans k4;have UE:=Bas.hid (fun u (hb:Below w4.heap.size w4 u)=>u_at A1 54 C1 (headL 1000) 12 4 (by omega) 12 4 rfl rfl (by omega) (headL_len _) (by omega) u (HU1.out.below hb))
 rw [head_kind] at UE;have hal:=(Below.refl w4.heap.size w4).alloc (Nat.le_refl _) (.cells #[.int .i64 (g:Int),.int .i64 1000,.int .i64 (m:Int)] 50);clear UA UB UC UD HU0 HU2 k4;go_wp2_with (fail);refine (UE.out _ hal).mono ?_;rintro e w' ⟨rfl,rfl⟩;generalize w4.alloc (.cells #[.int .i64 (g:Int),.int .i64 1000,.int .i64 (m:Int)] 50)=W5 at*;generalize w4.heap.size=T5 at*;have hne:w.heap.size≠T5:=by omega
 have c0:=cell_of_heap (i:=0) (v:=.int .i64 (g:Int)) n5 rfl;have c1:=cell_of_heap (i:=1) (v:=.int .i64 1000) n5 rfl;have c2:=cell_of_heap (i:=2) (v:=.int .i64 (m:Int)) n5 rfl;have l5:=heap_lt n5;have l6:=heap_lt k5;have f0:=free_of_heap (i:=0) k5;have f1:=free_of_heap (i:=1) k5;have f2:=free_of_heap (i:=2) k5;have d0:=cell_of_heap (i:=0) (v:=.int .i64 0) k5 rfl;have d1:=cell_of_heap (i:=1) (v:=.int .i64 0) k5 rfl;have d2:=cell_of_heap (i:=2) (v:=.int .i64 0) k5 rfl;have e1:decide ((g:Int)<1)=false:=by simp;omega
 have e2:decide ((m:Int)<1)=false:=by simp;omega
 have e3:decide ((g:Int)<(m:Int))=false:=by simp;omega
 have e4:decide (g<m)=false:=by simp;omega
 clear UE hal HU1 hne;go_wp2_with (fail);have q:=heap_set (i:=2) (heap_set (i:=1) (heap_set (i:=0) k5 (.int .i64 (g:Int))) (.int .i64 1000)) (.int .i64 (m:Int));have HB8:=Bas.hid (((HB5.out.setCell (p:=⟨w.heap.size,0,none⟩) (Nat.le_refl _) (.int .i64 (g:Int))).setCell (p:=⟨w.heap.size,1,none⟩) (Nat.le_refl _) (.int .i64 1000)).setCell (p:=⟨w.heap.size,2,none⟩) (Nat.le_refl _) (.int .i64 (m:Int)));generalize ((W5.setCell ⟨w.heap.size,0,none⟩ (.int .i64 (g:Int))).setCell ⟨w.heap.size,1,none⟩ (.int .i64 1000)).setCell ⟨w.heap.size,2,none⟩ (.int .i64 (m:Int))=W8 at*;have k8:W8.heap[w.heap.size]? =some (.cells #[.int .i64 (g:Int),.int .i64 1000,.int .i64 (m:Int)] 50 (0,0)):=q;clear c0 c1 c2 d0 d1 d2 f0 f1 f2 l5 l6 q;have c0:=cell_of_heap (i:=0) k8 rfl;have c1:=cell_of_heap (i:=1) k8 rfl;have c2:=cell_of_heap (i:=2) k8 rfl;refine bodyPost_ret (v:=.tuple #[.agg #[.int .i64 (g:Int),.int .i64 1000,.int .i64 (m:Int)],.bool true]) ?_ rfl ⟨rfl,HB8.out⟩;rw [results_cell_tmp rfl]
 go_simp
theorem infoRI:(Tryz.prog.info? 3).map (fun i=>(i.zero,i.size,i.bytes))=some (some (.int .i64 0),1,8):=by kernel_rfl
def advR(g m:Nat)(d:List Int):List Int:=(List.range g).map fun (i:Nat)=>advL g m d (i:Int)
theorem advR_len(g m:Nat)(d:List Int):(advR g m d).length=g:=by simp [advR]
theorem advR_succ(g m:Nat)(d:List Int)(i:Nat)(h:i<g):(advR g m d).take (i+1)=(advR g m d).take i++[advL g m d (i:Int)]:=by
 rw [List.take_add_one];unfold advR;rw [List.getElem?_map,List.getElem?_range h];rfl
theorem advR_get(g m:Nat)(d:List Int)(i:Nat)(h:i<g):(advR g m d)[i]? =some (advL g m d (i:Int)):=by
 unfold advR;rw [List.getElem?_map,List.getElem?_range h];rfl
def atR(m i:Nat):Nat:=if i≤m then 4*i else 4*m+2*(i - m)
def lastR(g m:Nat)(d:List Int)(i:Nat):Int:=if i=0 then 0 else advL g m d ((i:Int) - 1)
structure WSt (w u:World) (T TF g m n k:Nat) (A:List Int) (va vb:Value):Prop where
 bel:Below w.heap.size w u
 head:u.heap[T]? =some (.cells #[va,vb] 52 (0,0))
 l:u.ownsRow w.heap.size 3 1 va n (A.map (Value.int .i64))
 r:∃B:List Int,u.ownsRow w.heap.size 3 1 vb k (B.map (Value.int .i64))
 apart:∀g,va.ownBlock=some g→vb.ownBlock≠some g
 box:u.heap[w.heap.size]? =some (.cells #[.slice none 0 0,.slice none 0 0] 52 (0,0))
 face:u.heap[TF]? =some (.cells #[.int .i64 (g:Int),.int .i64 1000,.int .i64 (m:Int)] 50 (0,0))
 lt:w.heap.size<T
 ne:TF≠T
theorem WSt.below{w u u':World}{T TF g m n k:Nat}{A:List Int}{va vb:Value}(h:WSt w u T TF g m n k A va vb)(hb:Below u.heap.size u u'):WSt w u' T TF g m n k A va vb:=
 ⟨h.bel.trans (hb.mono h.bel.size),(hb.block _ (heap_lt h.head)).trans h.head,Row.owned_below h.l hb,by obtain ⟨B,hB⟩:=h.r;exact ⟨B,Row.owned_below hB hb⟩,h.apart,(hb.block _ (heap_lt h.box)).trans h.box,(hb.block _ (heap_lt h.face)).trans h.face,h.lt,h.ne⟩
theorem WSt.pushL{w u u9:World}{T TF g m n k:Nat}{A A':List Int}{va vb va':Value}(h:WSt w u T TF g m n k A va vb)(ho:u9.ownsRow w.heap.size 3 1 va' (n+1) (A'.map (Value.int .i64)))(hg:u.grownBy u9 va.ownBlock)(hat:va'.ownBlock=va.ownBlock∨va'.ownBlock=some u.heap.size):
  u9.heap[T]? =some (.cells #[va,vb] 52 (0,0))∧WSt w (u9.setCell ⟨T,0,none⟩ va') T TF g m (n+1) k A' va' vb:=by
 have k1:=(hg.block _ (heap_lt h.head) (fun e=>own_ty h.l h.head (by decide) e.symm)).trans h.head
 have k2:=(hg.block _ (heap_lt h.box) (fun e=>own_ty h.l h.box (by decide) e.symm)).trans h.box
 have k3:=(hg.block _ (heap_lt h.face) (fun e=>own_ty h.l h.face (by decide) e.symm)).trans h.face
 have hh:=heap_set (i:=0) k1 va';refine ⟨k1,(h.bel.grown hg h.bel.size (fun g' hg'=>(Row.own_block h.l hg').1)).setCell (p:=⟨T,0,none⟩) (Nat.le_of_lt h.lt) va',hh,Row.owned_keep ho fun b hb=>Below.heap_setCell _ _ _ _ (fun e=>own_ty ho k1 (by decide) (by rw [hb,e])), ?_,fun b hb=> ?_,(Below.heap_setCell _ _ _ _ (by have:=h.lt;show w.heap.size≠T;omega)).trans k2,(Below.heap_setCell _ _ _ _ h.ne).trans k3,h.lt,h.ne⟩
 ·obtain ⟨B,hB⟩:=h.r;have hB2:=Row.owned_keep hB (w':=u9) fun b hb=>hg.block b (Row.own_block hB hb).2 (fun e=>h.apart b e.symm hb)
  exact ⟨B,Row.owned_keep hB2 fun b hb=>Below.heap_setCell _ _ _ _ (fun e=>own_ty hB2 k1 (by decide) (by rw [hb,e]))⟩
 ·obtain ⟨B,hB⟩:=h.r;rcases hat with e|e
  ·exact h.apart b (e▸hb)
  ·rw [e] at hb;cases hb;exact fun e2=>absurd (Row.own_block hB e2).2 (Nat.lt_irrefl _)
theorem WSt.pushR{w u u9:World}{T TF g m n k:Nat}{A B B':List Int}{va vb vb':Value}(h:WSt w u T TF g m n k A va vb)(hB:u.ownsRow w.heap.size 3 1 vb k (B.map (Value.int .i64)))(ho:u9.ownsRow w.heap.size 3 1 vb' (k+1) (B'.map (Value.int .i64)))(hg:u.grownBy u9 vb.ownBlock)(hat:vb'.ownBlock=vb.ownBlock∨vb'.ownBlock=some u.heap.size):
  u9.heap[T]? =some (.cells #[va,vb] 52 (0,0))∧WSt w (u9.setCell ⟨T,1,none⟩ vb') T TF g m n (k+1) A va vb':=by
 have k1:=(hg.block _ (heap_lt h.head) (fun e=>own_ty hB h.head (by decide) e.symm)).trans h.head
 have k2:=(hg.block _ (heap_lt h.box) (fun e=>own_ty hB h.box (by decide) e.symm)).trans h.box
 have k3:=(hg.block _ (heap_lt h.face) (fun e=>own_ty hB h.face (by decide) e.symm)).trans h.face
 have hh:=heap_set (i:=1) k1 vb';have hl2:=Row.owned_keep h.l (w':=u9) fun b hb=>hg.block b (Row.own_block h.l hb).2 (fun e=>h.apart b hb e.symm)
 refine ⟨k1,(h.bel.grown hg h.bel.size (fun g' hg'=>(Row.own_block hB hg').1)).setCell (p:=⟨T,1,none⟩) (Nat.le_of_lt h.lt) vb',hh,Row.owned_keep hl2 fun b hb=>Below.heap_setCell _ _ _ _ (fun e=>own_ty hl2 k1 (by decide) (by rw [hb,e])),⟨B',Row.owned_keep ho fun b hb=>Below.heap_setCell _ _ _ _ (fun e=>own_ty ho k1 (by decide) (by rw [hb,e]))⟩,fun b hb e=> ?_,(Below.heap_setCell _ _ _ _ (by have:=h.lt;show w.heap.size≠T;omega)).trans k2,(Below.heap_setCell _ _ _ _ h.ne).trans k3,h.lt,h.ne⟩
 rcases hat with e2|e2
 ·exact h.apart b hb (e2▸e)
 ·rw [e2] at e;cases e;exact absurd (Row.own_block h.l hb).2 (Nat.lt_irrefl _)
theorem rwidth_ok(a:Option Addr)(len cap:Nat)(bs:List Int)(P:List PartD)(i0 i1 i2 i3 g m:Nat)(d:List Int)(w:World)(hl:len≤cap)(hc:cap≤maxLen)(hv:VB w a bs)(hbl:bs.length=len)(hF:IsFont bs P)(h0:P[i0]? =some ⟨sMaxp,maxpL (g:Nat)⟩)(h1:P[i1]? =some ⟨sHead,headL 1000⟩)(h2:P[i2]? =some ⟨sHhea,hheaL (m:Nat)⟩)(h3:P[i3]? =some ⟨sHmtx,d⟩)
  (hm1:1≤m) (hmg:m≤g) (hgb:g≤65535) (hd:d.length=4*m+2*(g - m)):
  Calls Tryz.prog 21 #[.slice a len cap] w fun e w'=>∃a1 c1 a2 c2,e=.returned (.tuple #[.agg #[.slice a1 g c1,.slice a2 g c2],.bool true])∧Below w.heap.size w w'∧w'.ownsRow w.heap.size 3 1 (.slice a1 g c1) g ((advR g m d).map (Value.int .i64)):=by
 have HRF:=Bas.hid (fun w' (hb:Below w.heap.size w w')=>rface_ok a len cap bs P i0 i1 i2 g m w' hl hc (hv.below hb) hbl hF h0 h1 h2 hm1 hmg hgb)
 have HF3:=fun w' (hb:Below w.heap.size w w')=>rfind_yes a len cap bs P sHmtx i3 _ h3 rfl w' hl hc (hv.below hb) hbl hF
 obtain ⟨hdat,hend⟩:=hF.data i3 _ h3;have hfew:=hF.few;have hva:=hv.sl (atM P i3) d.length cap hend (by omega)
 simp only at HF3 hend hdat;rw [hdat] at hva;have HVA:=Bas.hid hva;clear hva hdat;obtain ⟨L,hL⟩:∃L,d.length=L:=⟨_,rfl⟩;rw [hL] at HF3 hd hend;generalize sl a (atM P i3) cap=A3 at*;generalize cap - atM P i3=C3 at*;have HG3:=Bas.hid HF3;have HL:=Bas.hid hL;have hLm:L≤1000000:=by omega
 have k1:=Bas.heap_new w (.cells #[.slice none 0 0,.slice none 0 0] 52);have HB1:=Bas.hid ((Below.refl w.heap.size w).alloc (Nat.le_refl _) (.cells #[.slice none 0 0,.slice none 0 0] 52));have HD:Hid (L=4*m+2*(g - m)):=hd;clear hv hbl hF h0 h1 h2 h3 HF3 hL hend hfew hd;go_enter Tryz.func21,Tryz.ntmps21
 go_wp2_with (fail);generalize w.alloc (.cells #[.slice none 0 0,.slice none 0 0] 52)=W1 at*;refine (HRF.out _ HB1.out).mono ?_;rintro e w2 ⟨rfl,hb2⟩;have HB2:=Bas.hid (HB1.out.trans (hb2.mono HB1.out.size));have k2:=(hb2.block _ (heap_lt k1)).trans k1;clear hb2 k1 HRF HB1;have hb3:=(Below.refl w2.heap.size w2).alloc (Nat.le_refl _) (.cells #[.int .i64 (g:Int),.int .i64 1000,.int .i64 (m:Int)] 50);have n3:=Bas.heap_new w2 (.cells #[.int .i64 (g:Int),.int .i64 1000,.int .i64 (m:Int)] 50);have k3:=(hb3.block _ (heap_lt k2)).trans k2;have HB3:=Bas.hid (HB2.out.trans (hb3.mono HB2.out.size));have lT:=heap_lt k2;go_wp2_with (fail);generalize w2.alloc (.cells #[.int .i64 (g:Int),.int .i64 1000,.int .i64 (m:Int)] 50)=w3 at*;generalize w2.heap.size=TF at*;refine (HG3.out _ HB3.out).mono ?_;rintro e w4 ⟨rfl,hb4,v3,l3⟩;have HB4:=Bas.hid (HB3.out.trans (hb4.mono HB3.out.size));have k4:=(hb4.block _ (heap_lt k3)).trans k3;have n4:=(hb4.block _ (heap_lt n3)).trans n3;clear hb4 hb3 k2 k3 n3 v3 HG3 HB2 HB3;go_wp2_with (fail);have hb5:=(Below.refl w4.heap.size w4).alloc (Nat.le_refl _) (.cells #[.slice none 0 0,.slice none 0 0] 52);have k5:=(hb5.block _ (heap_lt k4)).trans k4;have n5:=(hb5.block _ (heap_lt n4)).trans n4;have s5:=Bas.heap_new w4 (.cells #[.slice none 0 0,.slice none 0 0] 52);have HB5:=Bas.hid (HB4.out.trans (hb5.mono HB4.out.size));have hT1:w.heap.size<w4.heap.size:=heap_lt k4;have hT2:TF<w4.heap.size:=heap_lt n4;generalize w4.alloc (.cells #[.slice none 0 0,.slice none 0 0] 52)=w5 at*;generalize w4.heap.size=T8 at*;clear hb5 k4 n4 HB4;have HST:Hid (WSt w w5 T8 TF g m 0 0 ((advR g m d).take 0) (.slice none 0 0) (.slice none 0 0)):=⟨HB5.out,s5,Row.owned_nil _ _ _ _,⟨[],Row.owned_nil _ _ _ _⟩,fun g h=>(by cases h),k5,n5,hT1,by omega⟩
 clear s5 HB5 k5 n5;go_loopw [9,10,11] (fun vt vl vi wr=>∃(i:Nat) (va vb:Value),i≤g∧vi=.int .i64 i∧vt=.int .i64 (atR m i:Nat)∧vl=.int .i64 (lastR g m d i)∧WSt w wr T8 TF g m i i ((advR g m d).take i) va vb) (fun _ _ vi _=>g - (intOf vi).toNat)
 case atStart=>exact ⟨0,_,_,Nat.zero_le _,rfl,rfl,rfl,HST.out⟩
 case round=>
  obtain ⟨i,va,vb,hi,rfl,rfl,rfl,hst⟩:=hrel;have HS:=Bas.hid hst;have HV:=Bas.hid (HVA.out.below hst.bel);have n6:=hst.face;clear HST hst;have cg:=cell_of_heap (i:=0) (v:=.int .i64 (g:Int)) n6 rfl;have cm:=cell_of_heap (i:=2) (v:=.int .i64 (m:Int)) n6 rfl;have lF:=heap_lt n6;clear n6;by_cases hig:i<g
  ·have e1:decide ((i:Int)<(g:Int))=true:=by simp;omega
   have e2:decide (i<g)=true:=by simp;omega
   obtain ⟨x,hx⟩:∃x,advL g m d (i:Int)=x:=⟨_,rfl⟩;have hsucc:=advR_succ g m d i hig;have hlast:lastR g m d (i+1)=x:=by unfold lastR;rw [if_neg (by omega),←hx];congr 1;omega
   have hxd:x=be d (4*(if (m:Int) - 1<i then (m:Int) - 1 else i)).toNat 2:=by rw [←hx];unfold advL;rw [if_pos (by omega)]
   rw [hx] at hsucc;have HSU:=Bas.hid hsucc;have HLA:=Bas.hid hlast;have hx2:=be2_bd d HV.out.byte (4*(if (m:Int) - 1<i then (m:Int) - 1 else i)).toNat (by have:=HL.out;have:=HD.out;split<;>omega)
   rw [←hxd] at hx2;obtain ⟨hx0,hx1⟩:=hx2;clear hsucc hlast hx;obtain ⟨va0,vc0,rfl⟩:=own_slice HS.out.l;obtain ⟨B,hB⟩:=HS.out.r;obtain ⟨vb0,vc1,rfl⟩:=own_slice hB;have HBR:=Bas.hid hB;have ca:=cell_of_heap (i:=0) (v:=.slice va0 i vc0) HS.out.head rfl;have cb:=cell_of_heap (i:=1) (v:=.slice vb0 i vc1) HS.out.head rfl;have fa:=free_of_heap (i:=0) HS.out.head;have fb:=free_of_heap (i:=1) HS.out.head;have l8:=heap_lt HS.out.head;clear hB;by_cases him:i<m
   ·have e3:decide ((i:Int)<(m:Int))=true:=by simp;omega
    have e4:decide (i<m)=true:=by simp;omega
    obtain ⟨q,hq⟩:∃q,4*i=q:=⟨_,rfl⟩;have hql:q+4≤L:=by have:=HD.out;omega
    have h1:atR m i=q:=by unfold atR;rw [if_pos (by omega)];exact hq
    have HA2:Hid (atR m (i+1)=q+4):=by unfold Hid atR;rw [if_pos (by omega)];omega
    have hy:x=be d q 2:=by rw [hxd,if_neg (by omega),←hq];rfl
    have UA:=Bas.hid (u_at A3 L C3 d q 2 (by omega) (q:Int) 2 rfl rfl (by omega) HL.out (by omega) wr HV.out)
    rw [←hy] at UA;have UB:=Bas.hid (u_at A3 L C3 d (q+2) 2 (by omega) ((q:Int)+2) 2 (by omega) rfl (by omega) HL.out (by omega) wr HV.out)
    have hs2:=be2_bd d HV.out.byte (q+2) (by have:=HL.out;omega)
    rw [h1];generalize be d (q+2) 2=sd at*;obtain ⟨hs0,hs1⟩:=hs2;have hVB:=HV.out;clear hxd hy h1 hq;generalize lastR g m d i=old at*;go_wp2_with (fail);refine UA.out.mono ?_;rintro e w' ⟨rfl,rfl⟩;have sd0:decide (sd<0)=false:=by simp;omega
    have x0:decide (x<0)=false:=by simp;omega
    clear HL HV;go_wp2_with (fail);refine UB.out.mono ?_;rintro e w' ⟨rfl,rfl⟩;go_wp2_with (at_builtin;refine Row.fence ?_);refine Row.unfence ?_;have hb3:=(Below.refl wr.heap.size wr).alloc (Nat.le_refl _) (.cells #[.int .i64 x] 3);have k3:=Bas.heap_new wr (.cells #[.int .i64 x] 3);have HS3:=Bas.hid (HS.out.below hb3);have HBR3:=Bas.hid (Row.owned_below HBR.out hb3);generalize wr.alloc (.cells #[.int .i64 x] 3)=W3 at*;clear hb3 HS HBR ca cb fa fb l8 UB cg cm lF hVB;refine (Row.append_at rfl _ _ 24 3 rfl (.int .i64 0) 1 8 Tryz.underlying24 infoRI rfl (by decide) w.heap.size _ i _ rfl HS3.out.l (.slice (some ⟨wr.heap.size,0,none⟩) 1 1) 1 [.int .i64 x] rfl (leads_heap k3) rfl (by simp;rfl) (by unfold maxLen;omega) (by omega) HS3.out.bel.size ?_)
    intro v' w9 hown9 hg9 _ hat;have ho9:w9.ownsRow w.heap.size 3 1 v' (i+1) (((advR g m d).take (i+1)).map (Value.int .i64)):=by rw [HSU.out,List.map_append];exact hown9
    have hB9:=Row.owned_keep HBR3.out (w':=w9) fun b hb=>hg9.block b (Row.own_block HBR3.out hb).2 (fun e=>HS3.out.apart b e.symm hb)
    obtain ⟨kk,hst9⟩:=HS3.out.pushL ho9 hg9 hat;have hB10:=Row.owned_keep hB9 (w':=w9.setCell ⟨T8,0,none⟩ v') fun b hb=>Below.heap_setCell _ _ _ _ (fun e=>own_ty hB9 kk (by decide) (by rw [hb,e]))
    obtain ⟨ad9,cp9,rfl⟩:=own_slice hown9;have HS9:=Bas.hid hst9;have HB9:=Bas.hid hB10;have z0:=cell_of_heap (i:=0) kk rfl;have f0:=free_of_heap (i:=0) kk;have lz:=heap_lt kk;clear hown9 hg9 hat ho9 hB9 hB10 hst9 kk HS3 HBR3 k3;go_wp2_with (fail);generalize w9.setCell ⟨T8,0,none⟩ (.slice ad9 (i+1) cp9)=W10 at*;clear z0 f0 lz;have c0:=cell_of_heap (i:=0) (v:=.slice ad9 (i+1) cp9) HS9.out.head rfl;have c1:=cell_of_heap (i:=1) (v:=.slice vb0 i vc1) HS9.out.head rfl;have f1:=free_of_heap (i:=1) HS9.out.head;have l1:=heap_lt HS9.out.head;have HSX:=Bas.hid (fun u=>s16_any sd u (by omega) (by omega))
    generalize s16 sd=y at*;refine' Pl.region_v1 72 [] [0,1,2,3] 4 68 [5,6,7] _ (fun v u'=>∃g,v=.slice (some ⟨g,0,none⟩) 1 1∧W10.heap.size≤g∧u'.heap[g]? =some (.cells #[.int .i64 y] 3 (0,0))) (by kernel_rfl) (by kernel_rfl) (by simp) (fun _ _ _ _ e h=>⟨e▸h.1,h.2⟩) ?_ ?_ ?_ ?_
    rotate_left
    ·intro I F hI hF;simp only [Pl.selN,List.nil_append,List.drop_succ_cons,List.drop_zero];have x1:=fun q=>hF.cell l1 c1 q
     repeat (go_big_quiet_step ((go_at_call 35;with_reducible exact hF.same (HSX.out _))))
     refine wpQuiet_nil ?_;rfl
    ·rintro v x x' ⟨g,h1,h2,h3⟩ hx hx';exact ⟨g,h1,h2,(hx'.block g (heap_lt h3)).trans h3⟩
    ·simp only [Pl.selN,List.drop_succ_cons,List.drop_zero,List.mem_singleton,forall_eq];intro u' hu
     go_simp
     simp only [Pl.valsAt];exact ⟨(Below.refl _ _).alloc (Nat.le_refl _) _,_,rfl,hu.size,Bas.heap_new _ _⟩
    rintro v u hu ⟨g3,rfl,hg3,k3⟩;simp only [Pl.selN,List.drop_succ_cons,List.drop_zero,Act.put,List.setIfInBounds_toArray,List.set_cons_zero,List.set_cons_succ];have HSU9:=Bas.hid (HS9.out.below hu);have HBU9:=Bas.hid (Row.owned_below HB9.out hu);clear hu HS9 HB9 c0 c1 f1 l1 HSX;refine (Row.append_at rfl _ _ 24 3 rfl (.int .i64 0) 1 8 Tryz.underlying24 infoRI rfl (by decide) w.heap.size (.slice vb0 i vc1) i _ rfl HBU9.out (.slice (some ⟨g3,0,none⟩) 1 1) 1 [.int .i64 y] rfl (leads_heap k3) rfl (by simp;rfl) (by unfold maxLen;omega) (by omega) HSU9.out.bel.size ?_)
    intro v'' wA hownA hgA _ hatA;have hoA:wA.ownsRow w.heap.size 3 1 v'' (i+1) ((B++[y]).map (Value.int .i64)):=by rw [List.map_append];exact hownA
    obtain ⟨kk,hstA⟩:=HSU9.out.pushR HBU9.out hoA hgA hatA;obtain ⟨adA,cpA,rfl⟩:=own_slice hownA;have HSA:=Bas.hid hstA;have z1:=cell_of_heap (i:=1) kk rfl;have f1:=free_of_heap (i:=1) kk;have lz:=heap_lt kk;clear hownA hgA hatA hoA hstA kk HSU9 HBU9 k3;go_wp2_with (fail);go_roundw
    case rel=>exact ⟨i+1,_,_,by omega,by go_num,by rw [HA2.out];go_num,by rw [HLA.out],HSA.out⟩
    case measure=>simp [intOf];omega
   ·have e3:decide ((i:Int)<(m:Int))=false:=by simp;omega
    have e4:decide (i<m)=false:=by simp;omega
    obtain ⟨q,hq⟩:∃q,4*m+2*(i - m)=q:=⟨_,rfl⟩;have hql:q+2≤L:=by have:=HD.out;omega
    have h1:atR m i=q:=by
     unfold atR;by_cases h:i≤m
     ·rw [if_pos h];omega
     ·rw [if_neg h];exact hq
    have HA2:Hid (atR m (i+1)=q+2):=by unfold Hid atR;rw [if_neg (by omega)];omega
    have hy:lastR g m d i=x:=by
     unfold lastR advL;rw [if_neg (by omega),if_pos (by omega),hxd]
     congr 2
     split<;>split<;>omega
    have UB:=Bas.hid (u_at A3 L C3 d q 2 (by omega) (q:Int) 2 rfl rfl (by omega) HL.out (by omega) wr HV.out)
    have hs2:=be2_bd d HV.out.byte q (by have:=HL.out;omega)
    rw [h1,hy];generalize be d q 2=sd at*;obtain ⟨hs0,hs1⟩:=hs2;have hVB:=HV.out;clear hxd hy h1 hq;have sd0:decide (sd<0)=false:=by simp;omega
    have x0:decide (x<0)=false:=by simp;omega
    clear HL HV;go_wp2_with (fail);refine UB.out.mono ?_;rintro e w' ⟨rfl,rfl⟩;go_wp2_with (at_builtin;refine Row.fence ?_);refine Row.unfence ?_;have hb3:=(Below.refl wr.heap.size wr).alloc (Nat.le_refl _) (.cells #[.int .i64 x] 3);have k3:=Bas.heap_new wr (.cells #[.int .i64 x] 3);have HS3:=Bas.hid (HS.out.below hb3);have HBR3:=Bas.hid (Row.owned_below HBR.out hb3);generalize wr.alloc (.cells #[.int .i64 x] 3)=W3 at*;clear hb3 HS HBR ca cb fa fb l8 UB cg cm lF hVB;refine (Row.append_at rfl _ _ 24 3 rfl (.int .i64 0) 1 8 Tryz.underlying24 infoRI rfl (by decide) w.heap.size _ i _ rfl HS3.out.l (.slice (some ⟨wr.heap.size,0,none⟩) 1 1) 1 [.int .i64 x] rfl (leads_heap k3) rfl (by simp;rfl) (by unfold maxLen;omega) (by omega) HS3.out.bel.size ?_)
    intro v' w9 hown9 hg9 _ hat;have ho9:w9.ownsRow w.heap.size 3 1 v' (i+1) (((advR g m d).take (i+1)).map (Value.int .i64)):=by rw [HSU.out,List.map_append];exact hown9
    have hB9:=Row.owned_keep HBR3.out (w':=w9) fun b hb=>hg9.block b (Row.own_block HBR3.out hb).2 (fun e=>HS3.out.apart b e.symm hb)
    obtain ⟨kk,hst9⟩:=HS3.out.pushL ho9 hg9 hat;have hB10:=Row.owned_keep hB9 (w':=w9.setCell ⟨T8,0,none⟩ v') fun b hb=>Below.heap_setCell _ _ _ _ (fun e=>own_ty hB9 kk (by decide) (by rw [hb,e]))
    obtain ⟨ad9,cp9,rfl⟩:=own_slice hown9;have HS9:=Bas.hid hst9;have HB9:=Bas.hid hB10;have z0:=cell_of_heap (i:=0) kk rfl;have f0:=free_of_heap (i:=0) kk;have lz:=heap_lt kk;clear hown9 hg9 hat ho9 hB9 hB10 hst9 kk HS3 HBR3 k3;go_wp2_with (fail);generalize w9.setCell ⟨T8,0,none⟩ (.slice ad9 (i+1) cp9)=W10 at*;clear z0 f0 lz;have c0:=cell_of_heap (i:=0) (v:=.slice ad9 (i+1) cp9) HS9.out.head rfl;have c1:=cell_of_heap (i:=1) (v:=.slice vb0 i vc1) HS9.out.head rfl;have f1:=free_of_heap (i:=1) HS9.out.head;have l1:=heap_lt HS9.out.head;have HSX:=Bas.hid (fun u=>s16_any sd u (by omega) (by omega))
    generalize s16 sd=y at*;refine' Pl.region_v1 72 [] [0,1,2,3] 4 68 [5,6,7] _ (fun v u'=>∃g,v=.slice (some ⟨g,0,none⟩) 1 1∧W10.heap.size≤g∧u'.heap[g]? =some (.cells #[.int .i64 y] 3 (0,0))) (by kernel_rfl) (by kernel_rfl) (by simp) (fun _ _ _ _ e h=>⟨e▸h.1,h.2⟩) ?_ ?_ ?_ ?_
    rotate_left
    ·intro I F hI hF;simp only [Pl.selN,List.nil_append,List.drop_succ_cons,List.drop_zero];have x1:=fun q=>hF.cell l1 c1 q
     repeat (go_big_quiet_step ((go_at_call 35;with_reducible exact hF.same (HSX.out _))))
     refine wpQuiet_nil ?_;rfl
    ·rintro v x x' ⟨g,h1,h2,h3⟩ hx hx';exact ⟨g,h1,h2,(hx'.block g (heap_lt h3)).trans h3⟩
    ·simp only [Pl.selN,List.drop_succ_cons,List.drop_zero,List.mem_singleton,forall_eq];intro u' hu
     go_simp
     simp only [Pl.valsAt];exact ⟨(Below.refl _ _).alloc (Nat.le_refl _) _,_,rfl,hu.size,Bas.heap_new _ _⟩
    rintro v u hu ⟨g3,rfl,hg3,k3⟩;simp only [Pl.selN,List.drop_succ_cons,List.drop_zero,Act.put,List.setIfInBounds_toArray,List.set_cons_zero,List.set_cons_succ];have HSU9:=Bas.hid (HS9.out.below hu);have HBU9:=Bas.hid (Row.owned_below HB9.out hu);clear hu HS9 HB9 c0 c1 f1 l1 HSX;refine (Row.append_at rfl _ _ 24 3 rfl (.int .i64 0) 1 8 Tryz.underlying24 infoRI rfl (by decide) w.heap.size (.slice vb0 i vc1) i _ rfl HBU9.out (.slice (some ⟨g3,0,none⟩) 1 1) 1 [.int .i64 y] rfl (leads_heap k3) rfl (by simp;rfl) (by unfold maxLen;omega) (by omega) HSU9.out.bel.size ?_)
    intro v'' wA hownA hgA _ hatA;have hoA:wA.ownsRow w.heap.size 3 1 v'' (i+1) ((B++[y]).map (Value.int .i64)):=by rw [List.map_append];exact hownA
    obtain ⟨kk,hstA⟩:=HSU9.out.pushR HBU9.out hoA hgA hatA;obtain ⟨adA,cpA,rfl⟩:=own_slice hownA;have HSA:=Bas.hid hstA;have z1:=cell_of_heap (i:=1) kk rfl;have f1:=free_of_heap (i:=1) kk;have lz:=heap_lt kk;clear hownA hgA hatA hoA hstA kk HSU9 HBU9 k3;go_wp2_with (fail);go_roundw
    case rel=>exact ⟨i+1,_,_,by omega,by go_num,by rw [HA2.out];go_num,by rw [HLA.out],HSA.out⟩
    case measure=>simp [intOf];omega
  ·have hi2:i=g:=by omega
   subst hi2;have e1:decide ((i:Int)<(i:Int))=false:=by simp
   obtain ⟨va0,vc0,rfl⟩:=own_slice HS.out.l;obtain ⟨B,hB⟩:=HS.out.r;obtain ⟨vb0,vc1,rfl⟩:=own_slice hB;have ca:=cell_of_heap (i:=0) HS.out.head rfl;have cb:=cell_of_heap (i:=1) HS.out.head rfl;have fa:=free_of_heap (i:=0) HS.out.box;have fb:=free_of_heap (i:=1) HS.out.box;have xa:=cell_of_heap (i:=0) HS.out.box rfl;have xb:=cell_of_heap (i:=1) HS.out.box rfl;have l8:=heap_lt HS.out.head;have l9:=heap_lt HS.out.box;have hrow:=HS.out.l;rw [List.take_of_length_le (by rw [advR_len];exact Nat.le_refl _)] at hrow
   have HR:=Bas.hid hrow;clear hB hig hrow;go_wp2_with (fail);have q:=heap_set (i:=1) (heap_set (i:=0) HS.out.box (.slice va0 i vc0)) (.slice vb0 i vc1);have HB8:=Bas.hid ((HS.out.bel.setCell (p:=⟨w.heap.size,0,none⟩) (Nat.le_refl _) (.slice va0 i vc0)).setCell (p:=⟨w.heap.size,1,none⟩) (Nat.le_refl _) (.slice vb0 i vc1));have HO8:=Bas.hid (Row.owned_keep HR.out (w':=(wr.setCell ⟨w.heap.size,0,none⟩ (.slice va0 i vc0)).setCell ⟨w.heap.size,1,none⟩ (.slice vb0 i vc1)) fun b hb=>by
    have hne:b≠w.heap.size:=fun e=>own_ty HR.out HS.out.box (by decide) (by rw [hb,e])
    exact (Below.heap_setCell _ _ _ _ hne).trans (Below.heap_setCell _ _ _ _ hne))
   generalize (wr.setCell ⟨w.heap.size,0,none⟩ (.slice va0 i vc0)).setCell ⟨w.heap.size,1,none⟩ (.slice vb0 i vc1)=W8 at*;have k8:W8.heap[w.heap.size]? =some (.cells #[.slice va0 i vc0,.slice vb0 i vc1] 52 (0,0)):=q;clear ca cb fa fb xa xb l8 l9 q;have c0:=cell_of_heap (i:=0) k8 rfl;have c1:=cell_of_heap (i:=1) k8 rfl;refine bodyPost_ret (v:=.tuple #[.agg #[.slice va0 i vc0,.slice vb0 i vc1],.bool true]) ?_ rfl ⟨_,_,_,_,rfl,HB8.out,HO8.out⟩;rw [results_cell_tmp rfl]
   go_simp
end Fo
end Go.Proofs.YtceihjjjmcgmaaaGreat
namespace Go.Proofs.YtceihjjjmcgmaaaGreat
open Go.RowKit Go.ChangeShapes Go.WideShapes Go.ChangeAt
namespace Bas
theorem flat_get_inv{α:Type}{f:α→List Value}{m:Nat}(hm:0<m)(hf:∀x,(f x).length=m):∀(l:List α) (j:Nat) (u:Value),(l.flatMap f)[j]? =some u→∃i k x,j=i*m+k∧l[i]? =some x∧(f x)[k]? =some u
 |[],j,u,h=>by simp at h
 |y::l,j,u,h=>by
  rw [List.flatMap_cons] at h;by_cases hj:j<m
  ·rw [List.getElem?_append_left (by rw [hf];exact hj)] at h
   exact ⟨0,j,y,by simp,rfl,h⟩
  ·rw [List.getElem?_append_right (by rw [hf];omega),hf] at h
   obtain ⟨i,k,x,h1,h2,h3⟩:=flat_get_inv hm hf l (j - m) u h;exact ⟨i+1,k,x,by rw [Nat.add_mul];omega,h2,h3⟩
theorem open_elems{α:Type}[Inhabited α]{f:α→List Value}{m:Nat}{good:α→Prop}(hm:0<m)(hf:∀x,(f x).length=m){w:World}{base:Nat}{a:Addr}{len cap:Nat}
  (h:∀i,i<len→∃cs,w.cells? base (a.add (i*m)) m=some cs∧∃x,cs=f x∧good x):
  ∃l:List α,l.length=len∧Row.Leads w (.slice (some a) len cap) len (l.flatMap f)∧∀x∈l,good x:=by
 obtain ⟨g,hg⟩:=Go.Deep.choose_lt (α:=α) (n:=len) (p:=fun i x=>w.cells? base (a.add (i*m)) m=some (f x)∧good x) (fun i hi=>by
  obtain ⟨cs,h1,x,rfl,h3⟩:=h i hi;exact ⟨x,h1,h3⟩)
 refine ⟨(List.range len).map g,by simp,.inr ⟨a,cap,rfl,fun j u hu=> ?_⟩,fun x hx=> ?_⟩
 ·obtain ⟨i,k,x,rfl,h2,h3⟩:=flat_get_inv hm hf _ j u hu;have hi:i<len:=by have:=(List.getElem?_eq_some_iff.1 h2).1;simpa using this
  rw [List.getElem?_map,List.getElem?_range hi] at h2;cases h2;obtain ⟨_,_,hc⟩:=World.cells?_some (hg i hi).1;have hk:k<m:=by have:=(List.getElem?_eq_some_iff.1 h3).1;rw [hf] at this;exact this
  have:=hc k hk;rw [Go.Deep.add_add] at this;rw [this,h3]
 ·obtain ⟨i,hi,rfl⟩:=List.mem_map.1 hx;exact (hg i (by simpa using hi)).2
section
variable {H:Type} {enc:TypeId×Value→H} {P:Program} {w:World} {base:Nat} {spare:Nat→Bool} {held:Bool}
theorem open_bytes{t e:TypeId}{fuel:Nat}{v:Value}{x:DataW H×List MemPlace}(ht:P.underlying t=some (.slice e))(he:P.underlying e=some (.int .u8))(hc:P.cellsOf e=1)(h:DataW.trod enc P w base (fun _=>true) held fuel t [v]=some x):
  ∃a len cap zs,v=.slice a len cap∧Bas.IsRow .u8 w a len cap zs:=by
 rcases open_ints ht he hc h with ⟨hcs,_⟩|⟨x,l,c,zs,hcs,_,hl,hm,hz,_,hcell,hwz⟩
 ·cases hcs;exact ⟨none,0,0,[],rfl,.inl ⟨rfl,rfl,rfl,rfl⟩⟩
 ·cases hcs;exact ⟨_,_,_,zs,rfl,.inr ⟨_,rfl,hl,hm,by simpa using hz,hcell,hwz⟩⟩
end
end Bas
namespace Bk
open Vw
theorem all_len{H:Type}(l:List (DataW H)):l.length≤Rows.uptoBulkAll l:=by
 induction l with
 |nil=>simp [Rows.uptoBulkAll]
 |cons x r ih=>
  have h1:1≤Rows.uptoBulk x:=by
   cases x with
   |lit y=>cases y<;>simp [Rows.uptoBulk]
   |nil=>simp [Rows.uptoBulk]
   |ptr d=>simp [Rows.uptoBulk]
   |slice elems spare=>simp [Rows.uptoBulk]
   |agg parts=>simp [Rows.uptoBulk]
   |iface t d=>simp [Rows.uptoBulk]
   |map entries=>simp [Rows.uptoBulk]
   |held h=>simp [Rows.uptoBulk]
  simp only [Rows.uptoBulkAll,List.length_cons];omega
theorem all_part{H:Type}{d:DataW H}{l:List (DataW H)}(h:d∈l):Rows.uptoBulk d≤Rows.uptoBulkAll l:=by
 induction l with
 |nil=>cases h
 |cons x r ih=>
  simp only [Rows.uptoBulkAll];cases List.mem_cons.1 h with
  |inl e=>subst e;omega
  |inr e=>have:=ih e;omega
theorem slice_len{H:Type}(l r:List (DataW H)):l.length≤Rows.uptoBulk (.slice l r):=by
 have:=all_len l;simp only [Rows.uptoBulk];omega
theorem slice_part{H:Type}{d:DataW H}{l:List (DataW H)}(r:List (DataW H))(h:d∈l):Rows.uptoBulk d≤Rows.uptoBulk (.slice l r):=by
 have:=all_part h;simp only [Rows.uptoBulk];omega
theorem agg_part{H:Type}{d:DataW H}{l:List (DataW H)}(h:d∈l):Rows.uptoBulk d≤Rows.uptoBulk (.agg l):=by
 have:=all_part h;simp only [Rows.uptoBulk];omega
theorem zip_self{α β:Type}(l:List (α×β)):(l.map Prod.fst).zip (l.map Prod.snd)=l:=by
 induction l with
 |nil=>rfl
 |cons x l ih=>simp [ih]
section
variable {H:Type} {enc:TypeId×Value→H} {P:Program} {w:World} {base N:Nat} {held:Bool}
theorem field{t:TypeId}{fs:Array Field}{fuel:Nat}{cs:List Value}{x:DataW H×List MemPlace}(k:Nat)(f:Field)(ht:P.underlying t=some (.struct fs))(h:DataW.trod enc P w base (fun _=>true) held fuel t cs=some x)(hb:Rows.uptoBulk x.1≤N)(hk:fs[k]? =some f):
  cs.length=P.cellsOf t∧∃y n,DataW.trod enc P w base (fun _=>true) held n f.type ((cs.drop f.offset).take (P.cellsOf f.type))=some y∧Rows.uptoBulk y.1≤N:=by
 obtain ⟨xs,n,_,rfl,hl,hlen,hf⟩:=DataW.trod_struct ht h;have h1:=hf k f hk;have hkx:k<xs.length:=by
  have:=(Array.getElem?_eq_some_iff.1 hk).1;omega
 rw [List.getElem?_eq_getElem hkx] at h1;exact ⟨hl,_,_,h1,Nat.le_trans (agg_part (List.mem_map.2 ⟨_,List.getElem_mem hkx,rfl⟩)) hb⟩
theorem fieldN{t e:TypeId}{fs:Array Field}{fuel o q:Nat}{cs:List Value}{x:DataW H×List MemPlace}(k:Nat)(f:Field)(ht:P.underlying t=some (.struct fs))(h:DataW.trod enc P w base (fun _=>true) held fuel t cs=some x)(hb:Rows.uptoBulk x.1≤N)(hk:fs[k]? =some f)(he:f.type=e)(ho:f.offset=o)(hq:P.cellsOf e=q):
  ∃y n,DataW.trod enc P w base (fun _=>true) held n e ((cs.drop o).take q)=some y∧Rows.uptoBulk y.1≤N:=by
 obtain ⟨_,y,n,h1,h2⟩:=field k f ht h hb hk;rw [he,ho,hq] at h1;exact ⟨y,n,h1,h2⟩
theorem field1{t:TypeId}{fs:Array Field}{fuel:Nat}{cs:List Value}{x:DataW H×List MemPlace}(k:Nat)(f:Field)(ht:P.underlying t=some (.struct fs))(h:DataW.trod enc P w base (fun _=>true) held fuel t cs=some x)(hb:Rows.uptoBulk x.1≤N)(hk:fs[k]? =some f)(hc:P.cellsOf f.type=1)(ho:f.offset<P.cellsOf t):
  ∃v y n,cs[f.offset]? =some v∧DataW.trod enc P w base (fun _=>true) held n f.type [v]=some y∧Rows.uptoBulk y.1≤N:=by
 obtain ⟨hl,y,n,h1,h2⟩:=field k f ht h hb hk;have ho':f.offset<cs.length:=by rw [hl];exact ho
 have e:(cs.drop f.offset).take 1=[cs[f.offset]]:=by
  rw [List.drop_eq_getElem_cons ho',List.take_succ_cons,List.take_zero]
 rw [hc,e] at h1;exact ⟨_,y,n,List.getElem?_eq_getElem ho',h1,h2⟩
theorem elem{t e:TypeId}{q fuel:Nat}{cs:List Value}{x:DataW H×List MemPlace}(i:Nat)(ht:P.underlying t=some (.array q e))(hi:i<q)(h:DataW.trod enc P w base (fun _=>true) held fuel t cs=some x)(hb:Rows.uptoBulk x.1≤N):
  ∃y n,DataW.trod enc P w base (fun _=>true) held n e ((cs.drop (i*P.cellsOf e)).take (P.cellsOf e))=some y∧Rows.uptoBulk y.1≤N:=by
 obtain ⟨xs,n,_,rfl,hl,hlen,hf⟩:=DataW.trod_array ht h;have h1:=hf i hi;rw [List.getElem?_eq_getElem (by omega)] at h1
 exact ⟨_,_,h1,Nat.le_trans (agg_part (List.mem_map.2 ⟨_,List.getElem_mem (by omega),rfl⟩)) hb⟩
theorem elems{α:Type}[Inhabited α]{f:α→List Value}{m:Nat}{good:α→Prop}{t e:TypeId}{fuel:Nat}{v:Value}{x:DataW H×List MemPlace}(hm:0<m)(hf:∀x,(f x).length=m)(ht:P.underlying t=some (.slice e))(hc:P.cellsOf e=m)
  (h:DataW.trod enc P w base (fun _=>true) held fuel t [v]=some x) (hb:Rows.uptoBulk x.1≤N)
  (hE:∀(n:Nat) (cs:List Value) (y:DataW H×List MemPlace),cs.length=m→DataW.trod enc P w base (fun _=>true) held n e cs=some y→Rows.uptoBulk y.1≤N→∃a,cs=f a∧good a):
  ∃l:List α,Row.Leads w v l.length (l.flatMap f)∧(∀a∈l,good a)∧l.length≤N:=by
 rcases Go.Deep.open_slice ht h with ⟨h0,_⟩|⟨a,len,cap,q,n,D,Pl,h0,_,hl,hq,hmm,hxe,hx⟩
 ·cases h0;exact ⟨[],.inl ⟨rfl,rfl,rfl⟩,fun r hr=>(by cases hr),Nat.zero_le _⟩
 ·cases h0;rw [hc] at hx;rw [hxe] at hb;obtain ⟨l,h1,h2,h3⟩:=Bas.open_elems (f:=f) (good:=good) hm hf (w:=w) (base:=base) (a:=a) (len:=len) (cap:=cap) (fun i hi=>by
   obtain ⟨cs,e1,e2⟩:=hx i (by rw [hmm];simp;omega)
   obtain ⟨_,hlen,_⟩:=World.cells?_some e1;exact ⟨cs,e1,hE n cs _ hlen e2 (Nat.le_trans (slice_part _ (List.mem_map.2 ⟨i,List.mem_range.2 hi,rfl⟩)) hb)⟩)
  subst h1;have:=slice_len ((List.range l.length).map D) ((List.range (q - l.length)).map fun j=>D (l.length+j))
  rw [List.length_map,List.length_range] at this;exact ⟨l,h2,h3,Nat.le_trans this hb⟩
theorem nums{kd:IntKind}{t e:TypeId}{fuel:Nat}{v:Value}{x:DataW H×List MemPlace}(ht:P.underlying t=some (.slice e))(he:P.underlying e=some (.int kd))(hc:P.cellsOf e=1)(h:DataW.trod enc P w base (fun _=>true) held fuel t [v]=some x)(hb:Rows.uptoBulk x.1≤N):
  ∃l:List Int,Row.Leads w v l.length (l.flatMap fun s=>[.int kd s])∧(∀s∈l,(Lit.int kd s).wf=true)∧l.length≤N:=
 elems (m:=1) (f:=fun s:Int=>[Value.int kd s]) (good:=fun s=>(Lit.int kd s).wf=true) (by omega) (fun _=>rfl) ht hc h hb fun n cs y _ h2 _=>by
  obtain ⟨s,e3,_,hw⟩:=DataW.trod_int he h2;exact ⟨s,e3,hw⟩
theorem int1{t:TypeId}{kd:IntKind}{fuel:Nat}{v:Value}{x:DataW H×List MemPlace}(ht:P.underlying t=some (.int kd))(h:DataW.trod enc P w base (fun _=>true) held fuel t [v]=some x):∃s,v=.int kd s∧(Lit.int kd s).wf=true:=by
 obtain ⟨s,e3,_,hw⟩:=DataW.trod_int ht h;cases e3;exact ⟨s,rfl,hw⟩
theorem pairs{α β:Type}{f:α×β→List Value}{good:α×β→Prop}{v:Value}{l:List (α×β)}(h:Row.Leads w v l.length (l.flatMap f))(hg:∀a∈l,good a):
  ∃(cs:List α) (rs:List β),rs.length=cs.length∧cs.length=l.length∧Row.Leads w v cs.length ((cs.zip rs).flatMap f)∧(∀(i:Nat) (c:α) (r:β),cs[i]? =some c→rs[i]? =some r→good (c,r))∧(∀c∈cs,∃r,good (c,r)):=by
 refine ⟨l.map Prod.fst,l.map Prod.snd,by simp,by simp,by rw [zip_self,List.length_map];exact h,fun j s d hs hd=> ?_,fun s hs=> ?_⟩
 ·rw [List.getElem?_map] at hs hd;cases hj:l[j]? with
  |none=>rw [hj] at hs;cases hs
  |some y=>
   rw [hj] at hs hd;cases hs;cases hd;exact hg y (List.mem_of_getElem? hj)
 ·obtain ⟨y,hy,rfl⟩:=List.mem_map.1 hs;exact ⟨y.2,hg y hy⟩
theorem flat_one(l:List Int)(kd:IntKind):(l.flatMap fun s=>[Value.int kd s])=l.map (Value.int kd):=by
 induction l with
 |nil=>rfl
 |cons x l ih=>rw [List.flatMap_cons,ih];rfl
end
end Bk
end Go.Proofs.YtceihjjjmcgmaaaGreat
namespace Go.Proofs.YtceihjjjmcgmaaaGreat
open Go.RowKit
namespace Pk
open Ch
def setC(s:Int×Int):List Value:=[.int .i64 s.1,.int .i64 s.2]
def setV(s:Int×Int):Value:=.agg #[.int .i64 s.1,.int .i64 s.2]
def cmpI(a b:Int):Int:=if a<b then -1 else if b<a then 1 else 0
def cmpP(x y:Int×Int):Int:=if cmpI x.1 y.1=0 then cmpI x.2 y.2 else cmpI x.1 y.1
theorem nan_any(a:Int)(w:World):Calls Tryz.prog 224 #[.int .i64 a] w fun e w'=>e=.returned (.bool false)∧w'=w:=by
 go_enter Tryz.func224,Tryz.ntmps224
 go_wp2_with (fail);go_ret;exact ⟨rfl,rfl⟩
theorem cmpint_any(a b:Int)(w:World):Calls Tryz.prog 175 #[.int .i64 a,.int .i64 b] w fun e w'=>e=.returned (.int .i64 (cmpI a b))∧w'=w:=by
 by_cases h1:a<b
 ·have hr:cmpI a b=-1:=by simp [cmpI,h1]
  rw [hr];have e1:decide (a<b)=true:=decide_eq_true h1;clear hr;go_enter Tryz.func175,Tryz.ntmps175
  go_wp2_with (fail);refine (nan_any a w).mono ?_;rintro e w' ⟨rfl,rfl⟩;go_wp2_with (fail);refine (nan_any b w').mono ?_;rintro e w' ⟨rfl,rfl⟩;go_wp2_with (fail);go_ret;exact ⟨rfl,rfl⟩
 ·by_cases h2:b<a
  ·have hr:cmpI a b=1:=by simp [cmpI,h1,h2]
   rw [hr];have e1:decide (a<b)=false:=decide_eq_false h1;have e2:decide (b<a)=true:=decide_eq_true h2;have e3:decide (a>b)=true:=decide_eq_true h2;clear hr;go_enter Tryz.func175,Tryz.ntmps175
   go_wp2_with (fail);refine (nan_any a w).mono ?_;rintro e w' ⟨rfl,rfl⟩;go_wp2_with (fail);refine (nan_any b w').mono ?_;rintro e w' ⟨rfl,rfl⟩;go_wp2_with (fail);go_ret;exact ⟨rfl,rfl⟩
  ·have hr:cmpI a b=0:=by simp [cmpI,h1,h2]
   rw [hr];have e1:decide (a<b)=false:=decide_eq_false h1;have e2:decide (b<a)=false:=decide_eq_false h2;have e3:decide (a>b)=false:=decide_eq_false h2;clear hr;go_enter Tryz.func175,Tryz.ntmps175
   go_wp2_with (fail);refine (nan_any a w).mono ?_;rintro e w' ⟨rfl,rfl⟩;go_wp2_with (fail);refine (nan_any b w').mono ?_;rintro e w' ⟨rfl,rfl⟩;go_wp2_with (fail);go_ret;exact ⟨rfl,rfl⟩
theorem or_any(g:Nat)(p q:Int)(w:World)(h:w.heap[g]? =some (.cells #[.int .i64 p,.int .i64 q] 3 (0,0))):
  Calls Tryz.prog 174 #[.slice (some ⟨g,0,none⟩) 2 2] w fun e w'=>e=.returned (.int .i64 (if p=0 then q else p))∧w'=w:=by
 have c0:=cell_of_heap (i:=0) (v:=.int .i64 p) h rfl;have c1:=cell_of_heap (i:=1) (v:=.int .i64 q) h rfl;by_cases hp:p=0
 ·subst hp;rw [if_pos rfl];by_cases hq:q=0
  ·subst hq;go_enter Tryz.func174,Tryz.ntmps174
   go_wp2_with (fail);refine wp_loop_rounds 3 ?_;rw [rounds_succ];go_wp2_with (fail);rw [rounds_succ];go_wp2_with (fail);rw [rounds_succ];go_wp2_with (fail);go_ret;exact ⟨rfl,rfl⟩
  ·have e2:(q==0)=false:=by simpa using hq
   have e3:decide (q=0)=false:=by simpa using hq
   have e4:(q !=0)=true:=by simpa using hq
   clear hq;go_enter Tryz.func174,Tryz.ntmps174
   go_wp2_with (fail);refine wp_loop_rounds 2 ?_;rw [rounds_succ];go_wp2_with (fail);rw [rounds_succ];go_wp2_with (fail);go_ret;exact ⟨rfl,rfl⟩
 ·rw [if_neg hp];have e2:(p==0)=false:=by simpa using hp
  have e3:decide (p=0)=false:=by simpa using hp
  have e4:(p !=0)=true:=by simpa using hp
  clear hp;go_enter Tryz.func174,Tryz.ntmps174
  go_wp2_with (fail);refine wp_loop_rounds 1 ?_;rw [rounds_succ];go_wp2_with (fail);go_ret;exact ⟨rfl,rfl⟩
theorem compare_any(x y:Int×Int)(w:World):
  Calls Tryz.prog 115 #[.agg #[.int .i64 x.1,.int .i64 x.2],.agg #[.int .i64 y.1,.int .i64 y.2]] w fun e w'=>e=.returned (.int .i64 (cmpP x y))∧∃q os',w'=Go.Sort.grow (w.drewN q) os':=by
 obtain ⟨a,b⟩:=x;obtain ⟨c,d⟩:=y;simp only;obtain ⟨p,hp⟩:∃p,cmpI a c=p:=⟨_,rfl⟩;obtain ⟨q,hq⟩:∃q,cmpI b d=q:=⟨_,rfl⟩;have hr:cmpP (a,b) (c,d)=if p=0 then q else p:=by unfold cmpP;rw [hp,hq]
 rw [hr];obtain ⟨r,hrr⟩:∃r,(if p=0 then q else p)=r:=⟨_,rfl⟩
 have HC1:=Bas.hid (fun w=>hp▸cmpint_any a c w)
 have HC2:=Bas.hid (fun w=>hq▸cmpint_any b d w)
 have HR:=Bas.hid hrr;rw [hrr];clear hp hq hr hrr;go_enter Tryz.func115,Tryz.ntmps115
 go_wp2_with (fail);have k2:=Bas.heap_new2 w (.cells #[.int .i64 a,.int .i64 b] 325) (.cells #[.int .i64 c,.int .i64 d] 325);have k1:((w.alloc (.cells #[.int .i64 a,.int .i64 b] 325)).alloc (.cells #[.int .i64 c,.int .i64 d] 325)).heap[w.heap.size]? =some (.cells #[.int .i64 a,.int .i64 b] 325 (0,0)):=by
  rw [Below.heap_alloc _ _ _ (by simp)];exact Bas.heap_new _ _
 have hWW:∃W:World,(w.alloc (.cells #[.int .i64 a,.int .i64 b] 325)).alloc (.cells #[.int .i64 c,.int .i64 d] 325)=W:=⟨_,rfl⟩;obtain ⟨W,hW⟩:=hWW;have HW:=Bas.hid hW;rw [hW] at k1 k2 ⊢;clear hW;have a0:=cell_of_heap (i:=0) (v:=.int .i64 a) k1 rfl;have a1:=cell_of_heap (i:=1) (v:=.int .i64 b) k1 rfl;have b0:=cell_of_heap (i:=0) (v:=.int .i64 c) k2 rfl;have b1:=cell_of_heap (i:=1) (v:=.int .i64 d) k2 rfl;obtain ⟨F,hF⟩:∃F:Unit→World,∀i,F i=W.drew:=⟨fun _=>W.drew,fun _=>rfl⟩
 have HF0:=Bas.hid (hF ()).symm;refine Pl.region_plan0 () [(true,0),(true,1),(true,2),(true,3),(true,5),(true,6),(true,7),(true,8),(false,4),(false,9),(false,10),(false,11),(false,12)] [9,10,11,12] (by kernel_rfl) (by kernel_rfl) (fun _ _ _ _ e h=>⟨e▸h.1,h.2⟩) HF0.out ?_
 refine Pl.head_sel0 [(true,0),(true,1),(true,2),(true,3),(true,5),(true,6),(true,7),(true,8)] (by kernel_rfl) (by kernel_rfl) ?_
 simp only [Pl.sel,List.drop_succ_cons,List.drop_zero];have x0:∀i,(F i).cell? ⟨w.heap.size,0,none⟩=some (.int .i64 a):=fun i=>by rw [hF i];exact a0
 have x1:∀i,(F i).cell? ⟨w.heap.size,1,none⟩=some (.int .i64 b):=fun i=>by rw [hF i];exact a1
 have y0:∀i,(F i).cell? ⟨w.heap.size+1,0,none⟩=some (.int .i64 c):=fun i=>by rw [hF i];exact b0
 have y1:∀i,(F i).cell? ⟨w.heap.size+1,1,none⟩=some (.int .i64 d):=fun i=>by rw [hF i];exact b1
 have HFE:=Bas.hid hF;clear hF a0 a1 b0 b1 k1 k2;repeat (go_big_quiet_step (fail))
 refine wpQuiet_nil ?_;rw [←HF0.out];refine Pl.one_sel (by kernel_rfl) ?_
 intro Q' hQ' hP';simp only [Pl.sel,List.drop_succ_cons,List.drop_zero];clear x0 x1 y0 y1;go_wp2_with (fail);refine (HC1.out W.drew).mono ?_;rintro e w1 ⟨rfl,rfl⟩;go_wp2_with (fail);refine hQ' _ _ (fun _ _=>⟨(),HF0.out⟩) ?_
 clear hQ' hP' Q';refine Pl.tail_sel [(false,9),(false,10),(false,11),(false,12)] (by kernel_rfl) (by kernel_rfl) ?_
 simp only [Pl.sel,List.drop_succ_cons,List.drop_zero];go_wp2_with (fail);refine (HC2.out W.drew).mono ?_;rintro e w1 ⟨rfl,rfl⟩;go_wp2_with (fail);refine (or_any W.heap.size p q ((W.alloc (.cells #[.int .i64 p,.int .i64 q] 3)).drew) (Bas.heap_new W (.cells #[.int .i64 p,.int .i64 q] 3))).mono ?_;rintro e w1 ⟨rfl,rfl⟩;rw [HR.out];go_wp2_with (fail);go_ret;refine ⟨rfl,1,#[.cells #[.int .i64 a,.int .i64 b] 325,.cells #[.int .i64 c,.int .i64 d] 325,.cells #[.int .i64 p,.int .i64 q] 3], ?_⟩;rw [←HW.out];rw [Go.Sort.alloc_eq_grow,Go.Sort.alloc_eq_grow,Go.Sort.alloc_eq_grow,Go.Sort.grow_grow,Go.Sort.grow_grow];rfl
end Pk
end Go.Proofs.YtceihjjjmcgmaaaGreat
namespace Go.Proofs.YtceihjjjmcgmaaaGreat
open Go.RowKit Go.Shelf
namespace Pk
def sortSt_ren:Go.Shelf.Ren:=⟨fun|6=>114|15=>173|14=>172|28=>222|29=>223|20=>214|21=>215|22=>216|23=>217|24=>218|25=>219|26=>220|27=>221|46=>246|47=>247|48=>248|49=>249|50=>250|57=>258|n=>n,fun|22=>23|24=>325|25=>329|3=>3|39=>367|0=>0|53=>88|55=>472|4=>4|46=>466|45=>465|50=>185|5=>5|9=>9|66=>499|70=>503|76=>511|77=>449|n=>n,fun|n=>n⟩
theorem sortSt:Go.Proofs.SlLaysF0.n6 Tryz.prog sortSt_ren:={
 mixed:=by kernel_rfl,
 f6:=⟨Tryz.f114.name,by decide,Tryz.func114.trans (congrArg some (by kernel_rfl))⟩,
 f14:=⟨Tryz.f172.name,by decide,Tryz.func172.trans (congrArg some (by kernel_rfl))⟩,
 f15:=Tryz.func173.trans (congrArg some (by kernel_rfl)),
 f20:=⟨Tryz.f214.name,by decide,Tryz.func214.trans (congrArg some (by kernel_rfl))⟩,
 f21:=⟨Tryz.f215.name,by decide,Tryz.func215.trans (congrArg some (by kernel_rfl))⟩,
 f22:=⟨Tryz.f216.name,by decide,Tryz.func216.trans (congrArg some (by kernel_rfl))⟩,
 f23:=⟨Tryz.f217.name,by decide,Tryz.func217.trans (congrArg some (by kernel_rfl))⟩,
 f24:=⟨Tryz.f218.name,by decide,Tryz.func218.trans (congrArg some (by kernel_rfl))⟩,
 f25:=⟨Tryz.f219.name,by decide,Tryz.func219.trans (congrArg some (by kernel_rfl))⟩,
 f26:=⟨Tryz.f220.name,by decide,Tryz.func220.trans (congrArg some (by kernel_rfl))⟩,
 f27:=⟨Tryz.f221.name,by decide,Tryz.func221.trans (congrArg some (by kernel_rfl))⟩,
 f28:=Tryz.func222.trans (congrArg some (by kernel_rfl)),
 f29:=Tryz.func223.trans (congrArg some (by kernel_rfl)),
 f46:=⟨Tryz.f246.name,by decide,Tryz.func246.trans (congrArg some (by kernel_rfl))⟩,
 f47:=Tryz.func247.trans (congrArg some (by kernel_rfl)),
 f48:=Tryz.func248.trans (congrArg some (by kernel_rfl)),
 f49:=⟨Tryz.f249.name,by decide,Tryz.func249.trans (congrArg some (by kernel_rfl))⟩,
 f50:=⟨Tryz.f250.name,by decide,Tryz.func250.trans (congrArg some (by kernel_rfl))⟩,
 f57:=⟨Tryz.f258.name,by decide,Tryz.func258.trans (congrArg some (by kernel_rfl))⟩,
 t0:=Tryz.underlying0,
 a0:=Tryz.isAgg0,
 z0:=Tryz.sizeOf0,
 v0:=Tryz.zeroValue0,
 t3:=Tryz.underlying3,
 a3:=Tryz.isAgg3,
 z3:=Tryz.sizeOf3,
 v3:=Tryz.zeroValue3,
 t4:=Tryz.underlying4,
 a4:=Tryz.isAgg4,
 z4:=Tryz.sizeOf4,
 v4:=Tryz.zeroValue4,
 t5:=Tryz.underlying5,
 a5:=Tryz.isAgg5,
 z5:=Tryz.sizeOf5,
 v5:=Tryz.zeroValue5,
 t9:=Tryz.underlying9,
 a9:=Tryz.isAgg9,
 z9:=Tryz.sizeOf9,
 v9:=Tryz.zeroValue9,
 t22:=Tryz.underlying23,
 a22:=Tryz.isAgg23,
 z22:=Tryz.sizeOf23,
 v22:=Tryz.zeroValue23,
 t25:=Tryz.underlying329,
 a25:=Tryz.isAgg329,
 z25:=Tryz.sizeOf329,
 v25:=Tryz.zeroValue329,
 t39:=Tryz.underlying367,
 a39:=Tryz.isAgg367,
 z39:=Tryz.sizeOf367,
 v39:=Tryz.zeroValue367,
 t45:=Tryz.underlying465,
 a45:=Tryz.isAgg465,
 z45:=Tryz.sizeOf465,
 v45:=Tryz.zeroValue465,
 t46:=Tryz.underlying466,
 a46:=Tryz.isAgg466,
 z46:=Tryz.sizeOf466,
 v46:=Tryz.zeroValue466,
 t50:=Tryz.underlying185,
 a50:=Tryz.isAgg185,
 z50:=Tryz.sizeOf185,
 v50:=Tryz.zeroValue185,
 t53:=Tryz.underlying88,
 a53:=Tryz.isAgg88,
 z53:=Tryz.sizeOf88,
 v53:=Tryz.zeroValue88,
 t55:=Tryz.underlying472,
 a55:=Tryz.isAgg472,
 z55:=Tryz.sizeOf472,
 v55:=Tryz.zeroValue472,
 t66:=Tryz.underlying499,
 a66:=Tryz.isAgg499,
 z66:=Tryz.sizeOf499,
 v66:=Tryz.zeroValue499,
 t70:=Tryz.underlying503,
 a70:=Tryz.isAgg503,
 z70:=Tryz.sizeOf503,
 v70:=Tryz.zeroValue503,
 t76:=Tryz.underlying511,
 a76:=Tryz.isAgg511,
 z76:=Tryz.sizeOf511,
 v76:=Tryz.zeroValue511,
 t77:=Tryz.underlying449,
 a77:=Tryz.isAgg449,
 z77:=Tryz.sizeOf449,
 v77:=Tryz.zeroValue449 }
end Pk
namespace Pk
open Ch
def ltP(x y:Int×Int):Bool:=decide (x.1<y.1∨(x.1=y.1∧x.2<y.2))
theorem cmpI_neg(a b:Int):cmpI a b<0↔a<b:=by
 unfold cmpI;by_cases h1:a<b
 ·simp [h1]
 ·by_cases h2:b<a<;>simp [h1,h2]
theorem cmpI_zero(a b:Int):cmpI a b=0↔a=b:=by
 unfold cmpI;by_cases h1:a<b
 ·simp [h1];omega
 ·by_cases h2:b<a
  ·simp [h1,h2];omega
  ·simp [h1,h2];omega
theorem ltOf_eq(x y:Int×Int):ltOf cmpP x y=ltP x y:=by
 unfold ltOf ltP cmpP;rw [decide_eq_decide];by_cases h:cmpI x.1 y.1=0
 ·rw [if_pos h,cmpI_neg];have:=(cmpI_zero _ _).1 h;omega
 ·rw [if_neg h,cmpI_neg];have:x.1≠y.1:=fun e=>h ((cmpI_zero _ _).2 e)
  omega
theorem swo:Go.Sort.SWO (ltOf cmpP) where
 irrefl x:=by rw [ltOf_eq];simp [ltP]
 trans x y z h1 h2:=by rw [ltOf_eq] at*;simp [ltP] at*;omega
 ntrans x y z h1 h2:=by rw [ltOf_eq] at*;simp [ltP] at*;omega
theorem cmpLays(blk off size:Nat)(w:World):CmpLays Tryz.prog 115 #[] setC 2 cmpP blk off size w:=
 fun _ _ _ _ x y=>compare_any x y _
theorem setC_len(s:Int×Int):(setC s).length=2:=rfl
theorem flat_list(d:Array (Int×Int)):(Go.Sort.flatK setC 2 d).toList=d.toList.flatMap setC:=by
 refine List.ext_getElem? fun t=> ?_
 by_cases ht:t<d.size*2
 ·have h1:t / 2<d.size:=by omega
  have hsz:(Go.Sort.flatK setC 2 d).size=d.size*2:=by simp
  have hg:=Go.Sort.get_flatK setC 2 d t ht;rw [getElem!_pos _ t (by omega),getElem!_pos d _ h1] at hg
  rw [Array.getElem?_toList,Array.getElem?_eq_getElem (by omega),hg]
  have hx:d.toList[t / 2]? =some d[t / 2]:=by rw [Array.getElem?_toList,Array.getElem?_eq_getElem h1]
  obtain ⟨x,hx'⟩:∃x,d[t / 2]=x:=⟨_,rfl⟩;rw [hx'] at hx ⊢;have hm:t%2=0∨t%2=1:=by omega
  rcases hm with hm|hm
  ·have h:=Row.flat_get (f:=setC) setC_len d.toList (t / 2) 0 x (.int .i64 x.1) hx rfl;rw [show t / 2*2+0=t by omega] at h
   rw [h,hm];rfl
  ·have h:=Row.flat_get (f:=setC) setC_len d.toList (t / 2) 1 x (.int .i64 x.2) hx rfl;rw [show t / 2*2+1=t by omega] at h
   rw [h,hm];rfl
 ·rw [List.getElem?_eq_none (by simp;omega),List.getElem?_eq_none]
  have:(d.toList.flatMap setC).length=d.size*2:=by
   rw [List.length_flatMap];have:(d.toList.map fun a=>(setC a).length)=List.replicate d.size 2:=by
    rw [List.eq_replicate_iff];exact ⟨by simp,fun b hb=>by obtain ⟨x,_,rfl⟩:=List.mem_map.1 hb;rfl⟩
   rw [this];simp
  omega
theorem put_heap(w:World)(n blk:Nat)(F:Array Value)(os:Array Obj)(cur:Array Value)(e:TypeId)(h:w.heap[blk]? =some (.cells cur e)):
  (Go.Sort.grow (Go.Sort.putRow id (Go.Sort.ahead w n) blk 0 F) os).heap[blk]? =some (.cells (Go.Sort.putCells id 0 F cur) e):=by
 have hlt:blk<w.heap.size:=heap_lt h;rw [Go.Sort.heap_grow_old _ _ (by simp [Go.Sort.putRow,Go.Sort.mapBlock,Go.Sort.ahead];exact hlt)]
 simp [Go.Sort.putRow,Go.Sort.mapBlock,Go.Sort.ahead,Array.getElem?_modify,h,Go.Sort.onCells]
theorem put_grown(w:World)(n blk:Nat)(F:Array Value)(os:Array Obj):w.grownBy (Go.Sort.grow (Go.Sort.putRow id (Go.Sort.ahead w n) blk 0 F) os) (some blk):=by
 refine ⟨rfl,rfl,rfl,by simp [Go.Sort.putRow,Go.Sort.mapBlock,Go.Sort.ahead],fun k hk hne=> ?_⟩
 rw [Go.Sort.heap_grow_old _ _ (by simp [Go.Sort.putRow,Go.Sort.mapBlock,Go.Sort.ahead];exact hk)]
 have:blk≠k:=fun e=>hne (by rw [e])
 simp [Go.Sort.putRow,Go.Sort.mapBlock,Go.Sort.ahead,Array.getElem?_modify,this]
theorem put_take(F cur:Array Value)(h:F.size≤cur.size):(Go.Sort.putCells id 0 F cur).toList.take F.size=F.toList∧(Go.Sort.putCells id 0 F cur).size=cur.size:=by
 refine ⟨List.ext_getElem? fun t=> ?_,by simp [Go.Sort.putCells]⟩
 by_cases ht:t<F.size
 ·rw [List.getElem?_take_of_lt ht,Array.getElem?_toList,Array.getElem?_toList];simp only [Go.Sort.putCells,Array.getElem?_mapIdx];rw [Array.getElem?_eq_getElem (by omega),Array.getElem?_eq_getElem ht,Option.map_some,if_pos ⟨by omega,by omega⟩,Nat.sub_zero,getElem!_pos F t ht]
  rfl
 ·rw [List.getElem?_take_eq_none (by omega),List.getElem?_eq_none (by simpa using ht)]
def Rises(xs:List (Int×Int)):Prop:=xs.Pairwise fun x y=>ltP y x=false
theorem sort_any(base g cap:Nat)(xs:List (Int×Int))(w:World)(hown:w.ownsRow base 325 2 (.slice (some ⟨g,0,none⟩) xs.length cap) xs.length (xs.flatMap setC))(hlen:xs.length≤1000000000):
  Calls Tryz.prog 114 #[.slice (some ⟨g,0,none⟩) xs.length cap,.func (.func 115) #[] #[]] w fun e w'=>
   e=.returned (.tuple #[])∧∃ys:List (Int×Int),ys.Perm xs∧Rises ys∧w'.ownsRow base 325 2 (.slice (some ⟨g,0,none⟩) ys.length cap) ys.length (ys.flatMap setC)∧w.grownBy w' (some g):=by
 obtain ⟨hl,⟨h,_⟩|⟨g',cp,cur,h,hb,hh,hn,hm,hc,ht⟩⟩:=hown
 ·cases h
 cases h;have eg:∀args w,(callFunc 115 args).run Tryz.prog w=.ok (.enter 115 args) w:=fun args w=>by simp [go_sem]
 have hH:Go.Sort.HoldsK setC 2 w g 0 xs.toArray:=by
  intro j hj;have hj':j<xs.length*2:=by simpa using hj
  have hfl:=flat_list xs.toArray;have h1:(Go.Sort.flatK setC 2 xs.toArray)[j]? =cur[j]? :=by
   rw [←Array.getElem?_toList,hfl,←ht,List.getElem?_take_of_lt hj',Array.getElem?_toList]
  rw [getElem!_pos _ j hj];rw [Array.getElem?_eq_getElem hj] at h1;refine ⟨?_, ?_⟩
  ·rw [Nat.zero_add];exact cell_of_heap hh h1.symm
  ·exact free_of_heap hh
 have hs:=AnyQ.slices_SortFunc sortSt 2 Tryz.isAgg325 Tryz.sizeOf325 setC setC_len (fun x v hv=>by simp [setC] at hv;rcases hv with rfl|rfl<;>rfl) cmpP swo 115 #[] g 0 cap xs.toArray w eg (cmpLays g 0 _ w) hH (heap_lt hh) (by simp;omega)
 have hs':Calls Tryz.prog 114 #[.slice (some ⟨g,0,none⟩) xs.length cap,.func (.func 115) #[] #[]] w _:=hs;refine hs'.mono ?_;rintro e w' ⟨rfl,d',n,os,⟨hp1,_,hp3⟩,hsd,rfl⟩;refine ⟨rfl,d'.toList, ?_, ?_, ?_,put_grown w n g _ os⟩
 ·have e1:d'.extract 0 xs.toArray.size=d':=by rw [←hp1];simp
  have e2:xs.toArray.extract 0 xs.toArray.size=xs.toArray:=by simp
  rw [e1,e2] at hp3;simpa using hp3
 ·unfold Rises;rw [List.pairwise_iff_getElem];intro i j hi hj hij;have hsz:d'.size=xs.toArray.size:=hp1;have h:=hsd i j (Nat.zero_le _) hij (by rw [←hsz];simpa using hj)
  rw [ltOf_eq,getElem!_pos d' j (by simpa using hj),getElem!_pos d' i (by simpa using hi)] at h
  simpa using h
 ·have hsz:d'.size=xs.length:=by simpa using hp1
  have hfs:(Go.Sort.flatK setC 2 d').size=xs.length*2:=by simp [hsz]
  have hcs:cur.size=cap*2:=hc;obtain ⟨h1,h2⟩:=put_take (Go.Sort.flatK setC 2 d') cur (by rw [hfs,hcs];omega)
  have hlen2:d'.toList.length=xs.length:=by simpa using hsz
  have hll:(d'.toList.flatMap setC).length=d'.toList.length*2:=by rw [←flat_list];simp
  refine ⟨hll,.inr ⟨g,cap,_,by rw [hlen2],hb,put_heap w n g _ os cur _ hh,by rw [hlen2];exact hn,hm,by rw [h2];exact hc, ?_⟩⟩
  rw [hlen2,←hfs,h1,flat_list]
end Pk
end Go.Proofs.YtceihjjjmcgmaaaGreat
namespace Go.Proofs.YtceihjjjmcgmaaaGreat
open Go.RowKit
namespace Ft
open Vw Ch
def exclF(kind:Int)(f:FeatD):Bool:=decide (f.type=kind)&&f.excl
def exclL(fs:List FeatD)(kind:Int):Bool:=fs.any (exclF kind)
theorem clo_any(ty dflt:Int)(ex:Bool)(s:Value)(hs:∃a n c,s=.slice a n c)(kind:Int)(bk:Nat)(w:World)(hk:w.cell? ⟨bk,0,none⟩=some (.int .i64 kind)):
  Calls Tryz.prog 171 #[.agg #[.int .i64 ty,.bool ex,.int .i64 dflt,s],.pointer (some ⟨bk,0,none⟩)] w fun e w'=>e=.returned (.bool (decide (ty=kind)&&ex))∧Below w.heap.size w w':=by
 obtain ⟨a,n,c,rfl⟩:=hs;have lk:bk<w.heap.size:=World.block_lt_of_cell? _ _ hk;by_cases h:ty=kind
 ·subst h;cases ex
  all_goals
   go_enter Tryz.func171,Tryz.ntmps171
   go_wp2_with (fail);go_ret;exact ⟨by simp,(Below.refl _ _).alloc (Nat.le_refl _) _⟩
 ·have e1:(ty==kind)=false:=by simpa using h
  have e2:decide (ty=kind)=false:=by simpa using h
  rw [e2];go_enter Tryz.func171,Tryz.ntmps171
  go_wp2_with (fail);go_ret;exact ⟨by simp,(Below.refl _ _).alloc (Nat.le_refl _) _⟩
def IdxPost(w:World)(b:Bool)(e:Ending)(w':World):Prop:=∃r:Int,e=.returned (.int .i64 r)∧decide (0≤r)=b∧Below w.heap.size w w'∧-1≤r
theorem index_any(v:Value)(fs:List FeatD)(ss:List Value)(base:Nat)(kind:Int)(bk:Nat)(w:World)(hr:FRow w base v fs ss)(hk:w.cell? ⟨bk,0,none⟩=some (.int .i64 kind))(hlen:fs.length≤1000000000):
  Calls Tryz.prog 213 #[v,.func (.func 171) #[] #[.pointer (some ⟨bk,0,none⟩)]] w (IdxPost w (exclL fs kind)):=by
 have hcf:∀(args:Array Value) w,(callFunc 171 args).run Tryz.prog w=.ok (.enter 171 args) w:=fun args w=>by simp [go_sem]
 obtain ⟨ad,cp,rfl⟩:=own_slice hr.own;obtain ⟨n,hn⟩:∃n,n=fs.length:=⟨_,rfl⟩;rw [←hn] at hlen ⊢;have HN:=Bas.hid hn;have HR:=Bas.hid hr;have lk:bk<w.heap.size:=World.block_lt_of_cell? _ _ hk;have HK:=Bas.hid hk;clear hr hn hk;go_enter Tryz.func213,Tryz.ntmps213
 go_wp2_with (fail);go_loopw [5,8] (fun _ vi wr=>∃i:Nat,i≤n∧vi=.int .i64 i∧(∀f∈fs.take i,exclF kind f=false)∧Below w.heap.size w wr) (fun _ vi _=>n - (intOf vi).toNat)
 case atStart=>exact ⟨0,Nat.zero_le _,rfl,fun f hf=>by simp at hf,Below.refl _ _⟩
 case round=>
  obtain ⟨i,hi,rfl,hno,hb⟩:=hrel;have HNO:=Bas.hid hno;have HB:=Bas.hid hb;by_cases hin:i<n
  ·have hlen2:=HN.out;obtain ⟨f,hf⟩:∃f,fs[i]? =some f:=⟨_,List.getElem?_eq_getElem (by omega)⟩
   obtain ⟨s,hs⟩:∃s,ss[i]? =some s:=⟨_,List.getElem?_eq_getElem (by rw [HR.out.len];omega)⟩
   have hz:(fs.zip ss)[i]? =some (f,s):=List.getElem?_zip_eq_some.2 ⟨hf,hs⟩;obtain ⟨G,C,hvG,-,hG,-,hcl⟩:=Row.elem_cells fC_len HR.out.own hz (by omega) (by rw [List.length_zip,HR.out.len,Nat.min_self])
   obtain ⟨sa,sc,rfl⟩:=own_slice (HR.out.sets i f s hf hs);rw [←hlen2] at hvG;cases hvG;have q0:=(hb.cell (p:=⟨G,i*4,none⟩) hG).trans (hcl 0 _ rfl);have q1:=(hb.cell (p:=⟨G,i*4+1,none⟩) hG).trans (hcl 1 _ rfl);have q2:=(hb.cell (p:=⟨G,i*4+2,none⟩) hG).trans (hcl 2 _ rfl);have q3:=(hb.cell (p:=⟨G,i*4+3,none⟩) hG).trans (hcl 3 _ rfl);have CL:=clo_any f.type f.dflt f.excl (.slice sa f.sets.length sc) ⟨_,_,_,rfl⟩ kind bk wr ((hb.cell (p:=⟨bk,0,none⟩) lk).trans HK.out);have HCL:=Bas.hid CL;have HF:=Bas.hid hf;obtain ⟨x,hx⟩:∃x,x=(decide (f.type=kind)&&f.excl):=⟨_,rfl⟩;rw [←hx] at HCL;have HX:=Bas.hid hx;clear hcl hz hf hs hlen2 hb hno CL hx;go_wp2_with (fail);refine HCL.out.mono ?_;rintro e w2 ⟨rfl,hb2⟩;have HB2:=Bas.hid (HB.out.trans (hb2.mono HB.out.size));clear hb2 q0 q1 q2 q3;cases x with
   |true=>
    have hany:exclL fs kind=true:=by
     unfold exclL;rw [List.any_eq_true];exact ⟨f,List.mem_of_getElem? HF.out,HX.out.symm⟩
    have HANY:=Bas.hid hany;clear hany;go_wp2_with (fail);exact bodyPost_ret (v:=.int .i64 i) (by simp [results,Tryz.results213,go_sem]) rfl ⟨i,rfl,by rw [HANY.out];simp,HB2.out,by omega⟩
   |false=>
    go_wp2_with (fail);go_roundw
    case rel=>exact ⟨i+1,by omega,by go_num,fun y hy=>by
     rw [List.take_add_one,HF.out] at hy;rcases List.mem_append.1 hy with h|h
     ·exact HNO.out y h
     ·simp at h;subst h;exact HX.out.symm,HB2.out⟩
    case measure=>simp [intOf];omega
  ·have hin2:i=n:=by omega
   have hany:exclL fs kind=false:=by
    unfold exclL;rw [List.any_eq_false];intro f hf;have h:=HNO.out f;rw [hin2,HN.out,List.take_length] at h;rw [h hf];decide
   have HANY:=Bas.hid hany;clear hany hb hno;go_wp2_with (fail);exact bodyPost_ret (v:=.int .i64 (-1)) (by simp [results,Tryz.results213,go_sem]) rfl ⟨-1,rfl,by rw [HANY.out];simp,HB.out,by omega⟩
theorem contains_any(v:Value)(fs:List FeatD)(ss:List Value)(base:Nat)(kind:Int)(bk:Nat)(w:World)(hr:FRow w base v fs ss)(hk:w.cell? ⟨bk,0,none⟩=some (.int .i64 kind))(hlen:fs.length≤1000000000):
  Calls Tryz.prog 170 #[v,.func (.func 171) #[] #[.pointer (some ⟨bk,0,none⟩)]] w fun e w'=>e=.returned (.bool (exclL fs kind))∧Below w.heap.size w w':=by
 have H:=Bas.hid (index_any v fs ss base kind bk w hr hk hlen);clear hr hk;go_enter Tryz.func170,Tryz.ntmps170
 go_wp2_with (fail);refine H.out.mono ?_;rintro e w1 ⟨r,rfl,hr,hb,hm⟩;have HB:=Bas.hid hb;clear hb H;go_wp2_with (fail);go_ret;exact ⟨rfl,HB.out⟩
theorem excl_any(v:Value)(fs:List FeatD)(ss:List Value)(base:Nat)(kind:Int)(w:World)(hr:FRow w base v fs ss)(hlen:fs.length≤1000000000):
  Calls Tryz.prog 113 #[v,.int .i64 kind] w fun e w'=>e=.returned (.bool (exclL fs kind))∧Below w.heap.size w w':=by
 have hmf:∀(fn:Fn) (first cap:Array Value) (w:World),(Instr.makeFunc fn first cap).run Tryz.prog w=.ok (.func fn first cap) w:=fun _ _ _ _=>rfl
 have hb0:=(Below.refl w.heap.size w).alloc (Nat.le_refl _) (.cells #[.int .i64 kind] 3);have H:=Bas.hid (contains_any v fs ss base kind w.heap.size (w.alloc (.cells #[.int .i64 kind] 3)) (fRow_below hr hb0) (cell_of_heap (i:=0) (Bas.heap_new _ _) rfl) hlen);have HB0:=Bas.hid hb0;obtain ⟨ad,cp,rfl⟩:=own_slice hr.own;clear hr hb0;go_enter Tryz.func113,Tryz.ntmps113
 go_wp2_with (fail);refine H.out.mono ?_;rintro e w1 ⟨rfl,hb⟩;have HB:=Bas.hid (Bas.on HB0.out hb);clear hb H;go_wp2_with (fail);go_ret;exact ⟨rfl,HB.out⟩
end Ft
namespace Pk
open Ch Ft Go.Maps
def kl(s:Int×Int):Lit:=.string (keyBytes [.int .i64 s.1,.int .i64 s.2])
def wf64(s:Int×Int):Prop:=(Lit.int .i64 s.1).wf=true∧(Lit.int .i64 s.2).wf=true
theorem laidOut:laidOutB Tryz.prog=true:=by kernel_rfl
theorem keyed:Keyed Tryz.prog 325:=Keyed.of_law (deep_law_laid laidOut (m:=2) (by omega) (of_decide_eq_true (by kernel_rfl)) (by kernel_rfl) (by rw [Tryz.underlying325]))
theorem key_type:Tryz.prog.keyType 325=true:=by kernel_rfl
theorem cells_set:Tryz.prog.cellsOf 325=2:=by kernel_rfl
theorem cells_int:Tryz.prog.cellsOf 3=1:=by kernel_rfl
theorem types_size:∃m,Tryz.prog.types.size=m+1:=⟨Tryz.prog.types.size - 1,by have:0<Tryz.prog.types.size:=of_decide_eq_true (by kernel_rfl);omega⟩
theorem keyOf_set(s:Int×Int)(h:wf64 s):keyOf Tryz.prog 325 (setV s)=some (kl s):=by
 obtain ⟨m,hm⟩:=types_size;have h1:(Value.agg #[Value.int IntKind.i64 s.1,Value.int IntKind.i64 s.2]).formed Tryz.prog 325=true:=by simp [Value.formed,Tryz.underlying325,cells_set]
 unfold keyOf setV;simp only [Tryz.underlying325,key_type,h1,Bool.and_self,if_true];rw [hm];simp [Program.keyLits,Tryz.underlying325,Tryz.underlying3,Value.cells,cells_set,cells_int,h.1,h.2,kl]
theorem keyOf_set_inv{v:Value}{l:Lit}(h:keyOf Tryz.prog 325 v=some l):∃s,wf64 s∧v=setV s∧l=kl s:=by
 obtain ⟨m,hm⟩:=types_size;unfold keyOf at h;simp only [Tryz.underlying325,key_type,Bool.true_and] at h;rw [hm] at h;split at h
 ·rename_i hf
  cases v with
  |agg cs=>
   simp only [Value.formed,Tryz.underlying325,cells_set,beq_iff_eq] at hf;obtain ⟨cs⟩:=cs;have hf2:cs.length=2:=by simpa using hf
   clear hf;rcases cs with _|⟨c0,_|⟨c1,_|⟨c2,cs⟩⟩⟩
   ·cases hf2
   ·cases hf2
   ·simp [Program.keyLits,Tryz.underlying325,Tryz.underlying3,Value.cells,cells_set,cells_int] at h;cases c0<;>simp at h
    rename_i k0 n0
    by_cases hk0:k0=IntKind.i64∧(Lit.int IntKind.i64 n0).wf=true
    ·rw [if_pos hk0] at h;cases c1<;>simp at h
     rename_i k1 n1
     by_cases hk1:k1=IntKind.i64∧(Lit.int IntKind.i64 n1).wf=true
     ·rw [if_pos hk1] at h;simp at h;obtain ⟨rfl,hw0⟩:=hk0;obtain ⟨rfl,hw1⟩:=hk1;exact ⟨(n0,n1),⟨hw0,hw1⟩,rfl,h.symm⟩
     ·rw [if_neg hk1] at h;simp at h
    ·rw [if_neg hk0] at h;simp at h
   ·simp at hf2
  |_=>simp [Value.formed,Tryz.underlying325] at hf
 ·cases h
theorem kl_inj{a b:Int×Int}(ha:wf64 a)(hb:wf64 b)(h:kl a=kl b):a=b:=by
 have h1:=keyOf_set a ha;rw [h] at h1;have h2:=keyed.inj h1 (keyOf_set b hb);simp [setV] at h2;exact Prod.ext h2.1 h2.2
theorem kl_key(a:Int×Int)(ha:wf64 a):WideAt.IsKeyLit (kl a):=keyed.key (keyOf_set a ha)
def dS(s:Int×Int):DataW Unit:=.agg [.lit (.int .i64 s.1),.lit (.int .i64 s.2)]
def readS:Value→Option (DataW Unit×List MemPlace)
 |.agg ⟨[.int .i64 a,.int .i64 b]⟩=>some (dS (a,b),[])
 |_=>none
theorem readS_mk(s:Int×Int):readS (setV s)=some (dS s,[]):=rfl
theorem readS_inv{v:Value}{y:DataW Unit×List MemPlace}(h:readS v=some y):∃s:Int×Int,v=setV s∧y=(dS s,[]):=by
 unfold readS at h;split at h
 ·cases h;exact ⟨(_,_),rfl,rfl⟩
 ·cases h
theorem dS_inj{a b:Int×Int}(h:dS a=dS b):a=b:=by
 simp [dS] at h;exact Prod.ext h.1 h.2
def rightB(s:Int×Int):Bool:=decide (0≤s.1∧s.1≤65535∧0≤s.2∧s.2≤65535)
def ck(fs:List FeatD)(s:Int×Int):Int×Int:=if exclL fs s.1 then (s.1,-1) else (s.1,s.2 / 2)
theorem ck_wf(fs:List FeatD)(s:Int×Int)(h:rightB s=true):wf64 (ck fs s):=by
 have h2:=of_decide_eq_true h;unfold ck wf64;split<;>refine ⟨?_, ?_⟩<;>simp [Lit.wf,IntKind.min,IntKind.max,IntKind.bits,IntKind.signed]<;>omega
def Dm(fs:List FeatD):List (Int×Int)→DataW Unit:=fun l=>l.foldl (fun D s=>if rightB s then D.put (kl (ck fs s)) (dS s) else D) (.map [])
theorem Dm_snoc(fs:List FeatD)(l:List (Int×Int))(s:Int×Int):Dm fs (l++[s])=if rightB s then (Dm fs l).put (kl (ck fs s)) (dS s) else Dm fs l:=by
 unfold Dm;rw [List.foldl_append];rfl
theorem Dm_map(fs:List FeatD)(l:List (Int×Int)):IsMap (Dm fs l):=by
 have key:∀(l:List (Int×Int)) (D:DataW Unit),IsMap D→IsMap (l.foldl (fun D s=>if rightB s then D.put (kl (ck fs s)) (dS s) else D) D):=by
  intro l;induction l with
  |nil=>exact fun D h=>h
  |cons s l ih=>
   intro D h;refine ih _ ?_;show IsMap (if rightB s then D.put (kl (ck fs s)) (dS s) else D)
   split
   ·exact h.put _ _
   ·exact h
 exact key l _ isMap_empty
def lastK(fs:List FeatD)(l:List (Int×Int))(c:Int×Int):Option (Int×Int):=l.foldl (fun o s=>if rightB s&&decide (ck fs s=c) then some s else o) none
theorem lastK_snoc(fs:List FeatD)(l:List (Int×Int))(s c:Int×Int):lastK fs (l++[s]) c=if rightB s&&decide (ck fs s=c) then some s else lastK fs l c:=by
 unfold lastK;rw [List.foldl_append];rfl
theorem rev_ind{α:Type}{p:List α→Prop}(h0:p [])(h1:∀l x,p l→p (l++[x])):∀l,p l:=fun l=>by
 have key:∀n (l:List α),l.length=n→p l:=by
  intro n;induction n with
  |zero=>intro l h;rw [List.length_eq_zero_iff.1 h];exact h0
  |succ n ih=>
   intro l h;have hne:l≠[]:=fun e=>by rw [e] at h;cases h
   rw [←List.dropLast_concat_getLast hne];exact h1 _ _ (ih _ (by rw [List.length_dropLast];omega))
 exact key _ l rfl
theorem lastK_some(fs:List FeatD){c s:Int×Int}:∀l,lastK fs l c=some s→s∈l∧rightB s=true∧ck fs s=c:=by
 refine rev_ind (fun h=>by cases h) fun l x ih h=> ?_
 rw [lastK_snoc] at h;split at h
 ·rename_i hc
  cases h;simp at hc;exact ⟨by simp,hc.1,hc.2⟩
 ·obtain ⟨h1,h2⟩:=ih h;exact ⟨by simp [h1],h2⟩
theorem Dm_reads(fs:List FeatD)(c:Int×Int)(hc:wf64 c):∀l,(has (Dm fs l) (kl c)=(lastK fs l c).isSome)∧∀s,lastK fs l c=some s→∀z,(Dm fs l).atKey (kl c) z=dS s:=by
 refine rev_ind ⟨rfl,fun s h=>by cases h⟩ fun l x ih=> ?_
 rw [Dm_snoc,lastK_snoc];cases hr:rightB x with
 |false=>simp only [Bool.false_and,if_false,Bool.false_eq_true];exact ih
 |true=>
  simp only [Bool.true_and,if_true];by_cases h:ck fs x=c
  ·rw [h];simp only [decide_true,if_true];refine ⟨by rw [has_put_same (Dm_map fs l) (kl_key c hc)];rfl,fun s hs z=> ?_⟩
   cases hs;exact atKey_put_same (Dm_map fs l) (kl_key c hc) _ z
  ·have hne:kl c≠kl (ck fs x):=fun e=>h (kl_inj (ck_wf fs x hr) hc e.symm)
   rw [decide_eq_false h];simp only [if_false,Bool.false_eq_true];exact ⟨by rw [has_put_other hne];exact ih.1,fun s hs z=>by rw [atKey_put_other hne];exact ih.2 s hs z⟩
end Pk
end Go.Proofs.YtceihjjjmcgmaaaGreat
namespace Go.Proofs.YtceihjjjmcgmaaaGreat
open Go.RowKit Go.ChangeShapes Go.WideShapes Go.ChangeAt
namespace Bk
open Vw Ch Sh
instance:Inhabited Ft.WPlan:=⟨⟨0,0,[]⟩⟩
instance:Inhabited RuleD:=⟨⟨0,0,0,0⟩⟩
instance:Inhabited WSub:=⟨⟨0,0,[]⟩⟩
instance:Inhabited WChain:=⟨⟨0,[],[],0⟩⟩
instance:Inhabited KSub:=⟨⟨0,[]⟩⟩
instance:Inhabited Tk.PTrack:=⟨⟨0,[]⟩⟩
theorem l2{c:List Value}(h:c.length=2){a b:Value}(h0:c[0]? =some a)(h1:c[1]? =some b):c=[a,b]:=by
 match c,h with
 |[x,y],_=>simp at h0 h1;subst h0 h1;rfl
theorem l3{c:List Value}(h:c.length=3){a b d:Value}(h0:c[0]? =some a)(h1:c[1]? =some b)(h2:c[2]? =some d):c=[a,b,d]:=by
 match c,h with
 |[x,y,z],_=>simp at h0 h1 h2;subst h0 h1 h2;rfl
theorem l4{c:List Value}(h:c.length=4){a b d e:Value}(h0:c[0]? =some a)(h1:c[1]? =some b)(h2:c[2]? =some d)(h3:c[3]? =some e):c=[a,b,d,e]:=by
 match c,h with
 |[x,y,z,t],_=>simp at h0 h1 h2 h3;subst h0 h1 h2 h3;rfl
theorem leads_slice{w:World}{v:Value}{n:Nat}{xs:List Value}(h:Row.Leads w v n xs):∃a cp,v=.slice a n cp:=by
 rcases h with ⟨rfl,rfl,_⟩|⟨a,c,rfl,_⟩
 ·exact ⟨_,_,rfl⟩
 ·exact ⟨_,_,rfl⟩
section
variable {H:Type} {enc:TypeId×Value→H} {w:World} {base N:Nat} {held:Bool}
theorem bytes{t e:TypeId}{P:Program}{fuel:Nat}{v:Value}{x:DataW H×List MemPlace}(hN:N≤140737488355328)(ht:P.underlying t=some (.slice e))(he:P.underlying e=some (.int .u8))(hc:P.cellsOf e=1)(h:DataW.trod enc P w base (fun _=>true) held fuel t [v]=some x)(hb:Rows.uptoBulk x.1≤N):
  ∃D:List Int,WData w v D∧(∀y∈D,0≤y∧y≤255)∧D.length≤N:=by
 obtain ⟨a,len,cap,zs,rfl,hz⟩:=Bas.open_bytes ht he hc h;obtain ⟨l,h1,_,h3⟩:=nums ht he hc h hb;have hl:len=l.length:=by
  obtain ⟨_,_,hv⟩:=leads_slice h1;cases hv;rfl
 obtain ⟨g1,g2,g3,g4,g5⟩:=VB_of_row hz (by omega)
 exact ⟨zs.take len,⟨a,cap,by rw [g2],g1,by rw [g2];exact g3,g4,g5⟩,g1.byte,by rw [g2];omega⟩
theorem feats{fuel:Nat}{v:Value}{x:DataW H×List MemPlace}(h:DataW.trod enc Tryz.prog w base (fun _=>true) held fuel 33 [v]=some x)(hb:Rows.uptoBulk x.1≤N):
  ∃l:List Ft.WPlan,Ft.WPlans w v l∧(∀c∈l,Ft.rgPlan c∧c.sets.length≤N)∧l.length≤N:=by
 have hc:Tryz.prog.cellsOf 87=3:=by kernel_rfl
 obtain ⟨l,h1,h2,h3⟩:=elems (f:=Ft.wPC) (m:=3) (good:=fun a=>Row.Leads w a.2 a.1.sets.length (a.1.sets.flatMap Ft.wS)∧Ft.rgPlan a.1∧a.1.sets.length≤N) (by omega) Ft.wPC_len Tryz.underlying33 hc h hb (fun n cs y hl ht hy=>by
  obtain ⟨_,_,_,f0,t0,_⟩:=field1 0 _ Tryz.underlying87 ht hy rfl (by kernel_rfl) (by rw [hc];decide)
  obtain ⟨_,_,_,f1,t1,_⟩:=field1 1 _ Tryz.underlying87 ht hy rfl (by kernel_rfl) (by rw [hc];decide)
  obtain ⟨v2,_,_,f2,t2,b2⟩:=field1 2 _ Tryz.underlying87 ht hy rfl (by kernel_rfl) (by rw [hc];decide)
  obtain ⟨s0,rfl,w0⟩:=int1 (kd:=.u16) (by kernel_rfl) t0
  obtain ⟨s1,rfl,w1⟩:=int1 (kd:=.u16) (by kernel_rfl) t1
  obtain ⟨ls,g1,g2,g3⟩:=nums (kd:=.u16) Tryz.underlying31 Tryz.underlying84 (by kernel_rfl) t2 b2
  exact ⟨(⟨s0,s1,ls⟩,v2),l3 hl f0 f1 f2,g1,⟨Bas.wf_u16 w0,Bas.wf_u16 w1,fun s hs=>Bas.wf_u16 (g2 s hs)⟩,g3⟩)
 obtain ⟨q,rs,q1,q2,q3,q4,q5⟩:=pairs h1 h2;exact ⟨q,⟨rs,q1,q3,fun i c r hc hr=>(q4 i c r hc hr).1⟩,fun c hc=>by obtain ⟨r,hr⟩:=q5 c hc;exact hr.2,by omega⟩
theorem rules{fuel:Nat}{v:Value}{x:DataW H×List MemPlace}(h:DataW.trod enc Tryz.prog w base (fun _=>true) held fuel 89 [v]=some x)(hb:Rows.uptoBulk x.1≤N):
  ∃l:List RuleD,Row.Leads w v l.length (l.flatMap wRuleC)∧(∀r∈l,okRule r)∧l.length≤N:=by
 have hc:Tryz.prog.cellsOf 130=4:=by kernel_rfl
 exact elems (f:=wRuleC) (m:=4) (good:=okRule) (by omega) wRuleC_len Tryz.underlying89 hc h hb (fun n cs y hl ht hy=>by
  obtain ⟨_,_,_,f0,t0,_⟩:=field1 0 _ Tryz.underlying130 ht hy rfl (by kernel_rfl) (by rw [hc];decide)
  obtain ⟨_,_,_,f1,t1,_⟩:=field1 1 _ Tryz.underlying130 ht hy rfl (by kernel_rfl) (by rw [hc];decide)
  obtain ⟨_,_,_,f2,t2,_⟩:=field1 2 _ Tryz.underlying130 ht hy rfl (by kernel_rfl) (by rw [hc];decide)
  obtain ⟨_,_,_,f3,t3,_⟩:=field1 3 _ Tryz.underlying130 ht hy rfl (by kernel_rfl) (by rw [hc];decide)
  obtain ⟨s0,rfl,w0⟩:=int1 (kd:=.u16) (by kernel_rfl) t0
  obtain ⟨s1,rfl,w1⟩:=int1 (kd:=.u16) (by kernel_rfl) t1
  obtain ⟨s2,rfl,w2⟩:=int1 (kd:=.u32) (by kernel_rfl) t2
  obtain ⟨s3,rfl,w3⟩:=int1 (kd:=.u32) (by kernel_rfl) t3
  exact ⟨⟨s0,s1,s2,s3⟩,l4 hl f0 f1 f2 f3,Bas.wf_u16 w0,Bas.wf_u16 w1,Bas.wf_u32 w2,Bas.wf_u32 w3⟩)
def okS(s:WSub):Prop:=(0≤s.cover∧s.cover≤4294967295)∧(0≤s.flags∧s.flags≤4294967295)∧∀x∈s.data,0≤x∧x≤255
theorem subs(hN:N≤140737488355328){fuel:Nat}{v:Value}{x:DataW H×List MemPlace}(h:DataW.trod enc Tryz.prog w base (fun _=>true) held fuel 90 [v]=some x)(hb:Rows.uptoBulk x.1≤N):
  ∃l:List WSub,WSubs w v l∧(∀s∈l,okS s∧s.data.length≤N)∧l.length≤N:=by
 have hc:Tryz.prog.cellsOf 94=3:=by kernel_rfl
 obtain ⟨l,h1,h2,h3⟩:=elems (f:=wSubC) (m:=3) (good:=fun a=>WData w a.2 a.1.data∧okS a.1∧a.1.data.length≤N) (by omega) wSubC_len Tryz.underlying90 hc h hb (fun n cs y hl ht hy=>by
  obtain ⟨_,_,_,f0,t0,_⟩:=field1 0 _ Tryz.underlying94 ht hy rfl (by kernel_rfl) (by rw [hc];decide)
  obtain ⟨_,_,_,f1,t1,_⟩:=field1 1 _ Tryz.underlying94 ht hy rfl (by kernel_rfl) (by rw [hc];decide)
  obtain ⟨v2,_,_,f2,t2,b2⟩:=field1 2 _ Tryz.underlying94 ht hy rfl (by kernel_rfl) (by rw [hc];decide)
  obtain ⟨s0,rfl,w0⟩:=int1 (kd:=.u32) (by kernel_rfl) t0
  obtain ⟨s1,rfl,w1⟩:=int1 (kd:=.u32) (by kernel_rfl) t1
  obtain ⟨D,g1,g2,g3⟩:=bytes (e:=5) hN (by kernel_rfl) Tryz.underlying5 (by kernel_rfl) t2 b2
  exact ⟨(⟨s0,s1,D⟩,v2),l3 hl f0 f1 f2,g1,⟨Bas.wf_u32 w0,Bas.wf_u32 w1,g2⟩,g3⟩)
 obtain ⟨q,rs,q1,q2,q3,q4,q5⟩:=pairs h1 h2;exact ⟨q,⟨rs,q1,q3,fun i c r hc hr=>(q4 i c r hc hr).1⟩,fun c hc=>by obtain ⟨r,hr⟩:=q5 c hc;exact hr.2,by omega⟩
def okC(N:Nat)(c:WChain):Prop:=((0≤c.first∧c.first≤4294967295)∧(0≤c.more∧c.more≤255)∧(∀r∈c.rules,okRule r)∧∀s∈c.subs,okS s)∧c.rules.length≤N∧c.subs.length≤N∧∀s∈c.subs,s.data.length≤N
theorem chains(hN:N≤140737488355328){fuel:Nat}{v:Value}{x:DataW H×List MemPlace}(h:DataW.trod enc Tryz.prog w base (fun _=>true) held fuel 34 [v]=some x)(hb:Rows.uptoBulk x.1≤N):
  ∃l:List WChain,WChains w v l∧(∀c∈l,okC N c)∧l.length≤N:=by
 have hc:Tryz.prog.cellsOf 92=4:=by kernel_rfl
 obtain ⟨l,h1,h2,h3⟩:=elems (f:=wChainC) (m:=4) (good:=fun a=>(Row.Leads w a.2.1 a.1.rules.length (a.1.rules.flatMap wRuleC)∧WSubs w a.2.2 a.1.subs)∧okC N a.1) (by omega) wChainC_len Tryz.underlying34 hc h hb (fun n cs y hl ht hy=>by
  obtain ⟨_,_,_,f0,t0,_⟩:=field1 0 _ Tryz.underlying92 ht hy rfl (by kernel_rfl) (by rw [hc];decide)
  obtain ⟨v1,_,_,f1,t1,b1⟩:=field1 1 _ Tryz.underlying92 ht hy rfl (by kernel_rfl) (by rw [hc];decide)
  obtain ⟨v2,_,_,f2,t2,b2⟩:=field1 2 _ Tryz.underlying92 ht hy rfl (by kernel_rfl) (by rw [hc];decide)
  obtain ⟨_,_,_,f3,t3,_⟩:=field1 3 _ Tryz.underlying92 ht hy rfl (by kernel_rfl) (by rw [hc];decide)
  obtain ⟨s0,rfl,w0⟩:=int1 (kd:=.u32) (by kernel_rfl) t0
  obtain ⟨s3,rfl,w3⟩:=int1 (kd:=.u8) (by kernel_rfl) t3
  obtain ⟨lr,r1,r2,r3⟩:=rules t1 b1;obtain ⟨ls,g1,g2,g3⟩:=subs hN t2 b2;exact ⟨(⟨s0,lr,ls,s3⟩,(v1,v2)),l4 hl f0 f1 f2 f3,⟨r1,g1⟩,⟨Bas.wf_u32 w0,Bas.wf_u8 w3,r2,fun s hs=>(g2 s hs).1⟩,r3,g3,fun s hs=>(g2 s hs).2⟩)
 obtain ⟨q,rs,q1,q2,q3,q4,q5⟩:=pairs h1 h2;exact ⟨q,⟨rs,q1,q3,fun i c r hc hr=>(q4 i c r hc hr).1⟩,fun c hc=>by obtain ⟨r,hr⟩:=q5 c hc;exact hr.2,by omega⟩
theorem ksubs(_hN:N≤140737488355328){fuel:Nat}{v:Value}{x:DataW H×List MemPlace}(h:DataW.trod enc Tryz.prog w base (fun _=>true) held fuel 35 [v]=some x)(hb:Rows.uptoBulk x.1≤N):
  ∃l:List KSub,KSubs w v l∧(∀s∈l,((0≤s.cover∧s.cover≤4294967295)∧∀y∈s.data,0≤y∧y≤255)∧s.data.length≤N)∧l.length≤N:=by
 have hc:Tryz.prog.cellsOf 96=2:=by kernel_rfl
 obtain ⟨l,h1,h2,h3⟩:=elems (f:=kSubC) (m:=2) (good:=fun a=>Row.Leads w a.2 a.1.data.length (a.1.data.map (Value.int .u8))∧((0≤a.1.cover∧a.1.cover≤4294967295)∧∀y∈a.1.data,0≤y∧y≤255)∧a.1.data.length≤N) (by omega) kSubC_len Tryz.underlying35 hc h hb (fun n cs y hl ht hy=>by
  obtain ⟨_,_,_,f0,t0,_⟩:=field1 0 _ Tryz.underlying96 ht hy rfl (by kernel_rfl) (by rw [hc];decide)
  obtain ⟨v1,_,_,f1,t1,b1⟩:=field1 1 _ Tryz.underlying96 ht hy rfl (by kernel_rfl) (by rw [hc];decide)
  obtain ⟨s0,rfl,w0⟩:=int1 (kd:=.u32) (by kernel_rfl) t0
  obtain ⟨ls,g1,g2,g3⟩:=nums (kd:=.u8) (e:=5) (by kernel_rfl) Tryz.underlying5 (by kernel_rfl) t1 b1
  rw [flat_one] at g1;exact ⟨(⟨s0,ls⟩,v1),l2 hl f0 f1,g1,⟨Bas.wf_u32 w0,fun s hs=>Bas.wf_u8 (g2 s hs)⟩,g3⟩)
 obtain ⟨q,rs,q1,q2,q3,q4,q5⟩:=pairs h1 h2;exact ⟨q,⟨rs,q1,q3,fun i c r hc hr=>(q4 i c r hc hr).1⟩,fun c hc=>by obtain ⟨r,hr⟩:=q5 c hc;exact hr.2,by omega⟩
theorem pts{fuel:Nat}{v:Value}{x:DataW H×List MemPlace}(h:DataW.trod enc Tryz.prog w base (fun _=>true) held fuel 97 [v]=some x)(hb:Rows.uptoBulk x.1≤N):
  ∃l:List (Int×Int),Row.Leads w v l.length (l.flatMap aptC)∧(∀q∈l,(-32768≤q.1∧q.1≤32767)∧-32768≤q.2∧q.2≤32767)∧l.length≤N:=by
 have hc:Tryz.prog.cellsOf 132=2:=by kernel_rfl
 have hc1:Tryz.prog.cellsOf 131=1:=by kernel_rfl
 exact elems (f:=aptC) (m:=2) (by omega) aptC_len Tryz.underlying97 hc h hb (fun n cs y hl ht hy=>by
  obtain ⟨y0,_,t0,_⟩:=elem 0 Tryz.underlying132 (by omega) ht hy
  obtain ⟨y1,_,t1,_⟩:=elem 1 Tryz.underlying132 (by omega) ht hy
  rw [hc1] at t0 t1
  match cs,hl with
  |[a,b],_=>
   obtain ⟨s0,rfl,w0⟩:=int1 (kd:=.i16) (v:=a) (by kernel_rfl) (by simpa using t0)
   obtain ⟨s1,rfl,w1⟩:=int1 (kd:=.i16) (v:=b) (by kernel_rfl) (by simpa using t1)
   exact ⟨(s0,s1),rfl,Bas.wf_i16 w0,Bas.wf_i16 w1⟩)
theorem ankr{fuel:Nat}{v:Value}{x:DataW H×List MemPlace}(h:DataW.trod enc Tryz.prog w base (fun _=>true) held fuel 36 [v]=some x)(hb:Rows.uptoBulk x.1≤N):
  ∃l:List (List (Int×Int)),APts w v l∧(∀s∈l,(∀q∈s,(-32768≤q.1∧q.1≤32767)∧-32768≤q.2∧q.2≤32767)∧s.length≤N)∧l.length≤N:=by
 have hc:Tryz.prog.cellsOf 97=1:=by kernel_rfl
 obtain ⟨l,h1,h2,h3⟩:=elems (f:=fun x:List (Int×Int)×Value=>[x.2]) (m:=1) (good:=fun a=>Row.Leads w a.2 a.1.length (a.1.flatMap aptC)∧(∀q∈a.1,(-32768≤q.1∧q.1≤32767)∧-32768≤q.2∧q.2≤32767)∧a.1.length≤N) (by omega) (fun _=>rfl) Tryz.underlying36 hc h hb (fun n cs y hl ht hy=>by
  match cs,hl with
  |[a],_=>
   obtain ⟨l,g1,g2,g3⟩:=pts ht hy;exact ⟨(l,a),rfl,g1,g2,g3⟩)
 obtain ⟨q,rs,q1,q2,q3,q4,q5⟩:=pairs h1 h2;exact ⟨q,⟨rs,q1,q3,fun i c r hc hr=>(q4 i c r hc hr).1⟩,fun c hc=>by obtain ⟨r,hr⟩:=q5 c hc;exact hr.2,by omega⟩
theorem tracks{fuel:Nat}{v:Value}{x:DataW H×List MemPlace}(h:DataW.trod enc Tryz.prog w base (fun _=>true) held fuel 39 [v]=some x)(hb:Rows.uptoBulk x.1≤N):
  ∃l:List Tk.PTrack,Tk.PTracks w v l∧(∀c∈l,Tk.rgTrack c)∧l.length≤N:=by
 have hc:Tryz.prog.cellsOf 252=2:=by kernel_rfl
 obtain ⟨l,h1,h2,h3⟩:=elems (f:=Tk.wTC) (m:=2) (good:=fun a=>Row.Leads w a.2 a.1.vals.length (a.1.vals.flatMap Tk.wI16)∧Tk.rgTrack a.1) (by omega) Tk.wTC_len Tryz.underlying39 hc h hb (fun n cs y hl ht hy=>by
  obtain ⟨_,_,_,f0,t0,_⟩:=field1 0 _ Tryz.underlying252 ht hy rfl (by kernel_rfl) (by rw [hc];decide)
  obtain ⟨v1,_,_,f1,t1,b1⟩:=field1 1 _ Tryz.underlying252 ht hy rfl (by kernel_rfl) (by rw [hc];decide)
  obtain ⟨s0,rfl,w0⟩:=int1 (kd:=.i32) (by kernel_rfl) t0
  obtain ⟨ls,g1,g2,g3⟩:=nums (kd:=.i16) Tryz.underlying250 Tryz.underlying131 (by kernel_rfl) t1 b1
  exact ⟨(⟨s0,ls⟩,v1),l2 hl f0 f1,g1,Bas.wf_i32 w0,fun s hs=>Bas.wf_i16 (g2 s hs)⟩)
 obtain ⟨q,rs,q1,q2,q3,q4,q5⟩:=pairs h1 h2;exact ⟨q,⟨rs,q1,q3,fun i c r hc hr=>(q4 i c r hc hr).1⟩,fun c hc=>by obtain ⟨r,hr⟩:=q5 c hc;exact hr.2,by omega⟩
theorem sizes{fuel:Nat}{v:Value}{x:DataW H×List MemPlace}(h:DataW.trod enc Tryz.prog w base (fun _=>true) held fuel 37 [v]=some x)(hb:Rows.uptoBulk x.1≤N):
  ∃l:List Int,Tk.PSizes w v l∧Tk.rgSizes l∧l.length≤N:=by
 obtain ⟨l,h1,h2,h3⟩:=nums (kd:=.i32) Tryz.underlying37 Tryz.underlying21 (by kernel_rfl) h hb
 exact ⟨l,h1,fun s hs=>Bas.wf_i32 (h2 s hs),h3⟩
theorem bool1{t:TypeId}{fuel:Nat}{v:Value}{x:DataW H×List MemPlace}(ht:Tryz.prog.underlying t=some .bool)(h:DataW.trod enc Tryz.prog w base (fun _=>true) held fuel t [v]=some x):∃b,v=.bool b:=by
 obtain ⟨b,e,_⟩:=DataW.trod_bool ht h;cases e;exact ⟨b,rfl⟩
end
def PBd(N:Nat)(p:PlanD):Prop:=(p.adv.length≤N∧p.feat.length≤N∧p.morx.length≤N∧p.kerx.length≤N∧p.ankr.length≤N)∧(∀c∈p.feat,c.sets.length≤N)∧(∀c∈p.morx,c.rules.length≤N∧c.subs.length≤N∧∀s∈c.subs,s.data.length≤N)∧
 (∀s∈p.kerx,s.data.length≤N)∧(∀l∈p.ankr,l.length≤N)∧(p.trak.s0.length≤N∧p.trak.t0.length≤N)∧p.trak.s1.length≤N∧p.trak.t1.length≤N
theorem plan{H:Type}{enc:TypeId×Value→H}{base N:Nat}(v:Value)(d:DataW H)(p:List MemPlace)(W:World)(hN:N≤140737488355328)(hv:Value.okWide Tryz.prog W .any base 44 v)(ht:DataW.Trod enc Tryz.prog W 0 (fun _=>true) true 44 v d p)(hb:Rows.uptoBulk d≤N):
  ∃(pv:PlanV) (q:PlanD),v=.agg (planC q.adv.length q.more q.has pv)∧PlanAt W pv q∧q.Ok∧PBd N q:=by
 obtain ⟨cs,rfl,hcs⟩:=okWide_struct Tryz.underlying44 hv;have hc:Tryz.prog.cellsOf 44=15:=by kernel_rfl
 rw [hc] at hcs;obtain ⟨a0,a1,a2,a3,a4,a5,a6,a7,a8,a9,a10,a11,a12,a13,a14,hl⟩:∃a0 a1 a2 a3 a4 a5 a6 a7 a8 a9 a10 a11 a12 a13 a14,cs.toList=[a0,a1,a2,a3,a4,a5,a6,a7,a8,a9,a10,a11,a12,a13,a14]:=by
  have h:cs.toList.length=15:=by simpa using hcs
  match cs.toList,h with
  |[a0,a1,a2,a3,a4,a5,a6,a7,a8,a9,a10,a11,a12,a13,a14],_=>exact ⟨_,_,_,_,_,_,_,_,_,_,_,_,_,_,_,rfl⟩
 obtain rfl:cs=#[a0,a1,a2,a3,a4,a5,a6,a7,a8,a9,a10,a11,a12,a13,a14]:=by cases cs;simp at hl;simp [hl]
 obtain ⟨fuel,hf⟩:=ht;have hh:DataW.trod enc Tryz.prog W 0 (fun _=>true) true fuel 44 [a0,a1,a2,a3,a4,a5,a6,a7,a8,a9,a10,a11,a12,a13,a14]=some (d,p):=hf
 have cb5:Tryz.prog.cellsOf 32=5:=by kernel_rfl
 have cb:Tryz.prog.cellsOf 4=1:=by kernel_rfl
 have c4:Tryz.prog.cellsOf 42=4:=by kernel_rfl
 obtain ⟨v0,_,_,f0,t0,b0⟩:=field1 0 _ Tryz.underlying44 hh hb rfl (by kernel_rfl) (by rw [hc];decide)
 obtain ⟨v1,_,_,f1,t1,b1⟩:=field1 1 _ Tryz.underlying44 hh hb rfl (by kernel_rfl) (by rw [hc];decide)
 obtain ⟨_,_,t2,b2⟩:=fieldN 2 _ Tryz.underlying44 hh hb rfl (e:=32) rfl rfl cb5;obtain ⟨v3,_,_,f3,t3,b3⟩:=field1 3 _ Tryz.underlying44 hh hb rfl (by kernel_rfl) (by rw [hc];decide)
 obtain ⟨v4,_,_,f4,t4,b4⟩:=field1 4 _ Tryz.underlying44 hh hb rfl (by kernel_rfl) (by rw [hc];decide)
 obtain ⟨v5,_,_,f5,t5,b5⟩:=field1 5 _ Tryz.underlying44 hh hb rfl (by kernel_rfl) (by rw [hc];decide)
 obtain ⟨v6,_,_,f6,t6,b6⟩:=field1 6 _ Tryz.underlying44 hh hb rfl (by kernel_rfl) (by rw [hc];decide)
 obtain ⟨_,_,t7,b7⟩:=fieldN 7 _ Tryz.underlying44 hh hb rfl (e:=42) rfl rfl c4;have t2':DataW.trod enc Tryz.prog W 0 (fun _=>true) true _ 32 [a2,a3,a4,a5,a6]=some _:=t2
 have t7':DataW.trod enc Tryz.prog W 0 (fun _=>true) true _ 42 [a11,a12,a13,a14]=some _:=t7
 have e0:a0=v0:=by simpa using f0
 have e1:a1=v1:=by simpa using f1
 have e3:a7=v3:=by simpa using f3
 have e4:a8=v4:=by simpa using f4
 have e5:a9=v5:=by simpa using f5
 have e6:a10=v6:=by simpa using f6
 subst e0 e1 e3 e4 e5 e6;obtain ⟨la,g0,k0,n0⟩:=nums (kd:=.u16) Tryz.underlying31 Tryz.underlying84 (by kernel_rfl) t0 b0
 obtain ⟨mo,rfl,w1⟩:=int1 (kd:=.u8) (by kernel_rfl) t1
 obtain ⟨lf,g3,k3,n3⟩:=feats t3 b3;obtain ⟨lm,g4,k4,n4⟩:=chains hN t4 b4;obtain ⟨lk,g5,k5,n5⟩:=ksubs hN t5 b5;obtain ⟨lx,g6,k6,n6⟩:=ankr t6 b6;obtain ⟨_,_,u0,_⟩:=elem 0 Tryz.underlying32 (by omega) t2' b2
 obtain ⟨_,_,u1,_⟩:=elem 1 Tryz.underlying32 (by omega) t2' b2
 obtain ⟨_,_,u2,_⟩:=elem 2 Tryz.underlying32 (by omega) t2' b2
 obtain ⟨_,_,u3,_⟩:=elem 3 Tryz.underlying32 (by omega) t2' b2
 obtain ⟨_,_,u4,_⟩:=elem 4 Tryz.underlying32 (by omega) t2' b2
 rw [cb] at u0 u1 u2 u3 u4;obtain ⟨q0,rfl⟩:=bool1 (v:=a2) (by kernel_rfl) (by simpa using u0)
 obtain ⟨q1,rfl⟩:=bool1 (v:=a3) (by kernel_rfl) (by simpa using u1)
 obtain ⟨q2,rfl⟩:=bool1 (v:=a4) (by kernel_rfl) (by simpa using u2)
 obtain ⟨q3,rfl⟩:=bool1 (v:=a5) (by kernel_rfl) (by simpa using u3)
 obtain ⟨q4,rfl⟩:=bool1 (v:=a6) (by kernel_rfl) (by simpa using u4)
 have cs2:Tryz.prog.cellsOf 38=2:=by kernel_rfl
 have ct2:Tryz.prog.cellsOf 40=2:=by kernel_rfl
 have cs1:Tryz.prog.cellsOf 37=1:=by kernel_rfl
 have ct1:Tryz.prog.cellsOf 39=1:=by kernel_rfl
 obtain ⟨_,_,s0,sb0⟩:=fieldN 0 _ Tryz.underlying42 t7' b7 rfl (e:=38) rfl rfl cs2;obtain ⟨_,_,s1,sb1⟩:=fieldN 1 _ Tryz.underlying42 t7' b7 rfl (e:=40) rfl rfl ct2;have s0':DataW.trod enc Tryz.prog W 0 (fun _=>true) true _ 38 [a11,a12]=some _:=s0
 have s1':DataW.trod enc Tryz.prog W 0 (fun _=>true) true _ 40 [a13,a14]=some _:=s1
 obtain ⟨_,_,x0,xb0⟩:=elem 0 Tryz.underlying38 (by omega) s0' sb0
 obtain ⟨_,_,x1,xb1⟩:=elem 1 Tryz.underlying38 (by omega) s0' sb0
 obtain ⟨_,_,x2,xb2⟩:=elem 0 Tryz.underlying40 (by omega) s1' sb1
 obtain ⟨_,_,x3,xb3⟩:=elem 1 Tryz.underlying40 (by omega) s1' sb1
 rw [cs1] at x0 x1;rw [ct1] at x2 x3;obtain ⟨l0,y0,z0,m0⟩:=sizes (v:=a11) (by simpa using x0) xb0
 obtain ⟨l1,y1,z1,m1⟩:=sizes (v:=a12) (by simpa using x1) xb1
 obtain ⟨l2,y2,z2,m2⟩:=tracks (v:=a13) (by simpa using x2) xb2
 obtain ⟨l3,y3,z3,m3⟩:=tracks (v:=a14) (by simpa using x3) xb3
 obtain ⟨ad,cp,rfl⟩:=leads_slice g0;obtain ⟨_,_,h3,_⟩:=id g3;obtain ⟨fa,fc,rfl⟩:=leads_slice h3;obtain ⟨_,_,h4,_⟩:=id g4;obtain ⟨ma,mc,rfl⟩:=leads_slice h4;obtain ⟨_,_,h5,_⟩:=id g5;obtain ⟨ka,kc,rfl⟩:=leads_slice h5;obtain ⟨_,_,h6,_⟩:=id g6;obtain ⟨aa,ac,rfl⟩:=leads_slice h6;obtain ⟨s0a,s0c,rfl⟩:=leads_slice y0;obtain ⟨s1a,s1c,rfl⟩:=leads_slice y1;obtain ⟨_,_,h7,_⟩:=id y2;obtain ⟨t0a,t0c,rfl⟩:=leads_slice h7;obtain ⟨_,_,h8,_⟩:=id y3;obtain ⟨t1a,t1c,rfl⟩:=leads_slice h8;refine ⟨⟨ad,cp,(fa,_,fc),(ma,_,mc),(ka,_,kc),(aa,_,ac),(s0a,_,s0c),(s1a,_,s1c),(t0a,_,t0c),(t1a,_,t1c)⟩,⟨la,mo,⟨q0,q1,q2,q3,q4⟩,lf,lm,lk,lx,⟨l0,l1,l2,l3⟩⟩,rfl,⟨g0,g3,g4,g5,g6,y0,y1,y2,y3⟩, ?_, ?_⟩
 ·exact ⟨⟨fun x hx=>Bas.wf_u16 (k0 x hx),Bas.wf_u8 w1⟩,fun c hc=>(k3 c hc).1,fun c hc=>(k4 c hc).1,fun s hs=>(k5 s hs).1,fun l hl=>(k6 l hl).1,⟨z0,z2⟩,z1,z3⟩
 ·exact ⟨⟨n0,n3,n4,n5,n6⟩,fun c hc=>(k3 c hc).2,fun c hc=>(k4 c hc).2,fun s hs=>(k5 s hs).2,fun l hl=>(k6 l hl).2,⟨m0,m2⟩,m1,m3⟩
theorem job{H:Type}{enc:TypeId×Value→H}{base N:Nat}(v:Value)(d:DataW H)(p:List MemPlace)(W:World)(hv:Value.okWide Tryz.prog W .any base 26 v)(ht:DataW.Trod enc Tryz.prog W 0 (fun _=>true) true 26 v d p)(hb:Rows.uptoBulk d≤N):
  ∃(s1:Option Addr) (s3:Nat) (dir z:Int) (a:Option Addr) (cap:Nat) (l:List (Int×Int)) (ids:List Int),v=.agg #[.slice s1 l.length s3,.int .i64 dir,.int .i32 z,.slice a ids.length cap]∧Row.Leads W (.slice s1 l.length s3) l.length (l.flatMap Pk.setC)∧(∀s∈l,Pk.wf64 s)∧l.length≤N∧
   (Lit.int .i64 dir).wf=true∧(-2147483648≤z∧z≤2147483647)∧Row.Leads W (.slice a ids.length cap) ids.length (ids.map (Value.int .i64))∧(∀s∈ids,(Lit.int .i64 s).wf=true)∧ids.length≤N:=by
 obtain ⟨cs,rfl,hcs⟩:=okWide_struct Tryz.underlying26 hv;have hc:Tryz.prog.cellsOf 26=4:=by kernel_rfl
 rw [hc] at hcs;obtain ⟨a0,a1,a2,a3,hl⟩:∃a0 a1 a2 a3,cs.toList=[a0,a1,a2,a3]:=by
  have h:cs.toList.length=4:=by simpa using hcs
  match cs.toList,h with
  |[a0,a1,a2,a3],_=>exact ⟨_,_,_,_,rfl⟩
 obtain rfl:cs=#[a0,a1,a2,a3]:=by cases cs;simp at hl;simp [hl]
 obtain ⟨fuel,hf⟩:=ht;have hh:DataW.trod enc Tryz.prog W 0 (fun _=>true) true fuel 26 [a0,a1,a2,a3]=some (d,p):=hf
 obtain ⟨v0,_,_,f0,t0,b0⟩:=field1 0 _ Tryz.underlying26 hh hb rfl (by kernel_rfl) (by rw [hc];decide)
 obtain ⟨v1,_,_,f1,t1,b1⟩:=field1 1 _ Tryz.underlying26 hh hb rfl (by kernel_rfl) (by rw [hc];decide)
 obtain ⟨v2,_,_,f2,t2,b2⟩:=field1 2 _ Tryz.underlying26 hh hb rfl (by kernel_rfl) (by rw [hc];decide)
 obtain ⟨v3,_,_,f3,t3,b3⟩:=field1 3 _ Tryz.underlying26 hh hb rfl (by kernel_rfl) (by rw [hc];decide)
 have e0:a0=v0:=by simpa using f0
 have e1:a1=v1:=by simpa using f1
 have e2:a2=v2:=by simpa using f2
 have e3:a3=v3:=by simpa using f3
 subst e0 e1 e2 e3;have hcS:Tryz.prog.cellsOf 325=2:=by kernel_rfl
 obtain ⟨l,g0,k0,n0⟩:=elems (f:=Pk.setC) (m:=2) (good:=Pk.wf64) (by omega) (fun _=>rfl) Tryz.underlying23 hcS t0 b0 (fun n cs y hl ht hy=>by
  obtain ⟨_,_,_,f0,t0,_⟩:=field1 0 _ Tryz.underlying325 ht hy rfl (by kernel_rfl) (by rw [hcS];decide)
  obtain ⟨_,_,_,f1,t1,_⟩:=field1 1 _ Tryz.underlying325 ht hy rfl (by kernel_rfl) (by rw [hcS];decide)
  obtain ⟨s0,rfl,w0⟩:=int1 (kd:=.i64) (by kernel_rfl) t0
  obtain ⟨s1,rfl,w1⟩:=int1 (kd:=.i64) (by kernel_rfl) t1
  exact ⟨(s0,s1),l2 hl f0 f1,w0,w1⟩)
 obtain ⟨dir,rfl,w1⟩:=int1 (kd:=.i64) (by kernel_rfl) t1
 obtain ⟨z,rfl,w2⟩:=int1 (kd:=.i32) (by kernel_rfl) t2
 obtain ⟨ids,g3,k3,n3⟩:=nums (kd:=.i64) Tryz.underlying24 Tryz.underlying3 (by kernel_rfl) t3 b3
 rw [flat_one] at g3;obtain ⟨sa,sc,rfl⟩:=leads_slice g0;obtain ⟨ia,ic,rfl⟩:=leads_slice g3;exact ⟨sa,sc,dir,z,ia,ic,l,ids,rfl,g0,k0,n0,w1,Bas.wf_i32 w2,g3,k3,n3⟩
end Bk
end Go.Proofs.YtceihjjjmcgmaaaGreat
namespace Go.Proofs.YtceihjjjmcgmaaaGreat
open Go.RowKit
namespace Sh
open Vw Wr Ch Bk
def sumN{α:Type}(f:α→Nat):List α→Nat
 |[]=>0
 |x::l=>f x+sumN f l
theorem sumN_take{α:Type}(f:α→Nat):∀(l:List α) (k:Nat) (x:α),l[k]? =some x→sumN f (l.take (k+1))=sumN f (l.take k)+f x
 |[],k,x,h=>by simp at h
 |y::l,0,x,h=>by
  have e:y=x:=by simpa using h
  subst e;simp [sumN]
 |y::l,k+1,x,h=>by
  have ih:=sumN_take f l k x (by simpa using h)
  simp only [List.take_succ_cons,sumN,ih];omega
theorem sumN_le{α:Type}(f:α→Nat)(M:Nat):∀(l:List α),(∀x∈l,f x≤M)→sumN f l≤l.length*M
 |[],_=>by simp [sumN]
 |y::l,h=>by
  have h1:=sumN_le f M l fun x hx=>h x (List.mem_cons_of_mem _ hx)
  have h2:=h y (List.mem_cons_self ..);simp only [sumN,List.length_cons,Nat.add_mul];omega
theorem sumN_bd{α:Type}(f:α→Nat)(M:Nat)(l:List α)(k:Nat)(hl:l.length≤1048576)(h:∀x∈l,f x≤M):sumN f (l.take k)≤1048576*M:=by
 refine Nat.le_trans (sumN_le f M (l.take k) fun x hx=>h x (List.mem_of_mem_take hx)) (Nat.mul_le_mul_right _ ?_)
 rw [List.length_take];omega
theorem sumN_zero{α:Type}(f:α→Nat):∀(l:List α),sumN f l=0↔∀x∈l,f x=0
 |[]=>by simp [sumN]
 |y::l=>by
  have ih:=sumN_zero f l;simp only [sumN,List.mem_cons,forall_eq_or_imp,←ih];omega
def fS(c:Ft.WPlan):Nat:=c.sets.length / 60
def dS(s:WSub):Nat:=s.data.length / 400
def cS(c:WChain):Nat:=c.rules.length / 20+c.subs.length / 6+sumN dS c.subs
def kS(s:KSub):Nat:=s.data.length / 400
def aS(l:List (Int×Int)):Nat:=l.length / 20
def smallN(p:PlanD):Nat:=p.adv.length / 100+p.feat.length / 20+p.morx.length / 5+p.kerx.length / 6+p.ankr.length / 21+sumN fS p.feat+sumN cS p.morx+sumN kS p.kerx+sumN aS p.ankr+(p.trak.s0.length / 20+p.trak.t0.length / 10)+(p.trak.s1.length / 20+p.trak.t1.length / 10)
def pickN(a b c:Nat):Nat→Nat
 |0=>a
 |1=>b
 |_=>c
theorem few_iff(p:PlanD):smallN p=0↔p.Few:=by
 have e:smallN p=0↔(p.adv.length / 100=0∧p.feat.length / 20=0∧p.morx.length / 5=0∧p.kerx.length / 6=0∧p.ankr.length / 21=0)∧sumN fS p.feat=0∧sumN cS p.morx=0∧sumN kS p.kerx=0∧sumN aS p.ankr=0∧(p.trak.s0.length / 20=0∧p.trak.t0.length / 10=0)∧p.trak.s1.length / 20=0∧p.trak.t1.length / 10=0:=by
  unfold smallN;omega
 rw [e,sumN_zero,sumN_zero,sumN_zero,sumN_zero];unfold PlanD.Few;have e1:(∀c∈p.feat,fS c=0)↔∀c∈p.feat,c.sets.length≤59:=⟨fun h c hc=>by have:=h c hc;unfold fS at this;omega,fun h c hc=>by have:=h c hc;unfold fS;omega⟩
 have e2:(∀c∈p.morx,cS c=0)↔∀c∈p.morx,c.rules.length≤19∧c.subs.length≤5∧∀s∈c.subs,s.data.length≤399:=by
  have e3:∀c:WChain,cS c=0↔c.rules.length≤19∧c.subs.length≤5∧∀s∈c.subs,s.data.length≤399:=fun c=>by
   have e4:cS c=0↔c.rules.length / 20=0∧c.subs.length / 6=0∧sumN dS c.subs=0:=by unfold cS;omega
   rw [e4,sumN_zero];refine ⟨fun ⟨h1,h2,h3⟩=>⟨by omega,by omega,fun s hs=>by have:=h3 s hs;unfold dS at this;omega⟩,fun ⟨h1,h2,h3⟩=>⟨by omega,by omega,fun s hs=>by have:=h3 s hs;unfold dS;omega⟩⟩
  exact ⟨fun h c hc=>(e3 c).1 (h c hc),fun h c hc=>(e3 c).2 (h c hc)⟩
 have e5:(∀s∈p.kerx,kS s=0)↔∀s∈p.kerx,s.data.length≤399:=⟨fun h c hc=>by have:=h c hc;unfold kS at this;omega,fun h c hc=>by have:=h c hc;unfold kS;omega⟩
 have e6:(∀s∈p.ankr,aS s=0)↔∀s∈p.ankr,s.length≤19:=⟨fun h c hc=>by have:=h c hc;unfold aS at this;omega,fun h c hc=>by have:=h c hc;unfold aS;omega⟩
 rw [e1,e2,e5,e6];constructor
 ·rintro ⟨h0,h1,h2,h3,h4,h5,h6⟩;exact ⟨by omega,h1,h2,h3,h4,by omega,by omega⟩
 ·rintro ⟨h0,h1,h2,h3,h4,h5,h6⟩;exact ⟨by omega,h1,h2,h3,h4,by omega,by omega⟩
theorem small_any(v:PlanV)(p:PlanD)(w:World)(hin:PlanAt w v p)(hbd:PBd 1048576 p):
  Calls Tryz.prog 8 #[.agg (planC p.adv.length p.more p.has v)] w fun e w'=>e=.returned (.int .i64 (if smallN p=0 then 1 else 0))∧Below w.heap.size w w':=by
 obtain ⟨⟨nn0,nn1,nn2,nn3,nn4⟩,bF,bM,bK,bA,⟨nn5,nn6⟩,nn7,nn8⟩:=hbd;have HIN:=Bas.hid hin;obtain ⟨-,hF,hM,hK,hA,hT0,hT1,hT2,hT3⟩:=hin;obtain ⟨rF,hF0,hF1,hF2⟩:=hF;obtain ⟨rM,hM0,hM1,hM2⟩:=hM;obtain ⟨rK,hK0,hK1,hK2⟩:=hK;obtain ⟨rA,hA0,hA1,hA2⟩:=hA;obtain ⟨r2,hX0,hX1,-⟩:=hT2;obtain ⟨r3,hY0,hY1,-⟩:=hT3;obtain ⟨fa,fc,hvf⟩:=Bk.leads_slice hF1;obtain ⟨ma,mc,hvm⟩:=Bk.leads_slice hM1;obtain ⟨ka,kc,hvk⟩:=Bk.leads_slice hK1;obtain ⟨aa,ac,hva⟩:=Bk.leads_slice hA1;obtain ⟨sa,sc,hvs⟩:=Bk.leads_slice hT0;obtain ⟨ta,tc,hvt⟩:=Bk.leads_slice hT1;obtain ⟨xa,xc,hvx⟩:=Bk.leads_slice hX1;obtain ⟨ya,yc,hvy⟩:=Bk.leads_slice hY1;have HF1:=Bas.hid hF1;have HM1:=Bas.hid hM1;have HK1:=Bas.hid hK1;have HA1:=Bas.hid hA1;simp only [planC];rw [hvf] at HF1 ⊢;rw [hvm] at HM1 ⊢;rw [hvk] at HK1 ⊢;rw [hva] at HA1 ⊢;rw [hvs,hvt,hvx,hvy];have HF2:=Bas.hid hF2;have HM2:=Bas.hid hM2;have HK2:=Bas.hid hK2;have HA2:=Bas.hid hA2;have HF0:=Bas.hid hF0;have HM0:=Bas.hid hM0;have HK0:=Bas.hid hK0;have HA0:=Bas.hid hA0;have sbF:=Bas.hid (fun k=>sumN_bd fS 1048576 p.feat k nn1 fun c hc=>by have:=bF c hc;unfold fS;omega)
 have sbD:=Bas.hid (fun (c:WChain) (hc:c∈p.morx) k=>sumN_bd dS 1048576 c.subs k (bM c hc).2.1 fun s hs=>by have:=(bM c hc).2.2 s hs;unfold dS;omega)
 have sbM:=Bas.hid (fun k=>sumN_bd cS 1099513724928 p.morx k nn2 fun c hc=>by
  obtain ⟨h1,h2,h3⟩:=bM c hc;have h4:=sumN_bd dS 1048576 c.subs c.subs.length h2 fun s hs=>by have:=h3 s hs;unfold dS;omega
  rw [List.take_length] at h4;unfold cS;omega)
 have sbK:=Bas.hid (fun k=>sumN_bd kS 1048576 p.kerx k nn3 fun c hc=>by have:=bK c hc;unfold kS;omega)
 have sbA:=Bas.hid (fun k=>sumN_bd aS 1048576 p.ankr k nn4 fun c hc=>by have:=bA c hc;unfold aS;omega)
 have HBM:=Bas.hid bM;have HSM:Hid (smallN p=p.adv.length / 100+p.feat.length / 20+p.morx.length / 5+p.kerx.length / 6+p.ankr.length / 21+sumN fS p.feat+sumN cS p.morx+sumN kS p.kerx+sumN aS p.ankr+(p.trak.s0.length / 20+p.trak.t0.length / 10)+(p.trak.s1.length / 20+p.trak.t1.length / 10)):=rfl;have HF:=Bas.hid (sumN_take fS p.feat);have HM:=Bas.hid (sumN_take cS p.morx);have HK:=Bas.hid (sumN_take kS p.kerx);have HA:=Bas.hid (sumN_take aS p.ankr);have HFT:Hid (p.feat.take p.feat.length=p.feat):=List.take_length;have HMT:Hid (p.morx.take p.morx.length=p.morx):=List.take_length;have HKT:Hid (p.kerx.take p.kerx.length=p.kerx):=List.take_length;have HAT:Hid (p.ankr.take p.ankr.length=p.ankr):=List.take_length;obtain ⟨nA,hnA⟩:∃n,p.adv.length=n:=⟨_,rfl⟩;obtain ⟨nF,hnF⟩:∃n,p.feat.length=n:=⟨_,rfl⟩;obtain ⟨nM,hnM⟩:∃n,p.morx.length=n:=⟨_,rfl⟩;obtain ⟨nK,hnK⟩:∃n,p.kerx.length=n:=⟨_,rfl⟩;obtain ⟨nX,hnX⟩:∃n,p.ankr.length=n:=⟨_,rfl⟩;obtain ⟨n5,hn5⟩:∃n,p.trak.s0.length=n:=⟨_,rfl⟩;obtain ⟨n6,hn6⟩:∃n,p.trak.t0.length=n:=⟨_,rfl⟩;obtain ⟨n7,hn7⟩:∃n,p.trak.s1.length=n:=⟨_,rfl⟩;obtain ⟨n8,hn8⟩:∃n,p.trak.t1.length=n:=⟨_,rfl⟩;rw [hnA,hnF,hnM,hnK,hnX,hn5,hn6,hn7,hn8] at HSM;rw [hnA] at nn0 ⊢;rw [hnF] at nn1 HF1 HF0 HFT ⊢;rw [hnM] at nn2 HM1 HM0 HMT ⊢;rw [hnK] at nn3 HK1 HK0 HKT ⊢;rw [hnX] at nn4 HA1 HA0 HAT ⊢;rw [hn5] at nn5 ⊢;rw [hn6] at nn6 ⊢;rw [hn7] at nn7 ⊢;rw [hn8] at nn8 ⊢;have HNF:=Bas.hid hnF;have HNM:=Bas.hid hnM;have HNK:=Bas.hid hnK;have HNX:=Bas.hid hnX;obtain ⟨ans,hans⟩:∃ans:Int,(if smallN p=0 then (1:Int) else 0)=ans:=⟨_,rfl⟩
 rw [hans];have HANS:=Bas.hid hans;generalize smallN p=SN at*;obtain ⟨h0,h1,h2,h3,h4⟩:=p.has;generalize p.more=mo at*;clear hF1 hF2 hF0 hM0 hM1 hM2 hK0 hK1 hK2 hA0 hA1 hA2 hX0 hX1 hY0 hY1 hT0 hT1 hvf hvm hvk hva hvs hvt hvx hvy hnA hnF hnM hnK hnX hn5 hn6 hn7 hn8 hans bF bM bK bA;have hb1:=(Below.refl w.heap.size w).alloc (Nat.le_refl _) (.cells #[.slice v.ad nA v.cp,.int .u8 mo,.bool h0,.bool h1,.bool h2,.bool h3,.bool h4,.slice fa nF fc,.slice ma nM mc,.slice ka nK kc,.slice aa nX ac,.slice sa n5 sc,.slice ta n7 tc,.slice xa n6 xc,.slice ya n8 yc] 44);have HK1B:=Bas.hid (Bas.heap_new w (.cells #[.slice v.ad nA v.cp,.int .u8 mo,.bool h0,.bool h1,.bool h2,.bool h3,.bool h4,.slice fa nF fc,.slice ma nM mc,.slice ka nK kc,.slice aa nX ac,.slice sa n5 sc,.slice ta n7 tc,.slice xa n6 xc,.slice ya n8 yc] 44));have HB1:=Bas.hid hb1;clear hb1;go_enter Tryz.func8,Tryz.ntmps8
 go_wp2_with (fail);generalize w.alloc (.cells #[.slice v.ad nA v.cp,.int .u8 mo,.bool h0,.bool h1,.bool h2,.bool h3,.bool h4,.slice fa nF fc,.slice ma nM mc,.slice ka nK kc,.slice aa nX ac,.slice sa n5 sc,.slice ta n7 tc,.slice xa n6 xc,.slice ya n8 yc] 44)=W1 at*;obtain ⟨A0,hA0⟩:∃A0:Nat,nA / 100+nF / 20+nM / 5+nK / 6+nX / 21=A0:=⟨_,rfl⟩;have hA0b:A0≤5242880:=by omega
 have e0:(nA:Int) / 100+(nF:Int) / 20+(nM:Int) / 5+(nK:Int) / 6+(nX:Int) / 21=(A0:Int):=by omega
 rw [e0];have HA0E:=Bas.hid hA0;clear hA0 e0;go_loopw [3,42] (fun vn vi wr=>∃k:Nat,k≤nF∧vi=.int .i64 k∧vn=.int .i64 ((A0+sumN fS (p.feat.take k):Nat):Int)∧Below W1.heap.size W1 wr) (fun _ vi _=>nF - (intOf vi).toNat)
 case atStart=>exact ⟨0,Nat.zero_le _,rfl,rfl,Below.refl _ _⟩
 case round=>
  obtain ⟨k,hk,rfl,rfl,hb⟩:=hrel;have HB:=Bas.hid hb;have HBW:=Bas.hid (HB1.out.trans (hb.mono HB1.out.size));clear hb;by_cases hkn:k<nF
  ·obtain ⟨c,hc⟩:∃c,p.feat[k]? =some c:=⟨_,List.getElem?_eq_getElem (by rw [HNF.out];exact hkn)⟩
   obtain ⟨r,hr⟩:∃r,rF[k]? =some r:=⟨_,List.getElem?_eq_getElem (by rw [HF0.out];exact hkn)⟩
   obtain ⟨B0,O0,cp0,hv0,hcl⟩:=Row.leads_elem Ft.wPC_len HF1.out (x:=(c,r)) (List.getElem?_zip_eq_some.2 ⟨hc,hr⟩) (by omega)
   obtain ⟨as',cs',rfl⟩:=Bk.leads_slice (HF2.out k c r hc hr);cases hv0;have q0:=(HBW.out.cell (p:=⟨B0,O0+k*3,none⟩) (World.block_lt_of_cell? _ _ (hcl 0 _ rfl))).trans (hcl 0 _ rfl);have q1:=(HBW.out.cell (p:=⟨B0,O0+k*3+1,none⟩) (World.block_lt_of_cell? _ _ (hcl 1 _ rfl))).trans (hcl 1 _ rfl);have q2:=(HBW.out.cell (p:=⟨B0,O0+k*3+2,none⟩) (World.block_lt_of_cell? _ _ (hcl 2 _ rfl))).trans (hcl 2 _ rfl);have hst:=HF.out k c hc;have hbd:=sbF.out (k+1);rw [hst] at hbd;rw [show fS c=c.sets.length / 60 from rfl] at hst hbd
   have HST:=Bas.hid hst;obtain ⟨ct,cf,cs⟩:=c;simp only at q0 q1 q2 hbd HST;generalize cs.length=ns at*;generalize sumN fS (p.feat.take k)=S at*;have d1:decide ((k:Int)<(nF:Int))=true:=by simp;omega
   have d2:decide (k<nF)=true:=by simp;omega
   clear hcl hc hr hst;go_wp2_with (fail);go_roundw
   case rel=>exact ⟨k+1,by omega,by go_num,(by rw [HST.out];exact congrArg (Value.int .i64) (by omega)),HB.out.alloc HB.out.size _⟩
   case measure=>simp [intOf];omega
  ·have hk2:k=nF:=by omega
   subst hk2;have d1:decide ((k:Int)<(k:Int))=false:=by simp
   rw [HFT.out];obtain ⟨A1,hA1⟩:∃A1:Nat,A0+sumN fS p.feat=A1:=⟨_,rfl⟩;have hA1b:A1≤2199023255552:=by have:=sbF.out k;rw [HFT.out] at this;omega
   rw [hA1];have HA1E:=Bas.hid hA1;have ck:=(HB.out.block _ (Fo.heap_lt HK1B.out)).trans HK1B.out;have c8:=Fo.cell_of_heap (i:=8) (v:=.slice ma nM mc) ck rfl;clear hkn hA1 ck;have W2b:=HB;go_wp2_with (fail);clear c8;go_loopw [3,56] (fun vn vi wr=>∃k:Nat,k≤nM∧vi=.int .i64 k∧vn=.int .i64 ((A1+sumN cS (p.morx.take k):Nat):Int)∧Below W1.heap.size W1 wr) (fun _ vi _=>nM - (intOf vi).toNat)
   case atStart=>exact ⟨0,Nat.zero_le _,rfl,rfl,HB.out⟩
   case round=>
    clear HB HBW W2b;obtain ⟨k,hk,rfl,rfl,hb⟩:=hrel;have HB:=Bas.hid hb;have HBW:=Bas.hid (HB1.out.trans (hb.mono HB1.out.size));clear hb;by_cases hkn:k<nM
    ·obtain ⟨c,hc⟩:∃c,p.morx[k]? =some c:=⟨_,List.getElem?_eq_getElem (by rw [HNM.out];exact hkn)⟩
     obtain ⟨r,hr⟩:∃r,rM[k]? =some r:=⟨_,List.getElem?_eq_getElem (by rw [HM0.out];exact hkn)⟩
     obtain ⟨B0,O0,cp0,hv0,hcl⟩:=Row.leads_elem wChainC_len HM1.out (x:=(c,r)) (List.getElem?_zip_eq_some.2 ⟨hc,hr⟩) (by omega)
     obtain ⟨hru,ds,hd0,hd1,hd2⟩:=HM2.out k c r hc hr;obtain ⟨r1,r2⟩:=r;simp only at hru hd1;obtain ⟨a1',c1',rfl⟩:=Bk.leads_slice hru;obtain ⟨a2',c2',rfl⟩:=Bk.leads_slice hd1;cases hv0;have q0:=(HBW.out.cell (p:=⟨B0,O0+k*4,none⟩) (World.block_lt_of_cell? _ _ (hcl 0 _ rfl))).trans (hcl 0 _ rfl);have q1:=(HBW.out.cell (p:=⟨B0,O0+k*4+1,none⟩) (World.block_lt_of_cell? _ _ (hcl 1 _ rfl))).trans (hcl 1 _ rfl);have q2:=(HBW.out.cell (p:=⟨B0,O0+k*4+2,none⟩) (World.block_lt_of_cell? _ _ (hcl 2 _ rfl))).trans (hcl 2 _ rfl);have q3:=(HBW.out.cell (p:=⟨B0,O0+k*4+3,none⟩) (World.block_lt_of_cell? _ _ (hcl 3 _ rfl))).trans (hcl 3 _ rfl);have hst:=HM.out k c hc;have hbd:=sbM.out (k+1);have HD2:=Bas.hid hd2;have HD1:=Bas.hid hd1;have HD0:=Bas.hid hd0;have HDB:=Bas.hid (sbD.out c (List.mem_of_getElem? hc));obtain ⟨hb1,hb2,-⟩:=HBM.out c (List.mem_of_getElem? hc);have HDT:Hid (c.subs.take c.subs.length=c.subs):=List.take_length;have HDS:=Bas.hid (sumN_take dS c.subs);rw [hst] at hbd;rw [show cS c=c.rules.length / 20+c.subs.length / 6+sumN dS c.subs from rfl] at hst hbd
     have HST:=Bas.hid hst;obtain ⟨cf,cr,cu,cm⟩:=c;simp only at q0 q1 q2 q3 hbd HST HD2 HD1 HD0 HDB HDT HDS hb1 hb2;generalize cr.length=nr at*;obtain ⟨nu,hnu⟩:∃nu,cu.length=nu:=⟨_,rfl⟩;rw [hnu] at q2 hbd HST HD1 HD0 HDT hb2;have HNU:=Bas.hid hnu;generalize sumN cS (p.morx.take k)=S at*;have d1:decide ((k:Int)<(nM:Int))=true:=by simp;omega
     have d2:decide (k<nM)=true:=by simp;omega
     obtain ⟨A2,hA2⟩:∃A2:Nat,A1+S+(nr / 20+nu / 6)=A2:=⟨_,rfl⟩;have hA2b:A2+sumN dS cu≤2305843009213693952:=by omega
     have HA2E:=Bas.hid hA2;have hSb:S≤1152921504606846976*2:=by omega
     clear hcl hc hr hst hru hd0 hd1 hd2 hnu hA2 hbd;go_wp2_with (fail);have hbW:=(Below.refl wr.heap.size wr).alloc (Nat.le_refl _) (.cells #[.int .u32 cf,.slice a1' nr c1',.slice a2' nu c2',.int .u8 cm] 92);have HB2:=Bas.hid (HB.out.trans (hbW.mono HB.out.size));generalize wr.alloc (.cells #[.int .u32 cf,.slice a1' nr c1',.slice a2' nu c2',.int .u8 cm] 92)=W3 at*;generalize wr.heap.size=T3 at*;clear q0 q1 q2 q3 hbW;have e2:(A1:Int)+(S:Int)+((nr:Int) / 20+(nu:Int) / 6)=(A2:Int):=by have:=HA2E.out;omega
     rw [e2];clear e2;go_loopw [3,74] (fun vn vi wr=>∃j:Nat,j≤nu∧vi=.int .i64 j∧vn=.int .i64 ((A2+sumN dS (cu.take j):Nat):Int)∧Below W1.heap.size W1 wr) (fun _ vi _=>nu - (intOf vi).toNat)
     case atStart=>exact ⟨0,Nat.zero_le _,rfl,rfl,HB2.out⟩
     case round=>
      clear HB HBW HB2;obtain ⟨j,hj,rfl,rfl,hb⟩:=hrel;have HB:=Bas.hid hb;have HBW:=Bas.hid (HB1.out.trans (hb.mono HB1.out.size));clear hb;by_cases hjn:j<nu
      ·obtain ⟨c,hc⟩:∃c,cu[j]? =some c:=⟨_,List.getElem?_eq_getElem (by rw [HNU.out];exact hjn)⟩
       obtain ⟨r,hr⟩:∃r,ds[j]? =some r:=⟨_,List.getElem?_eq_getElem (by rw [HD0.out];exact hjn)⟩
       obtain ⟨B0,O0,cp0,hv0,hcl⟩:=Row.leads_elem wSubC_len HD1.out (x:=(c,r)) (List.getElem?_zip_eq_some.2 ⟨hc,hr⟩) (by omega)
       obtain ⟨as',cs',rfl,-⟩:=HD2.out j c r hc hr;cases hv0;have q0:=(HBW.out.cell (p:=⟨B0,O0+j*3,none⟩) (World.block_lt_of_cell? _ _ (hcl 0 _ rfl))).trans (hcl 0 _ rfl);have q1:=(HBW.out.cell (p:=⟨B0,O0+j*3+1,none⟩) (World.block_lt_of_cell? _ _ (hcl 1 _ rfl))).trans (hcl 1 _ rfl);have q2:=(HBW.out.cell (p:=⟨B0,O0+j*3+2,none⟩) (World.block_lt_of_cell? _ _ (hcl 2 _ rfl))).trans (hcl 2 _ rfl);have hst:=HDS.out j c hc;have hbd:=HDB.out (j+1);rw [hst] at hbd;rw [show dS c=c.data.length / 400 from rfl] at hst hbd
       have HST2:=Bas.hid hst;obtain ⟨ct,cf2,cs⟩:=c;simp only at q0 q1 q2 hbd HST2;generalize cs.length=ns at*;generalize sumN dS (cu.take j)=S2 at*;have d1:decide ((j:Int)<(nu:Int))=true:=by simp;omega
       have d2:decide (j<nu)=true:=by simp;omega
       clear hcl hc hr hst;go_wp2_with (fail);go_roundw
       case rel=>exact ⟨j+1,by omega,by go_num,(by rw [HST2.out];exact congrArg (Value.int .i64) (by omega)),HB.out.alloc HB.out.size _⟩
       case measure=>simp [intOf];omega
      ·have hj2:j=nu:=by omega
       subst hj2;have d1:decide ((j:Int)<(j:Int))=false:=by simp
       rw [HDT.out];clear hjn;have HST3:Hid (A1+sumN cS (p.morx.take (k+1))=A2+sumN dS cu):=by have h1:=HST.out;have h2:=HA2E.out;unfold Hid;omega
       go_wp2_with (fail);go_roundw
       case rel=>exact ⟨k+1,by omega,by go_num,(by rw [HST3.out]),HB.out⟩
       case measure=>simp [intOf];omega
    ·have hk2:k=nM:=by omega
     subst hk2;have d1:decide ((k:Int)<(k:Int))=false:=by simp
     rw [HMT.out];obtain ⟨A2,hA2⟩:∃A2:Nat,A1+sumN cS p.morx=A2:=⟨_,rfl⟩;have hA2b:A2≤2305843009213693952:=by have:=sbM.out k;rw [HMT.out] at this;omega
     rw [hA2];have HA2E:=Bas.hid hA2;have ck:=(HB.out.block _ (Fo.heap_lt HK1B.out)).trans HK1B.out;have c9:=Fo.cell_of_heap (i:=9) (v:=.slice ka nK kc) ck rfl;clear hkn hA2 ck;go_wp2_with (fail);clear c9;go_loopw [3,89] (fun vn vi wr=>∃k:Nat,k≤nK∧vi=.int .i64 k∧vn=.int .i64 ((A2+sumN kS (p.kerx.take k):Nat):Int)∧Below W1.heap.size W1 wr) (fun _ vi _=>nK - (intOf vi).toNat)
     case atStart=>exact ⟨0,Nat.zero_le _,rfl,rfl,HB.out⟩
     case round=>
      clear HB HBW;obtain ⟨k,hk,rfl,rfl,hb⟩:=hrel;have HB:=Bas.hid hb;have HBW:=Bas.hid (HB1.out.trans (hb.mono HB1.out.size));clear hb;by_cases hkn:k<nK
      ·obtain ⟨c,hc⟩:∃c,p.kerx[k]? =some c:=⟨_,List.getElem?_eq_getElem (by rw [HNK.out];exact hkn)⟩
       obtain ⟨r,hr⟩:∃r,rK[k]? =some r:=⟨_,List.getElem?_eq_getElem (by rw [HK0.out];exact hkn)⟩
       obtain ⟨B0,O0,cp0,hv0,hcl⟩:=Row.leads_elem kSubC_len HK1.out (x:=(c,r)) (List.getElem?_zip_eq_some.2 ⟨hc,hr⟩) (by omega)
       obtain ⟨as',cs',rfl⟩:=Bk.leads_slice (HK2.out k c r hc hr);cases hv0;have q0:=(HBW.out.cell (p:=⟨B0,O0+k*2,none⟩) (World.block_lt_of_cell? _ _ (hcl 0 _ rfl))).trans (hcl 0 _ rfl);have q1:=(HBW.out.cell (p:=⟨B0,O0+k*2+1,none⟩) (World.block_lt_of_cell? _ _ (hcl 1 _ rfl))).trans (hcl 1 _ rfl);have hst:=HK.out k c hc;have hbd:=sbK.out (k+1);rw [hst] at hbd;rw [show kS c=c.data.length / 400 from rfl] at hst hbd
       have HST:=Bas.hid hst;obtain ⟨ct,cs⟩:=c;simp only at q0 q1 hbd HST;generalize cs.length=ns at*;generalize sumN kS (p.kerx.take k)=S at*;have d1:decide ((k:Int)<(nK:Int))=true:=by simp;omega
       have d2:decide (k<nK)=true:=by simp;omega
       clear hcl hc hr hst;go_wp2_with (fail);go_roundw
       case rel=>exact ⟨k+1,by omega,by go_num,(by rw [HST.out];exact congrArg (Value.int .i64) (by omega)),HB.out.alloc HB.out.size _⟩
       case measure=>simp [intOf];omega
      ·have hk2:k=nK:=by omega
       subst hk2;have d1:decide ((k:Int)<(k:Int))=false:=by simp
       rw [HKT.out];obtain ⟨A3,hA3⟩:∃A3:Nat,A2+sumN kS p.kerx=A3:=⟨_,rfl⟩;have hA3b:A3≤2305845208236949504:=by have:=sbK.out k;rw [HKT.out] at this;omega
       rw [hA3];have HA3E:=Bas.hid hA3;have ck:=(HB.out.block _ (Fo.heap_lt HK1B.out)).trans HK1B.out;have c10:=Fo.cell_of_heap (i:=10) (v:=.slice aa nX ac) ck rfl;clear hkn hA3 ck;go_wp2_with (fail);clear c10;go_loopw [3,103] (fun vn vi wr=>∃k:Nat,k≤nX∧vi=.int .i64 k∧vn=.int .i64 ((A3+sumN aS (p.ankr.take k):Nat):Int)∧Below W1.heap.size W1 wr) (fun _ vi _=>nX - (intOf vi).toNat)
       case atStart=>exact ⟨0,Nat.zero_le _,rfl,rfl,HB.out⟩
       case round=>
        clear HB HBW;obtain ⟨k,hk,rfl,rfl,hb⟩:=hrel;have HB:=Bas.hid hb;have HBW:=Bas.hid (HB1.out.trans (hb.mono HB1.out.size));clear hb;by_cases hkn:k<nX
        ·obtain ⟨c,hc⟩:∃c,p.ankr[k]? =some c:=⟨_,List.getElem?_eq_getElem (by rw [HNX.out];exact hkn)⟩
         obtain ⟨r,hr⟩:∃r,rA[k]? =some r:=⟨_,List.getElem?_eq_getElem (by rw [HA0.out];exact hkn)⟩
         obtain ⟨B0,O0,cp0,hv0,hcl⟩:=Row.leads_elem (m:=1) (fun _=>rfl) HA1.out (x:=(c,r)) (List.getElem?_zip_eq_some.2 ⟨hc,hr⟩) (by omega)
         obtain ⟨as',cs',rfl⟩:=Bk.leads_slice (HA2.out k c r hc hr);cases hv0;have q0:=(HBW.out.cell (p:=⟨B0,O0+k*1,none⟩) (World.block_lt_of_cell? _ _ (hcl 0 _ rfl))).trans (hcl 0 _ rfl);rw [Nat.mul_one] at q0;have hst:=HA.out k c hc;have hbd:=sbA.out (k+1);rw [hst] at hbd;rw [show aS c=c.length / 20 from rfl] at hst hbd
         have HST:=Bas.hid hst;generalize c.length=ns at*;generalize sumN aS (p.ankr.take k)=S at*;have d1:decide ((k:Int)<(nX:Int))=true:=by simp;omega
         have d2:decide (k<nX)=true:=by simp;omega
         clear hcl hc hr hst;go_wp2_with (fail);go_roundw
         case rel=>exact ⟨k+1,by omega,by go_num,(by rw [HST.out];exact congrArg (Value.int .i64) (by omega)),HB.out⟩
         case measure=>simp [intOf];omega
        ·have hk2:k=nX:=by omega
         subst hk2;have d1:decide ((k:Int)<(k:Int))=false:=by simp
         rw [HAT.out];obtain ⟨A4,hA4⟩:∃A4:Nat,A3+sumN aS p.ankr=A4:=⟨_,rfl⟩;have hA4b:A4≤2305847407260205056:=by have:=sbA.out k;rw [HAT.out] at this;omega
         rw [hA4];have HA4E:=Bas.hid hA4;have ck:=(HB.out.block _ (Fo.heap_lt HK1B.out)).trans HK1B.out;have c11:=Fo.cell_of_heap (i:=11) (v:=.slice sa n5 sc) ck rfl;have c12:=Fo.cell_of_heap (i:=12) (v:=.slice ta n7 tc) ck rfl;have c13:=Fo.cell_of_heap (i:=13) (v:=.slice xa n6 xc) ck rfl;have c14:=Fo.cell_of_heap (i:=14) (v:=.slice ya n8 yc) ck rfl;have lk:=Fo.heap_lt ck;clear hkn hA4 ck;go_wp2_with (fail);obtain ⟨A5,hA5⟩:∃A5:Nat,A4+(n5 / 20+n6 / 10)=A5:=⟨_,rfl⟩;obtain ⟨A6,hA6⟩:∃A6:Nat,A5+(n7 / 20+n8 / 10)=A6:=⟨_,rfl⟩;have HSN:Hid (SN=A6):=by
          have h0:=HSM.out;have h1:=HA0E.out;have h2:=HA1E.out;have h3:=HA2E.out;have h4:=HA3E.out;have h5:=HA4E.out;unfold Hid;omega
         go_loopw [3,113] (fun vn vi wr=>∃k:Nat,k≤2∧vi=.int .i64 k∧vn=.int .i64 ((pickN A4 A5 A6 k:Nat):Int)∧Below W1.heap.size W1 wr) (fun _ vi _=>2 - (intOf vi).toNat)
         case atStart=>exact ⟨0,by omega,rfl,rfl,HB.out⟩
         case round=>
          clear HB HBW c11 c12 c13 c14 lk;obtain ⟨k,hk,rfl,rfl,hb⟩:=hrel;have HB:=Bas.hid hb;have ck:=(hb.block _ (Fo.heap_lt HK1B.out)).trans HK1B.out;have c11:=Fo.cell_of_heap (i:=11) (v:=.slice sa n5 sc) ck rfl;have c12:=Fo.cell_of_heap (i:=12) (v:=.slice ta n7 tc) ck rfl;have c13:=Fo.cell_of_heap (i:=13) (v:=.slice xa n6 xc) ck rfl;have c14:=Fo.cell_of_heap (i:=14) (v:=.slice ya n8 yc) ck rfl;have lk:=Fo.heap_lt ck;clear hb ck;rcases (by omega:k=0∨k=1∨k=2) with rfl|rfl|rfl
          ·have e9:pickN A4 A5 A6 0=A4:=rfl;have e10:pickN A4 A5 A6 1=A5:=rfl;rw [e9];have HE10:=Bas.hid e10;clear e9 e10;go_wp2_with (fail);refine' Pl.region_v0 136 [] [0,1,2,3,4,5,6,7,8,9,10,11,12,13,14,15,16] [17] _ (by kernel_rfl) (by kernel_rfl) (by simp) (fun _ _ _ _ e h=>⟨e▸h.1,h.2⟩) ?_ ?_
           rotate_left
           ·intro I F hI hF;simp only [Pl.selN,List.nil_append,List.drop_succ_cons,List.drop_zero];have x1:=fun q=>hF.cell lk c11 q
            have x2:=fun q=>hF.cell lk c13 q
            repeat (go_big_quiet_step (fail))
            refine wpQuiet_nil ?_;rfl
           intro u hu;simp only [Pl.selN,List.drop_succ_cons,List.drop_zero];have HBU:=Bas.hid (HB.out.trans (hu.mono HB.out.size));clear hu;go_wp2_with (fail);go_roundw
           case rel=>exact ⟨1,by omega,by go_num,(by rw [HE10.out];exact congrArg (Value.int .i64) (by omega)),HBU.out⟩
           case measure=>simp [intOf]
          ·have e9:pickN A4 A5 A6 1=A5:=rfl;have e10:pickN A4 A5 A6 2=A6:=rfl;rw [e9];have HE10:=Bas.hid e10;clear e9 e10;go_wp2_with (fail);refine' Pl.region_v0 136 [] [0,1,2,3,4,5,6,7,8,9,10,11,12,13,14,15,16] [17] _ (by kernel_rfl) (by kernel_rfl) (by simp) (fun _ _ _ _ e h=>⟨e▸h.1,h.2⟩) ?_ ?_
           rotate_left
           ·intro I F hI hF;simp only [Pl.selN,List.nil_append,List.drop_succ_cons,List.drop_zero];have x1:=fun q=>hF.cell lk c12 q
            have x2:=fun q=>hF.cell lk c14 q
            repeat (go_big_quiet_step (fail))
            refine wpQuiet_nil ?_;rfl
           intro u hu;simp only [Pl.selN,List.drop_succ_cons,List.drop_zero];have HBU:=Bas.hid (HB.out.trans (hu.mono HB.out.size));clear hu;go_wp2_with (fail);go_roundw
           case rel=>exact ⟨2,by omega,by go_num,(by rw [HE10.out];exact congrArg (Value.int .i64) (by omega)),HBU.out⟩
           case measure=>simp [intOf]
          ·have e9:pickN A4 A5 A6 2=A6:=rfl;rw [e9];clear e9 c11 c12 c13 c14;have HBX:Hid (Below w.heap.size w wr):=HB1.out.trans (HB.out.mono HB1.out.size);by_cases hz:SN=0
           ·have h0:A6=0:=by have:=HSN.out;omega
            have HA:Hid (ans=1):=by rw [if_pos hz] at HANS;exact HANS.out.symm
            subst h0;have d1:decide ((0:Int)<((0:Nat):Int))=false:=by decide
            have d2:decide (((0:Nat):Int)>0)=false:=by decide
            clear hz hA6 hA5;go_wp2_with (fail);go_ret;exact ⟨by rw [HA.out];rfl,HBX.out⟩
           ·have h0:0<A6:=by have:=HSN.out;omega
            have HA:Hid (ans=0):=by rw [if_neg hz] at HANS;exact HANS.out.symm
            have d1:decide ((0:Int)<(A6:Int))=true:=by simp;omega
            have d2:decide ((A6:Int)>0)=true:=by simp;omega
            clear hz hA6 hA5;go_wp2_with (fail);go_ret;exact ⟨by rw [HA.out];rfl,HBX.out⟩
end Sh
namespace Ft
open Vw Ch Ref01
theorem infoF8:(Tryz.prog.info? 146).map (fun i=>(i.zero,i.size,i.bytes))=some (some (.agg #[.int .i64 0,.bool false,.int .i64 0,.slice none 0 0]),4,48):=by kernel_rfl
theorem own_emptyF{w:World}{base size g:Nat}{e:TypeId}(hg:w.heap[g]? =some (.cells #[] e (0,0)))(hbg:base≤g):w.ownsRow base e size (.slice (some ⟨g,0,none⟩) 0 0) 0 []:=
 ⟨by simp,.inr ⟨g,0,#[],rfl,hbg,hg,Nat.le_refl _,Nat.zero_le _,by simp,by simp⟩⟩
theorem be_rowAt(bs:List Int)(i p k:Nat)(h:p+k≤12):be (rowAt bs i) p k=be bs (12+12*i+p) k:=by
 unfold be rowAt;rw [List.drop_take,List.take_take,List.drop_drop,Nat.min_eq_left (by omega)]
def RRows(w:World)(base:Nat)(v:Value)(fs:List FeatD)(ss:List Value):Prop:=ss.length=fs.length∧w.ownsRow base 146 4 v fs.length ((fs.zip ss).flatMap fC)
def FRefP(w:World)(bs:List Int)(e:Ending)(w':World):Prop:=
 Below w.heap.size w w'∧match parseFs bs with
  |none=>e=.returned (.tuple #[.slice none 0 0,.bool false])
  |some fs=>∃v ss,e=.returned (.tuple #[v,.bool true])∧RRows w' w.heap.size v fs ss
theorem fref_no(a:Option Addr)(len cap:Nat)(bs:List Int)(w:World)(hlm:len≤1000000000)(hv:VB w a bs)(hbl:bs.length=len)(h:¬(12≤len∧be bs 0 4=65536∧12+12*(be bs 4 2).toNat≤len)):
  Calls Tryz.prog 23 #[.slice a len cap] w (FRefP w bs):=by
 have HNO:Hid (parseFs bs=none):=by unfold Hid parseFs;rw [hbl,if_neg h]
 have E0:12≤len→uval bs 0 4=be bs 0 4:=fun h=>uval_nat bs 0 4 (by omega)
 have E4:12≤len→uval bs 4 2=be bs 4 2:=fun h=>uval_nat bs 4 2 (by omega)
 have b4:=uval_bd bs hv.byte 4 2 (by omega)
 have HU4:=Bas.hid (fun (w':World) (hb:Below w.heap.size w w')=>u_any a len cap bs 4 2 2 rfl w' (by omega) (hv.below hb) hbl (by omega))
 have HU0:=Bas.hid (fun (w':World) (hb:Below w.heap.size w w')=>u_any a len cap bs 0 4 4 rfl w' (by omega) (hv.below hb) hbl (by omega))
 have hcm:len≤9223372036854775807:=by omega
 have HB1:=Bas.hid ((Below.refl w.heap.size w).alloc (Nat.le_refl _) (.cells #[] 146));generalize uval bs 0 4=k at*;generalize uval bs 4 2=n at*;by_cases f1:k=65536
 ·by_cases f2:0≤n
  ·have hrB:¬rowsB len 12 n 12:=by
    rintro ⟨h1,h2,h3,h4,h5⟩;have h12:12≤len:=by omega
    rw [E0 h12] at f1;rw [E4 h12] at h5 f2;exact h ⟨h12,f1,by omega⟩
   have g1:(k==65536)=true:=by simpa using f1
   have g2:decide (n<0)=false:=by simpa using f2
   subst f1;clear h E0 E4 hv;go_enter Tryz.func23,Tryz.ntmps23
   go_wp2_with (fail);generalize w.alloc (.cells #[] 146)=W1 at*;refine (HU4.out _ HB1.out).mono ?_;rintro e w' ⟨rfl,rfl⟩;go_wp2_with (fail);refine (HU0.out _ HB1.out).mono ?_;rintro e w' ⟨rfl,rfl⟩;go_wp2_with (fail);refine (rows_no len _ _ _ _ (by omega) (by omega) (by omega) hrB).mono ?_
   rintro e w' ⟨rfl,rfl⟩;go_wp2_with (fail);exact bodyPost_ret (v:=.tuple #[.slice none 0 0,.bool false]) (by simp [results,Tryz.results23,go_sem]) rfl ⟨HB1.out,by rw [HNO.out]⟩
  ·have g1:(k==65536)=true:=by simpa using f1
   have g2:decide (n<0)=true:=by simp;omega
   subst f1;clear h E0 E4 hv;go_enter Tryz.func23,Tryz.ntmps23
   go_wp2_with (fail);generalize w.alloc (.cells #[] 146)=W1 at*;refine (HU4.out _ HB1.out).mono ?_;rintro e w' ⟨rfl,rfl⟩;go_wp2_with (fail);refine (HU0.out _ HB1.out).mono ?_;rintro e w' ⟨rfl,rfl⟩;go_wp2_with (fail);exact bodyPost_ret (v:=.tuple #[.slice none 0 0,.bool false]) (by simp [results,Tryz.results23,go_sem]) rfl ⟨HB1.out,by rw [HNO.out]⟩
 ·have g1:(k==65536)=false:=by simpa using f1
  have g2:(k !=65536)=true:=by simpa using f1
  have g3:decide (k=65536)=false:=by simpa using f1
  clear h E0 E4 hv f1;go_enter Tryz.func23,Tryz.ntmps23
  go_wp2_with (fail);generalize w.alloc (.cells #[] 146)=W1 at*;refine (HU4.out _ HB1.out).mono ?_;rintro e w' ⟨rfl,rfl⟩;go_wp2_with (fail);refine (HU0.out _ HB1.out).mono ?_;rintro e w' ⟨rfl,rfl⟩;go_wp2_with (fail);exact bodyPost_ret (v:=.tuple #[.slice none 0 0,.bool false]) (by simp [results,Tryz.results23,go_sem]) rfl ⟨HB1.out,by rw [HNO.out]⟩
theorem fref_main(a:Option Addr)(len cap:Nat)(bs:List Int)(n:Nat)(w:World)(hlm:len≤1000000000)(hv:VB w a bs)(hbl:bs.length=len)
  (h12:12≤len) (hk:be bs 0 4=65536) (hn:be bs 4 2=n) (hrow:12+12*n≤len):
  Calls Tryz.prog 23 #[.slice a len cap] w (FRefP w bs):=by
 have hrB:rowsB len 12 n 12:=⟨by omega,by omega,.inr (by omega),by omega,by omega⟩
 have U:=fun (q k:Nat) (hk:k≤4) (x m:Int) (hx:x=q) (hm:m=k) (hq:q+k≤len) (w':World) (hb:Below w.heap.size w w')=>(by
  have h:=u_any a len cap bs x k m hm w' (by omega) (hv.below hb) hbl hk
  rw [hx,uval_nat bs q k (by omega)] at h
  rw [←hx] at h;exact h:Calls Tryz.prog 34 #[.slice a len cap,.int .i64 x,.int .i64 m] w' fun e w''=>e=.returned (.int .i64 (be bs q k))∧w'=w'')
 have HPA:Hid (parseFs bs=featsAt bs n 0 none):=by
  unfold Hid parseFs;rw [hn,Int.toNat_natCast,if_pos ⟨by omega,hk,by omega⟩]
 have U0:=U 0 4 (by omega) 0 4 rfl rfl (by omega)
 have U4:=U 4 2 (by omega) 4 2 rfl rfl (by omega)
 rw [hk] at U0;rw [hn] at U4;have hnb:=be2_bd bs hv.byte 4 (by omega)
 rw [hn] at hnb;have HU:=Bas.hid U;have HU0:=Bas.hid U0;have HU4:=Bas.hid U4;have HV:=Bas.hid hv;obtain ⟨n0,n1⟩:=hnb;have hcm:len≤9223372036854775807:=by omega
 have hn65:n≤65535:=by omega
 have k1:=Bas.heap_new w (.cells #[] 146);have HO1:=Bas.hid (own_emptyF (size:=4) k1 (Nat.le_refl w.heap.size));have HB1:=Bas.hid ((Below.refl w.heap.size w).alloc (Nat.le_refl _) (.cells #[] 146));clear U U0 U4 hv hk hn k1;go_enter Tryz.func23,Tryz.ntmps23
 go_wp2_with (fail);generalize w.alloc (.cells #[] 146)=W1 at*;refine (HU4.out _ HB1.out).mono ?_;rintro e w' ⟨rfl,rfl⟩;go_wp2_with (fail);refine (HU0.out _ HB1.out).mono ?_;rintro e w' ⟨rfl,rfl⟩;go_wp2_with (fail);refine (rows_yes len _ _ _ _ (by omega) (by omega) (by omega) hrB).mono ?_
 rintro e w' ⟨rfl,rfl⟩;go_wp2_with (fail);go_loopw [4,6] (fun vo vi wr=>∃(i:Nat) (vo':Value) (fs:List FeatD) (ss:List Value),i≤n∧vi=.int .i64 i∧vo'=vo∧fs.length=i∧featsAt bs n 0 none=(featsAt bs (n - i) i (lastT fs)).map (fun l=>fs++l)∧
  RRows wr w.heap.size vo' fs ss∧Below w.heap.size w wr) (fun _ vi _=>n - (intOf vi).toNat)
 case atStart=>exact ⟨0,_,[],[],Nat.zero_le _,rfl,rfl,rfl,by simp [lastT],⟨rfl,HO1.out⟩,HB1.out⟩
 case round=>
  obtain ⟨i,vo',fs,ss,hi,rfl,hvo,hfl,hsub,hro,hb⟩:=hrel;rw [←hvo];clear hvo HO1 HB1;obtain ⟨ado,cpo,rfl⟩:=own_slice hro.2;have HSUB:=Bas.hid hsub;have HFL:=Bas.hid hfl;have HSS:=Bas.hid hro.1;have hown:=hro.2;rw [hfl] at hown ⊢;have HO:=Bas.hid hown;have HB:=Bas.hid hb;clear hsub hfl hro hb hown;by_cases hin:i<n
  ·have e1:decide ((i:Int)<(n:Int))=true:=by simp;omega
   obtain ⟨q,hq⟩:∃q,12+12*i=q:=⟨_,rfl⟩;have hql:q+12≤len:=by omega
   have HQ:=Bas.hid hq;have p0:=be_rowAt bs i 0 2 (by omega)
   have p2:=be_rowAt bs i 2 2 (by omega)
   have p4:=be_rowAt bs i 4 4 (by omega)
   have p8:=be_rowAt bs i 8 2 (by omega)
   rw [hq] at p0 p2 p4 p8;rw [Nat.add_zero] at p0;have hpf:parseF bs (rowAt bs i)=if (be bs (q+4) 4).toNat+4*(be bs (q+2) 2).toNat≤bs.length then
     some ⟨be bs q 2,decide (be bs (q+8) 2≥32768),dfltOf (setsAt bs (be bs (q+4) 4).toNat (be bs (q+2) 2).toNat) (be bs (q+8) 2),setsAt bs (be bs (q+4) 4).toNat (be bs (q+2) 2).toNat⟩ else none:=by
    unfold parseF;rw [p0,p2,p4,p8]
   have t0:=be2_bd bs HV.out.byte q (by omega)
   have t2:=be2_bd bs HV.out.byte (q+2) (by omega)
   have t4:=be4_bd bs HV.out.byte (q+4) (by omega)
   have t8:=be2_bd bs HV.out.byte (q+8) (by omega)
   have A0:=HU.out q 2 (by omega)
   have A2:=HU.out (q+2) 2 (by omega)
   have A4:=HU.out (q+4) 4 (by omega)
   have A8:=HU.out (q+8) 2 (by omega)
   obtain ⟨ty,hty⟩:∃ty,be bs q 2=ty:=⟨_,rfl⟩;obtain ⟨m,hm⟩:=Int.eq_ofNat_of_zero_le t2.1;obtain ⟨fr,hfr⟩:=Int.eq_ofNat_of_zero_le t4.1;obtain ⟨fl,hfl⟩:∃fl,be bs (q+8) 2=fl:=⟨_,rfl⟩;rw [hty] at A0 t0 hpf;rw [hm] at A2 t2 hpf;rw [hfr] at A4 t4 hpf;rw [hfl] at A8 t8 hpf;rw [Int.toNat_natCast,Int.toNat_natCast,hbl] at hpf;obtain ⟨ex,hex⟩:∃ex,decide (fl≥32768)=ex:=⟨_,rfl⟩;rw [hex] at hpf;have HPF:=Bas.hid hpf;have HA0:=Bas.hid A0;have HA2:=Bas.hid A2;have HA4:=Bas.hid A4;have HA8:=Bas.hid A8;have hex2:decide (32768≤fl)=ex:=hex;obtain ⟨t00,t01⟩:=t0;obtain ⟨t20,t21⟩:=t2;obtain ⟨t40,t41⟩:=t4;obtain ⟨t80,t81⟩:=t8;have hm65:m≤65535:=by omega
   clear p0 p2 p4 p8 hpf A0 A2 A4 A8 hty hm hfr hfl hq;go_wp2_with (fail);refine (HA2.out _ _ (by have:=HQ.out;omega) rfl (by omega) _ HB.out).mono ?_
   rintro e w' ⟨rfl,rfl⟩;go_wp2_with (fail);refine (HA4.out _ _ (by have:=HQ.out;omega) rfl (by omega) _ HB.out).mono ?_
   rintro e w' ⟨rfl,rfl⟩;go_wp2_with (fail);refine (HA8.out _ _ (by have:=HQ.out;omega) rfl (by omega) _ HB.out).mono ?_
   rintro e w' ⟨rfl,rfl⟩;go_wp2_with (fail);refine (HA0.out _ _ (by have:=HQ.out;omega) rfl (by omega) _ HB.out).mono ?_
   rintro e w' ⟨rfl,rfl⟩;go_wp2_with (fail);have kT:=Bas.heap_new wr (.cells #[.int .i64 ty,.bool ex,.int .i64 (-1),.slice none 0 0] 146);have hb2:=(Below.refl wr.heap.size wr).alloc (Nat.le_refl _) (.cells #[.int .i64 ty,.bool ex,.int .i64 (-1),.slice none 0 0] 146);have HB2:=Bas.hid (HB.out.trans (hb2.mono HB.out.size));have HO2:=Bas.hid (Row.owned_below HO.out hb2);have HLT:Hid (∀g',(Value.slice ado i cpo).ownBlock=some g'→g'<wr.heap.size):=fun g' hg'=>(Row.own_block HO.out hg').2
   have hwT:w.heap.size≤wr.heap.size:=HB.out.size;generalize wr.alloc (.cells #[.int .i64 ty,.bool ex,.int .i64 (-1),.slice none 0 0] 146)=W2 at*;obtain ⟨T,hT⟩:∃T,wr.heap.size=T:=⟨_,rfl⟩;rw [hT] at kT HLT hwT ⊢;have lT:=heap_lt kT;clear hb2 HO HB HA0 HA2 HA4 HA8 hT;have HSTEP:Hid (featsAt bs (n - i) i (lastT fs)=(parseF bs (rowAt bs i)).bind fun f=>if risesB (lastT fs) f.type=true then (featsAt bs (n - (i+1)) (i+1) (some f.type)).map (f::·) else none):=by
    unfold Hid;rw [show n - i=(n - (i+1))+1 by omega,featsAt]
   by_cases hrc:fr+4*m≤len
   ·have hrB2:rowsB len fr m 4:=⟨by omega,by omega,.inr (by omega),by omega,by omega⟩
    have HR:=Bas.hid (fun w'=>rows_yes len fr m 4 w' (by omega) (by omega) (by omega) hrB2)
    have HPS:Hid (parseF bs (rowAt bs i)=some ⟨ty,ex,dfltOf (setsAt bs fr m) fl,setsAt bs fr m⟩):=by unfold Hid;rw [HPF.out,if_pos hrc]
    clear hrB2 HPF;rcases Nat.eq_zero_or_pos i with hi0|hi0
    ·subst hi0;have hfs:fs=[]:=List.length_eq_zero_iff.1 HFL.out;have HR0:Hid (risesB (lastT fs) ty=true):=by unfold Hid;rw [hfs];rfl
     have z1:decide (((0:Nat):Int)>0)=false:=by decide
     have z2:decide ((0:Int)<((0:Nat):Int))=false:=by decide
     clear hfs;go_wp2_with (fail);refine' Pl.region_v0 118 [] [0,1,2,3,4,5,6,7,8,9,10,11,12,13,14,15,16,17,18,19,20] [] _ (by kernel_rfl) (by kernel_rfl) (by simp) (fun _ _ _ _ e h=>⟨e▸h.1,h.2⟩) ?_ ?_
     rotate_left
     ·intro I F hI hF;simp only [Pl.selN,List.nil_append,List.drop_succ_cons,List.drop_zero];have x0:=fun q=>hF.cell lT (cell_of_heap (i:=0) kT rfl) q
      repeat (go_big_quiet_step ((go_at_call 37;with_reducible exact hF.same (HR.out _))))
      refine wpQuiet_nil ?_;rfl
     intro w3 hw3;simp only [Pl.selN];have kT3:=(hw3.block _ lT).trans kT;have HB3:=Bas.hid (HB2.out.trans (hw3.mono HB2.out.size));have HO3:=Bas.hid (Row.owned_below HO2.out hw3);have lT3:=heap_lt kT3;clear kT lT HR HO2 HB2;go_wp2_with (fail);go_loopw [12] (fun vk wi=>∃(k:Nat) (vs:Value),k≤m∧vk=.int .i64 k∧wi.ownsRow w.heap.size 3 1 vs k ((setsAt bs fr k).map (Value.int .i64))∧wi.heap[T]? =some (.cells #[.int .i64 ty,.bool ex,.int .i64 (-1),vs] 146 (0,0))∧
      wi.ownsRow w.heap.size 146 4 (.slice ado 0 cpo) 0 ((fs.zip ss).flatMap fC)∧Below w.heap.size w wi) (fun vk _=>m - (intOf vk).toNat)
     case atStart=>exact ⟨0,_,Nat.zero_le _,rfl,Row.owned_nil _ _ _ _,kT3,HO3.out,HB3.out⟩
     case round=>
      obtain ⟨k,vs,hk,rfl,hrow4,o5,hown4,hb4⟩:=hrel;obtain ⟨ads,cps,rfl⟩:=own_slice hrow4;have HI:=Bas.hid hrow4;have HO4:=Bas.hid hown4;have HB4:=Bas.hid hb4;clear hrow4 hown4 hb4 kT3 HO3 HB3 lT3;by_cases hkm:k<m
      ·have e4:decide ((k:Int)<(m:Int))=true:=by simp;omega
       have A5:=HU.out (fr+4*k) 2 (by omega) ((fr:Int)+4*(k:Int)) 2 (by omega) rfl (by omega)
       have HS:=Bas.hid (setsAt_succ bs fr k);generalize be bs (fr+4*k) 2=x at*;have HA5:=Bas.hid A5;clear A5;go_wp2_with (fail);refine' Pl.region_v1 118 [] [0,1,2,3,4,5,6,7] 8 91 [9,10,11] _ (fun v u'=>∃g,v=.slice (some ⟨g,0,none⟩) 1 1∧wr.heap.size≤g∧u'.heap[g]? =some (.cells #[.int .i64 x] 3 (0,0))) (by kernel_rfl) (by kernel_rfl) (by simp) (fun _ _ _ _ e h=>⟨e▸h.1,h.2⟩) ?_ ?_ ?_ ?_
       rotate_left
       ·intro I F hI hF;simp only [Pl.selN,List.nil_append,List.drop_succ_cons,List.drop_zero];have x1:=fun q=>hF.cell (heap_lt o5) (cell_of_heap (i:=3) (v:=.slice ads k cps) o5 rfl) q
        repeat (go_big_quiet_step ((go_at_call 34;with_reducible exact hF.same (HA5.out _ (hF.on HB4.out _)))))
        refine wpQuiet_nil ?_;rfl
       ·rintro v x x' ⟨g,h1,h2,h3⟩ hx hx';exact ⟨g,h1,h2,(hx'.block g (heap_lt h3)).trans h3⟩
       ·simp only [Pl.selN,List.drop_succ_cons,List.drop_zero,List.mem_singleton,forall_eq];intro u' hu
        go_simp
        simp only [Pl.valsAt];exact ⟨(Below.refl _ _).alloc (Nat.le_refl _) _,_,rfl,hu.size,Bas.heap_new _ _⟩
       ·intro v u3 hu hv;obtain ⟨g,rfl,hg,hgc⟩:=hv;simp only [Pl.selN,List.drop_succ_cons,List.drop_zero,Act.put,List.setIfInBounds_toArray,List.set_cons_zero,List.set_cons_succ];have u5:=(hu.block _ (heap_lt o5)).trans o5;have HIu:=Bas.hid (Row.owned_below HI.out hu);have HOu:=Bas.hid (Row.owned_below HO4.out hu);have HBu:=Bas.hid (HB4.out.trans (hu.mono HB4.out.size));have hv5:=own_ty HIu.out u5 (by decide)
        clear o5 hu HI HO4 HB4;refine (Row.append_any rfl _ _ 24 3 rfl (.int .i64 0) 1 8 Tryz.underlying24 infoI8 rfl (by decide) w.heap.size (.slice ads k cps) k _ rfl HIu.out (.slice (some ⟨g,0,none⟩) 1 1) 1 [.int .i64 x] rfl (leads_heap hgc) rfl (by simp;rfl) (by unfold maxLen;omega) (by omega) HBu.out.size ?_)
        intro v' w9 hown9 hg9 _;obtain ⟨ad9,cp9,rfl⟩:=own_slice hown9;have z5:=(hg9.block _ (heap_lt u5) (fun e=>hv5 e.symm)).trans u5
        have HO9:=Bas.hid (Row.owned_keep HOu.out fun g' hg'=>hg9.block g' (Row.own_block HOu.out hg').2 (fun e=>own_rows_ne HOu.out HIu.out (by decide) hg' e.symm))
        have HI9:Hid (w9.ownsRow w.heap.size 3 1 (.slice ad9 (k+1) cp9) (k+1) ((setsAt bs fr (k+1)).map (Value.int .i64))):=by
         unfold Hid;rw [HS.out,List.map_append];exact hown9
        have HB9:=Bas.hid (HBu.out.grown hg9 HBu.out.size (fun g' hg'=>(Row.own_block HIu.out hg').1))
        have zc:=cell_of_heap (i:=3) z5 rfl;have zf:=free_of_heap (i:=3) z5;clear hown9 hg9 u5 hgc HIu HOu HBu;go_wp2_with (fail);have y5:=heap_set (i:=3) z5 (.slice ad9 (k+1) cp9);have HI10:=Bas.hid (Row.owned_keep HI9.out (w':=w9.setCell ⟨T,3,none⟩ (.slice ad9 (k+1) cp9)) fun g' hg'=>Below.heap_setCell _ _ _ _ (fun e=>own_ty HI9.out z5 (by decide) (by rw [hg',e])))
        have HO10:=Bas.hid (Row.owned_keep HO9.out (w':=w9.setCell ⟨T,3,none⟩ (.slice ad9 (k+1) cp9)) fun g' hg'=>Below.heap_setCell _ _ _ _ (fun e=>by have:=HLT.out g' hg';have e2:g'=T:=e;omega))
        have HB10:=Bas.hid (HB9.out.setCell (p:=⟨T,3,none⟩) hwT (.slice ad9 (k+1) cp9));generalize w9.setCell ⟨T,3,none⟩ (.slice ad9 (k+1) cp9)=W10 at*;go_wp2_with (fail);go_roundw
        case rel=>first|exact ⟨k+1,_,by omega,by go_num,HI10.out,y5,HO10.out,HB10.out⟩|((repeat apply Exists.intro);exact ⟨⟨k+1,_,by omega,by go_num,HI10.out,y5,HO10.out,HB10.out⟩,rfl⟩)
        case measure=>simp [intOf];omega
      ·have hkm2:k=m:=by omega
       subst hkm2;have e4:decide ((k:Int)<(k:Int))=false:=by simp
       have HEX:=Bas.hid hex;have c1:=cell_of_heap (i:=1) o5 rfl;clear hkm;obtain ⟨p,hp⟩:∃p:Nat,p=firstOf fl:=⟨_,rfl⟩;have hDF:dfltOf (setsAt bs fr k) fl=if fl≥32768 then (if p<k then (setsAt bs fr k).getD p 0 else -1) else -1:=by
        unfold dfltOf;rw [setsAt_len,hp]
       have hm0:0≤fl%256:=by omega
       have hm1:fl%256≤255:=by omega
       have hd0:0≤fl / 16384:=by omega
       have hd1:fl / 16384≤3:=by omega
       have hd2:0≤fl / 16384%2:=by omega
       have hd3:fl / 16384%2≤1:=by omega
       have HHP:=Bas.hid hp;clear hp;by_cases hsec:fl / 16384%2=1
       ·have s1:(fl / 16384%2==1)=true:=by simpa using hsec
        have hpv:fl%256=(p:Int):=by rw [HHP.out];unfold firstOf;rw [if_pos hsec];omega
        clear hsec;cases ex with
        |false=>
         have hge:¬fl≥32768:=by simpa using HEX.out
         have HDF:Hid (dfltOf (setsAt bs fr k) fl=-1):=by unfold Hid;rw [hDF,if_neg hge]
         clear hDF;have b0:=cell_of_heap (i:=0) o5 rfl;have b1:=cell_of_heap (i:=1) o5 rfl;have b2:=cell_of_heap (i:=2) o5 rfl;have b3:=cell_of_heap (i:=3) o5 rfl;go_wp2_with (at_builtin;refine Row.fence ?_);refine Row.unfence ?_;clear b0 b1 b2 b3
         have k9:=Bas.heap_new wr (.cells #[.int .i64 ty,.bool false,.int .i64 (-1),.slice ads k cps] 146);have hb9:=(Below.refl wr.heap.size wr).alloc (Nat.le_refl _) (.cells #[.int .i64 ty,.bool false,.int .i64 (-1),.slice ads k cps] 146);have HB9:=Bas.hid (HB4.out.trans (hb9.mono HB4.out.size));have HO9:=Bas.hid (Row.owned_below HO4.out hb9);generalize wr.alloc (.cells #[.int .i64 ty,.bool false,.int .i64 (-1),.slice ads k cps] 146)=W9 at*;clear hb9;refine (Row.append_any rfl _ _ 53 146 rfl (.agg #[.int .i64 0,.bool false,.int .i64 0,.slice none 0 0]) 4 48 Tryz.underlying53 infoF8 rfl (by decide) w.heap.size (.slice ado 0 cpo) 0 _ rfl HO9.out (.slice (some ⟨wr.heap.size,0,none⟩) 1 1) 1 [.int .i64 ty,.bool false,.int .i64 (-1),.slice ads k cps] rfl (leads_heap k9) rfl (by simp;exact ⟨rfl,rfl,rfl,rfl⟩) (by unfold maxLen;omega) (by omega) HB9.out.size ?_)
         intro v10 w10 ho10 hg10 _;have HB10:=Bas.hid (HB9.out.grown hg10 HB9.out.size (fun g' hg'=>(Row.own_block HO9.out hg').1))
         have HO10:=Bas.hid ho10;clear ho10 hg10 k9;go_wp2_with (fail);go_roundw
         case rel=>exact ⟨0+1,_,fs++[⟨ty,false,(-1),setsAt bs fr k⟩],ss++[.slice ads k cps],by omega,by go_num,rfl,by rw [List.length_append,HFL.out];rfl,by
          rw [HSUB.out,HSTEP.out,HPS.out,Option.bind_some,if_pos HR0.out,lastT_snoc,HDF.out];simp [Option.map_map,Function.comp_def],⟨by rw [List.length_append,List.length_append,HSS.out];rfl,by
          rw [List.length_append,HFL.out,List.zip_append HSS.out.symm,List.flatMap_append];exact HO10.out⟩,HB10.out⟩
         case measure=>simp [intOf];omega
        |true=>
         have hge:fl≥32768:=by simpa using HEX.out
         by_cases hpk:p<k
         ·have s2:decide ((p:Int)<(k:Int))=true:=by simp;omega
          obtain ⟨x,hx⟩:∃x,(setsAt bs fr k)[p]? =some x:=⟨_,List.getElem?_eq_getElem (by rw [setsAt_len];exact hpk)⟩
          have HDF:Hid (dfltOf (setsAt bs fr k) fl=x):=by unfold Hid;rw [hDF,if_pos hge,if_pos hpk,List.getD_eq_getElem?_getD,hx];rfl
          rcases Row.owned_parts HI.out with ⟨_,h0,_⟩|⟨G,cp',hvG,hGb,hGl,hGc,hGm,hcl,-⟩
          ·omega
          have hv5:=own_ty HI.out o5 (by decide)
          cases hvG;have cG:=hcl p (.int .i64 x) (by rw [List.getElem?_map,hx];rfl)
          have c0:=cell_of_heap (i:=0) o5 rfl;have c3:=cell_of_heap (i:=3) o5 rfl;have c2:=cell_of_heap (i:=2) o5 rfl;have f2:=free_of_heap (i:=2) o5;have hGT:G≠T:=fun e=>hv5 (by rw [←e];rfl)
          clear hcl hx hDF hv5;go_wp2_with (at_builtin;refine Row.fence ?_);refine Row.unfence ?_;have o6:=heap_set (i:=2) o5 (.int .i64 x);have HO5:=Bas.hid (Row.owned_keep HO4.out (w':=wr.setCell ⟨T,2,none⟩ (.int .i64 x)) fun g' hg'=>Below.heap_setCell _ _ _ _ (fun e=>by have:=HLT.out g' hg';have e2:g'=T:=e;omega))
          have HB5:=Bas.hid (HB4.out.setCell (p:=⟨T,2,none⟩) hwT (.int .i64 x));have hs5:(wr.setCell ⟨T,2,none⟩ (.int .i64 x)).heap.size=wr.heap.size:=by simp
          clear c0 c1 c2 c3 f2 o5;generalize wr.setCell ⟨T,2,none⟩ (.int .i64 x)=W5 at*;have o5:W5.heap[T]? =some (.cells #[.int .i64 ty,.bool true,.int .i64 x,.slice (some ⟨G,0,none⟩) k cps] 146 (0,0)):=o6;have k9:=Bas.heap_new W5 (.cells #[.int .i64 ty,.bool true,.int .i64 x,.slice (some ⟨G,0,none⟩) k cps] 146);have hb9:=(Below.refl W5.heap.size W5).alloc (Nat.le_refl _) (.cells #[.int .i64 ty,.bool true,.int .i64 x,.slice (some ⟨G,0,none⟩) k cps] 146);have HB9:=Bas.hid (HB5.out.trans (hb9.mono HB5.out.size));have HO9:=Bas.hid (Row.owned_below HO5.out hb9);generalize W5.alloc (.cells #[.int .i64 ty,.bool true,.int .i64 x,.slice (some ⟨G,0,none⟩) k cps] 146)=W9 at*;rw [hs5] at k9;clear hb9;refine (Row.append_any rfl _ _ 53 146 rfl (.agg #[.int .i64 0,.bool false,.int .i64 0,.slice none 0 0]) 4 48 Tryz.underlying53 infoF8 rfl (by decide) w.heap.size (.slice ado 0 cpo) 0 _ rfl HO9.out (.slice (some ⟨wr.heap.size,0,none⟩) 1 1) 1 [.int .i64 ty,.bool true,.int .i64 x,.slice (some ⟨G,0,none⟩) k cps] rfl (leads_heap k9) rfl (by simp;exact ⟨rfl,rfl,rfl,rfl⟩) (by unfold maxLen;omega) (by omega) HB9.out.size ?_)
          intro v10 w10 ho10 hg10 _;have HB10:=Bas.hid (HB9.out.grown hg10 HB9.out.size (fun g' hg'=>(Row.own_block HO9.out hg').1))
          have HO10:=Bas.hid ho10;clear ho10 hg10 k9;go_wp2_with (fail);go_roundw
          case rel=>exact ⟨0+1,_,fs++[⟨ty,true,x,setsAt bs fr k⟩],ss++[.slice (some ⟨G,0,none⟩) k cps],by omega,by go_num,rfl,by rw [List.length_append,HFL.out];rfl,by
           rw [HSUB.out,HSTEP.out,HPS.out,Option.bind_some,if_pos HR0.out,lastT_snoc,HDF.out];simp [Option.map_map,Function.comp_def],⟨by rw [List.length_append,List.length_append,HSS.out];rfl,by
           rw [List.length_append,HFL.out,List.zip_append HSS.out.symm,List.flatMap_append];exact HO10.out⟩,HB10.out⟩
          case measure=>simp [intOf];omega
         ·have s2:decide ((p:Int)<(k:Int))=false:=by simp;omega
          have HDF:Hid (dfltOf (setsAt bs fr k) fl=-1):=by unfold Hid;rw [hDF,if_pos hge,if_neg hpk]
          clear hDF;have b0:=cell_of_heap (i:=0) o5 rfl;have b1:=cell_of_heap (i:=1) o5 rfl;have b2:=cell_of_heap (i:=2) o5 rfl;have b3:=cell_of_heap (i:=3) o5 rfl;go_wp2_with (at_builtin;refine Row.fence ?_);refine Row.unfence ?_;clear b0 b1 b2 b3
          have k9:=Bas.heap_new wr (.cells #[.int .i64 ty,.bool true,.int .i64 (-1),.slice ads k cps] 146);have hb9:=(Below.refl wr.heap.size wr).alloc (Nat.le_refl _) (.cells #[.int .i64 ty,.bool true,.int .i64 (-1),.slice ads k cps] 146);have HB9:=Bas.hid (HB4.out.trans (hb9.mono HB4.out.size));have HO9:=Bas.hid (Row.owned_below HO4.out hb9);generalize wr.alloc (.cells #[.int .i64 ty,.bool true,.int .i64 (-1),.slice ads k cps] 146)=W9 at*;clear hb9;refine (Row.append_any rfl _ _ 53 146 rfl (.agg #[.int .i64 0,.bool false,.int .i64 0,.slice none 0 0]) 4 48 Tryz.underlying53 infoF8 rfl (by decide) w.heap.size (.slice ado 0 cpo) 0 _ rfl HO9.out (.slice (some ⟨wr.heap.size,0,none⟩) 1 1) 1 [.int .i64 ty,.bool true,.int .i64 (-1),.slice ads k cps] rfl (leads_heap k9) rfl (by simp;exact ⟨rfl,rfl,rfl,rfl⟩) (by unfold maxLen;omega) (by omega) HB9.out.size ?_)
          intro v10 w10 ho10 hg10 _;have HB10:=Bas.hid (HB9.out.grown hg10 HB9.out.size (fun g' hg'=>(Row.own_block HO9.out hg').1))
          have HO10:=Bas.hid ho10;clear ho10 hg10 k9;go_wp2_with (fail);go_roundw
          case rel=>exact ⟨0+1,_,fs++[⟨ty,true,(-1),setsAt bs fr k⟩],ss++[.slice ads k cps],by omega,by go_num,rfl,by rw [List.length_append,HFL.out];rfl,by
           rw [HSUB.out,HSTEP.out,HPS.out,Option.bind_some,if_pos HR0.out,lastT_snoc,HDF.out];simp [Option.map_map,Function.comp_def],⟨by rw [List.length_append,List.length_append,HSS.out];rfl,by
           rw [List.length_append,HFL.out,List.zip_append HSS.out.symm,List.flatMap_append];exact HO10.out⟩,HB10.out⟩
          case measure=>simp [intOf];omega
       ·have s1:(fl / 16384%2==1)=false:=by simpa using hsec
        have hpv:p=0:=by rw [HHP.out];unfold firstOf;rw [if_neg hsec]
        subst hpv;clear hsec;cases ex with
        |false=>
         have hge:¬fl≥32768:=by simpa using HEX.out
         have HDF:Hid (dfltOf (setsAt bs fr k) fl=-1):=by unfold Hid;rw [hDF,if_neg hge]
         clear hDF;have b0:=cell_of_heap (i:=0) o5 rfl;have b1:=cell_of_heap (i:=1) o5 rfl;have b2:=cell_of_heap (i:=2) o5 rfl;have b3:=cell_of_heap (i:=3) o5 rfl;go_wp2_with (at_builtin;refine Row.fence ?_);refine Row.unfence ?_;clear b0 b1 b2 b3
         have k9:=Bas.heap_new wr (.cells #[.int .i64 ty,.bool false,.int .i64 (-1),.slice ads k cps] 146);have hb9:=(Below.refl wr.heap.size wr).alloc (Nat.le_refl _) (.cells #[.int .i64 ty,.bool false,.int .i64 (-1),.slice ads k cps] 146);have HB9:=Bas.hid (HB4.out.trans (hb9.mono HB4.out.size));have HO9:=Bas.hid (Row.owned_below HO4.out hb9);generalize wr.alloc (.cells #[.int .i64 ty,.bool false,.int .i64 (-1),.slice ads k cps] 146)=W9 at*;clear hb9;refine (Row.append_any rfl _ _ 53 146 rfl (.agg #[.int .i64 0,.bool false,.int .i64 0,.slice none 0 0]) 4 48 Tryz.underlying53 infoF8 rfl (by decide) w.heap.size (.slice ado 0 cpo) 0 _ rfl HO9.out (.slice (some ⟨wr.heap.size,0,none⟩) 1 1) 1 [.int .i64 ty,.bool false,.int .i64 (-1),.slice ads k cps] rfl (leads_heap k9) rfl (by simp;exact ⟨rfl,rfl,rfl,rfl⟩) (by unfold maxLen;omega) (by omega) HB9.out.size ?_)
         intro v10 w10 ho10 hg10 _;have HB10:=Bas.hid (HB9.out.grown hg10 HB9.out.size (fun g' hg'=>(Row.own_block HO9.out hg').1))
         have HO10:=Bas.hid ho10;clear ho10 hg10 k9;go_wp2_with (fail);go_roundw
         case rel=>exact ⟨0+1,_,fs++[⟨ty,false,(-1),setsAt bs fr k⟩],ss++[.slice ads k cps],by omega,by go_num,rfl,by rw [List.length_append,HFL.out];rfl,by
          rw [HSUB.out,HSTEP.out,HPS.out,Option.bind_some,if_pos HR0.out,lastT_snoc,HDF.out];simp [Option.map_map,Function.comp_def],⟨by rw [List.length_append,List.length_append,HSS.out];rfl,by
          rw [List.length_append,HFL.out,List.zip_append HSS.out.symm,List.flatMap_append];exact HO10.out⟩,HB10.out⟩
         case measure=>simp [intOf];omega
        |true=>
         have hge:fl≥32768:=by simpa using HEX.out
         by_cases hpk:0<k
         ·have s2:decide (0<(k:Int))=true:=by simp;omega
          obtain ⟨x,hx⟩:∃x,(setsAt bs fr k)[0]? =some x:=⟨_,List.getElem?_eq_getElem (by rw [setsAt_len];exact hpk)⟩
          have HDF:Hid (dfltOf (setsAt bs fr k) fl=x):=by unfold Hid;rw [hDF,if_pos hge,if_pos hpk,List.getD_eq_getElem?_getD,hx];rfl
          rcases Row.owned_parts HI.out with ⟨_,h0,_⟩|⟨G,cp',hvG,hGb,hGl,hGc,hGm,hcl,-⟩
          ·omega
          have hv5:=own_ty HI.out o5 (by decide)
          cases hvG;have cG:=hcl 0 (.int .i64 x) (by rw [List.getElem?_map,hx];rfl)
          have c0:=cell_of_heap (i:=0) o5 rfl;have c3:=cell_of_heap (i:=3) o5 rfl;have c2:=cell_of_heap (i:=2) o5 rfl;have f2:=free_of_heap (i:=2) o5;have hGT:G≠T:=fun e=>hv5 (by rw [←e];rfl)
          clear hcl hx hDF hv5;go_wp2_with (at_builtin;refine Row.fence ?_);refine Row.unfence ?_;have o6:=heap_set (i:=2) o5 (.int .i64 x);have HO5:=Bas.hid (Row.owned_keep HO4.out (w':=wr.setCell ⟨T,2,none⟩ (.int .i64 x)) fun g' hg'=>Below.heap_setCell _ _ _ _ (fun e=>by have:=HLT.out g' hg';have e2:g'=T:=e;omega))
          have HB5:=Bas.hid (HB4.out.setCell (p:=⟨T,2,none⟩) hwT (.int .i64 x));have hs5:(wr.setCell ⟨T,2,none⟩ (.int .i64 x)).heap.size=wr.heap.size:=by simp
          clear c0 c1 c2 c3 f2 o5;generalize wr.setCell ⟨T,2,none⟩ (.int .i64 x)=W5 at*;have o5:W5.heap[T]? =some (.cells #[.int .i64 ty,.bool true,.int .i64 x,.slice (some ⟨G,0,none⟩) k cps] 146 (0,0)):=o6;have k9:=Bas.heap_new W5 (.cells #[.int .i64 ty,.bool true,.int .i64 x,.slice (some ⟨G,0,none⟩) k cps] 146);have hb9:=(Below.refl W5.heap.size W5).alloc (Nat.le_refl _) (.cells #[.int .i64 ty,.bool true,.int .i64 x,.slice (some ⟨G,0,none⟩) k cps] 146);have HB9:=Bas.hid (HB5.out.trans (hb9.mono HB5.out.size));have HO9:=Bas.hid (Row.owned_below HO5.out hb9);generalize W5.alloc (.cells #[.int .i64 ty,.bool true,.int .i64 x,.slice (some ⟨G,0,none⟩) k cps] 146)=W9 at*;rw [hs5] at k9;clear hb9;refine (Row.append_any rfl _ _ 53 146 rfl (.agg #[.int .i64 0,.bool false,.int .i64 0,.slice none 0 0]) 4 48 Tryz.underlying53 infoF8 rfl (by decide) w.heap.size (.slice ado 0 cpo) 0 _ rfl HO9.out (.slice (some ⟨wr.heap.size,0,none⟩) 1 1) 1 [.int .i64 ty,.bool true,.int .i64 x,.slice (some ⟨G,0,none⟩) k cps] rfl (leads_heap k9) rfl (by simp;exact ⟨rfl,rfl,rfl,rfl⟩) (by unfold maxLen;omega) (by omega) HB9.out.size ?_)
          intro v10 w10 ho10 hg10 _;have HB10:=Bas.hid (HB9.out.grown hg10 HB9.out.size (fun g' hg'=>(Row.own_block HO9.out hg').1))
          have HO10:=Bas.hid ho10;clear ho10 hg10 k9;go_wp2_with (fail);go_roundw
          case rel=>exact ⟨0+1,_,fs++[⟨ty,true,x,setsAt bs fr k⟩],ss++[.slice (some ⟨G,0,none⟩) k cps],by omega,by go_num,rfl,by rw [List.length_append,HFL.out];rfl,by
           rw [HSUB.out,HSTEP.out,HPS.out,Option.bind_some,if_pos HR0.out,lastT_snoc,HDF.out];simp [Option.map_map,Function.comp_def],⟨by rw [List.length_append,List.length_append,HSS.out];rfl,by
           rw [List.length_append,HFL.out,List.zip_append HSS.out.symm,List.flatMap_append];exact HO10.out⟩,HB10.out⟩
          case measure=>simp [intOf];omega
         ·have s2:decide (0<(k:Int))=false:=by simp;omega
          have HDF:Hid (dfltOf (setsAt bs fr k) fl=-1):=by unfold Hid;rw [hDF,if_pos hge,if_neg hpk]
          clear hDF;have b0:=cell_of_heap (i:=0) o5 rfl;have b1:=cell_of_heap (i:=1) o5 rfl;have b2:=cell_of_heap (i:=2) o5 rfl;have b3:=cell_of_heap (i:=3) o5 rfl;go_wp2_with (at_builtin;refine Row.fence ?_);refine Row.unfence ?_;clear b0 b1 b2 b3
          have k9:=Bas.heap_new wr (.cells #[.int .i64 ty,.bool true,.int .i64 (-1),.slice ads k cps] 146);have hb9:=(Below.refl wr.heap.size wr).alloc (Nat.le_refl _) (.cells #[.int .i64 ty,.bool true,.int .i64 (-1),.slice ads k cps] 146);have HB9:=Bas.hid (HB4.out.trans (hb9.mono HB4.out.size));have HO9:=Bas.hid (Row.owned_below HO4.out hb9);generalize wr.alloc (.cells #[.int .i64 ty,.bool true,.int .i64 (-1),.slice ads k cps] 146)=W9 at*;clear hb9;refine (Row.append_any rfl _ _ 53 146 rfl (.agg #[.int .i64 0,.bool false,.int .i64 0,.slice none 0 0]) 4 48 Tryz.underlying53 infoF8 rfl (by decide) w.heap.size (.slice ado 0 cpo) 0 _ rfl HO9.out (.slice (some ⟨wr.heap.size,0,none⟩) 1 1) 1 [.int .i64 ty,.bool true,.int .i64 (-1),.slice ads k cps] rfl (leads_heap k9) rfl (by simp;exact ⟨rfl,rfl,rfl,rfl⟩) (by unfold maxLen;omega) (by omega) HB9.out.size ?_)
          intro v10 w10 ho10 hg10 _;have HB10:=Bas.hid (HB9.out.grown hg10 HB9.out.size (fun g' hg'=>(Row.own_block HO9.out hg').1))
          have HO10:=Bas.hid ho10;clear ho10 hg10 k9;go_wp2_with (fail);go_roundw
          case rel=>exact ⟨0+1,_,fs++[⟨ty,true,(-1),setsAt bs fr k⟩],ss++[.slice ads k cps],by omega,by go_num,rfl,by rw [List.length_append,HFL.out];rfl,by
           rw [HSUB.out,HSTEP.out,HPS.out,Option.bind_some,if_pos HR0.out,lastT_snoc,HDF.out];simp [Option.map_map,Function.comp_def],⟨by rw [List.length_append,List.length_append,HSS.out];rfl,by
           rw [List.length_append,HFL.out,List.zip_append HSS.out.symm,List.flatMap_append];exact HO10.out⟩,HB10.out⟩
          case measure=>simp [intOf];omega
    ·obtain ⟨j,hj⟩:∃j,i=j+1:=⟨i - 1,by omega⟩
     have hjl:j<fs.length:=by rw [HFL.out];omega
     obtain ⟨f,hf⟩:∃f,fs[j]? =some f:=⟨_,List.getElem?_eq_getElem hjl⟩;obtain ⟨s,hs⟩:∃s,ss[j]? =some s:=⟨_,List.getElem?_eq_getElem (by rw [HSS.out];exact hjl)⟩
     have hz:(fs.zip ss)[j]? =some (f,s):=List.getElem?_zip_eq_some.2 ⟨hf,hs⟩;have hlast:lastT fs=some f.type:=by
      unfold lastT;rw [List.getLast?_eq_getElem?,show fs.length - 1=j by rw [HFL.out];omega,hf];rfl
     obtain ⟨B1,O1,cp1,hv1,hcl⟩:=Row.leads_elem fC_len (Row.leads_owned HO2.out) hz (by omega)
     cases hv1;have d0:=hcl 0 _ rfl;simp only [Nat.add_zero] at d0;have lB:B1<W2.heap.size:=World.block_lt_of_cell? _ _ d0;have z1:decide ((i:Int)>0)=true:=by simp;omega
     have z2:decide ((0:Int)<(i:Int))=true:=by simp;omega
     have z3:(i:Int) - 1=(j:Int):=by omega
     obtain ⟨pt,hpt⟩:∃pt,f.type=pt:=⟨_,rfl⟩;rw [hpt] at d0 hlast;clear hcl hz hf hs hpt hjl hj;by_cases hrs:pt<ty
     ·have HR0:Hid (risesB (lastT fs) ty=true):=by unfold Hid;rw [hlast];exact decide_eq_true hrs
      have y1:decide (ty≤pt)=false:=by simp;omega
      clear hlast;go_wp2_with (fail);refine' Pl.region_v0 118 [] [0,1,2,3,4,5,6,7,8,9,10,11,12,13,14,15,16,17,18,19,20] [] _ (by kernel_rfl) (by kernel_rfl) (by simp) (fun _ _ _ _ e h=>⟨e▸h.1,h.2⟩) ?_ ?_
      rotate_left
      ·intro I F hI hF;simp only [Pl.selN,List.nil_append,List.drop_succ_cons,List.drop_zero];have x0:=fun q=>hF.cell lT (cell_of_heap (i:=0) kT rfl) q
       have d0q:=fun q=>hF.cell lB d0 q
       repeat (go_big_quiet_step ((go_at_call 37;with_reducible exact hF.same (HR.out _))))
       refine wpQuiet_nil ?_;rfl
      intro w3 hw3;simp only [Pl.selN];have kT3:=(hw3.block _ lT).trans kT;have HB3:=Bas.hid (HB2.out.trans (hw3.mono HB2.out.size));have HO3:=Bas.hid (Row.owned_below HO2.out hw3);have lT3:=heap_lt kT3;clear kT lT HR HO2 HB2;go_wp2_with (fail);go_loopw [12] (fun vk wi=>∃(k:Nat) (vs:Value),k≤m∧vk=.int .i64 k∧wi.ownsRow w.heap.size 3 1 vs k ((setsAt bs fr k).map (Value.int .i64))∧wi.heap[T]? =some (.cells #[.int .i64 ty,.bool ex,.int .i64 (-1),vs] 146 (0,0))∧
       wi.ownsRow w.heap.size 146 4 (.slice (some ⟨B1,O1,none⟩) i cpo) i ((fs.zip ss).flatMap fC)∧Below w.heap.size w wi) (fun vk _=>m - (intOf vk).toNat)
      case atStart=>exact ⟨0,_,Nat.zero_le _,rfl,Row.owned_nil _ _ _ _,kT3,HO3.out,HB3.out⟩
      case round=>
       obtain ⟨k,vs,hk,rfl,hrow4,o5,hown4,hb4⟩:=hrel;obtain ⟨ads,cps,rfl⟩:=own_slice hrow4;have HI:=Bas.hid hrow4;have HO4:=Bas.hid hown4;have HB4:=Bas.hid hb4;clear hrow4 hown4 hb4 kT3 HO3 HB3 lT3;by_cases hkm:k<m
       ·have e4:decide ((k:Int)<(m:Int))=true:=by simp;omega
        have A5:=HU.out (fr+4*k) 2 (by omega) ((fr:Int)+4*(k:Int)) 2 (by omega) rfl (by omega)
        have HS:=Bas.hid (setsAt_succ bs fr k);generalize be bs (fr+4*k) 2=x at*;have HA5:=Bas.hid A5;clear A5;go_wp2_with (fail);refine' Pl.region_v1 118 [] [0,1,2,3,4,5,6,7] 8 91 [9,10,11] _ (fun v u'=>∃g,v=.slice (some ⟨g,0,none⟩) 1 1∧wr.heap.size≤g∧u'.heap[g]? =some (.cells #[.int .i64 x] 3 (0,0))) (by kernel_rfl) (by kernel_rfl) (by simp) (fun _ _ _ _ e h=>⟨e▸h.1,h.2⟩) ?_ ?_ ?_ ?_
        rotate_left
        ·intro I F hI hF;simp only [Pl.selN,List.nil_append,List.drop_succ_cons,List.drop_zero];have x1:=fun q=>hF.cell (heap_lt o5) (cell_of_heap (i:=3) (v:=.slice ads k cps) o5 rfl) q
         repeat (go_big_quiet_step ((go_at_call 34;with_reducible exact hF.same (HA5.out _ (hF.on HB4.out _)))))
         refine wpQuiet_nil ?_;rfl
        ·rintro v x x' ⟨g,h1,h2,h3⟩ hx hx';exact ⟨g,h1,h2,(hx'.block g (heap_lt h3)).trans h3⟩
        ·simp only [Pl.selN,List.drop_succ_cons,List.drop_zero,List.mem_singleton,forall_eq];intro u' hu
         go_simp
         simp only [Pl.valsAt];exact ⟨(Below.refl _ _).alloc (Nat.le_refl _) _,_,rfl,hu.size,Bas.heap_new _ _⟩
        ·intro v u3 hu hv;obtain ⟨g,rfl,hg,hgc⟩:=hv;simp only [Pl.selN,List.drop_succ_cons,List.drop_zero,Act.put,List.setIfInBounds_toArray,List.set_cons_zero,List.set_cons_succ];have u5:=(hu.block _ (heap_lt o5)).trans o5;have HIu:=Bas.hid (Row.owned_below HI.out hu);have HOu:=Bas.hid (Row.owned_below HO4.out hu);have HBu:=Bas.hid (HB4.out.trans (hu.mono HB4.out.size));have hv5:=own_ty HIu.out u5 (by decide)
         clear o5 hu HI HO4 HB4;refine (Row.append_any rfl _ _ 24 3 rfl (.int .i64 0) 1 8 Tryz.underlying24 infoI8 rfl (by decide) w.heap.size (.slice ads k cps) k _ rfl HIu.out (.slice (some ⟨g,0,none⟩) 1 1) 1 [.int .i64 x] rfl (leads_heap hgc) rfl (by simp;rfl) (by unfold maxLen;omega) (by omega) HBu.out.size ?_)
         intro v' w9 hown9 hg9 _;obtain ⟨ad9,cp9,rfl⟩:=own_slice hown9;have z5:=(hg9.block _ (heap_lt u5) (fun e=>hv5 e.symm)).trans u5
         have HO9:=Bas.hid (Row.owned_keep HOu.out fun g' hg'=>hg9.block g' (Row.own_block HOu.out hg').2 (fun e=>own_rows_ne HOu.out HIu.out (by decide) hg' e.symm))
         have HI9:Hid (w9.ownsRow w.heap.size 3 1 (.slice ad9 (k+1) cp9) (k+1) ((setsAt bs fr (k+1)).map (Value.int .i64))):=by
          unfold Hid;rw [HS.out,List.map_append];exact hown9
         have HB9:=Bas.hid (HBu.out.grown hg9 HBu.out.size (fun g' hg'=>(Row.own_block HIu.out hg').1))
         have zc:=cell_of_heap (i:=3) z5 rfl;have zf:=free_of_heap (i:=3) z5;clear hown9 hg9 u5 hgc HIu HOu HBu;go_wp2_with (fail);have y5:=heap_set (i:=3) z5 (.slice ad9 (k+1) cp9);have HI10:=Bas.hid (Row.owned_keep HI9.out (w':=w9.setCell ⟨T,3,none⟩ (.slice ad9 (k+1) cp9)) fun g' hg'=>Below.heap_setCell _ _ _ _ (fun e=>own_ty HI9.out z5 (by decide) (by rw [hg',e])))
         have HO10:=Bas.hid (Row.owned_keep HO9.out (w':=w9.setCell ⟨T,3,none⟩ (.slice ad9 (k+1) cp9)) fun g' hg'=>Below.heap_setCell _ _ _ _ (fun e=>by have:=HLT.out g' hg';have e2:g'=T:=e;omega))
         have HB10:=Bas.hid (HB9.out.setCell (p:=⟨T,3,none⟩) hwT (.slice ad9 (k+1) cp9));generalize w9.setCell ⟨T,3,none⟩ (.slice ad9 (k+1) cp9)=W10 at*;go_wp2_with (fail);go_roundw
         case rel=>first|exact ⟨k+1,_,by omega,by go_num,HI10.out,y5,HO10.out,HB10.out⟩|((repeat apply Exists.intro);exact ⟨⟨k+1,_,by omega,by go_num,HI10.out,y5,HO10.out,HB10.out⟩,rfl⟩)
         case measure=>simp [intOf];omega
       ·have hkm2:k=m:=by omega
        subst hkm2;have e4:decide ((k:Int)<(k:Int))=false:=by simp
        have HEX:=Bas.hid hex;have c1:=cell_of_heap (i:=1) o5 rfl;clear hkm;obtain ⟨p,hp⟩:∃p:Nat,p=firstOf fl:=⟨_,rfl⟩;have hDF:dfltOf (setsAt bs fr k) fl=if fl≥32768 then (if p<k then (setsAt bs fr k).getD p 0 else -1) else -1:=by
         unfold dfltOf;rw [setsAt_len,hp]
        have hm0:0≤fl%256:=by omega
        have hm1:fl%256≤255:=by omega
        have hd0:0≤fl / 16384:=by omega
        have hd1:fl / 16384≤3:=by omega
        have hd2:0≤fl / 16384%2:=by omega
        have hd3:fl / 16384%2≤1:=by omega
        have HHP:=Bas.hid hp;clear hp;by_cases hsec:fl / 16384%2=1
        ·have s1:(fl / 16384%2==1)=true:=by simpa using hsec
         have hpv:fl%256=(p:Int):=by rw [HHP.out];unfold firstOf;rw [if_pos hsec];omega
         clear hsec;cases ex with
         |false=>
          have hge:¬fl≥32768:=by simpa using HEX.out
          have HDF:Hid (dfltOf (setsAt bs fr k) fl=-1):=by unfold Hid;rw [hDF,if_neg hge]
          clear hDF;have b0:=cell_of_heap (i:=0) o5 rfl;have b1:=cell_of_heap (i:=1) o5 rfl;have b2:=cell_of_heap (i:=2) o5 rfl;have b3:=cell_of_heap (i:=3) o5 rfl;go_wp2_with (at_builtin;refine Row.fence ?_);refine Row.unfence ?_;clear b0 b1 b2 b3
          have k9:=Bas.heap_new wr (.cells #[.int .i64 ty,.bool false,.int .i64 (-1),.slice ads k cps] 146);have hb9:=(Below.refl wr.heap.size wr).alloc (Nat.le_refl _) (.cells #[.int .i64 ty,.bool false,.int .i64 (-1),.slice ads k cps] 146);have HB9:=Bas.hid (HB4.out.trans (hb9.mono HB4.out.size));have HO9:=Bas.hid (Row.owned_below HO4.out hb9);generalize wr.alloc (.cells #[.int .i64 ty,.bool false,.int .i64 (-1),.slice ads k cps] 146)=W9 at*;clear hb9;refine (Row.append_any rfl _ _ 53 146 rfl (.agg #[.int .i64 0,.bool false,.int .i64 0,.slice none 0 0]) 4 48 Tryz.underlying53 infoF8 rfl (by decide) w.heap.size (.slice (some ⟨B1,O1,none⟩) i cpo) i _ rfl HO9.out (.slice (some ⟨wr.heap.size,0,none⟩) 1 1) 1 [.int .i64 ty,.bool false,.int .i64 (-1),.slice ads k cps] rfl (leads_heap k9) rfl (by simp;exact ⟨rfl,rfl,rfl,rfl⟩) (by unfold maxLen;omega) (by omega) HB9.out.size ?_)
          intro v10 w10 ho10 hg10 _;have HB10:=Bas.hid (HB9.out.grown hg10 HB9.out.size (fun g' hg'=>(Row.own_block HO9.out hg').1))
          have HO10:=Bas.hid ho10;clear ho10 hg10 k9;go_wp2_with (fail);go_roundw
          case rel=>exact ⟨i+1,_,fs++[⟨ty,false,(-1),setsAt bs fr k⟩],ss++[.slice ads k cps],by omega,by go_num,rfl,by rw [List.length_append,HFL.out];rfl,by
           rw [HSUB.out,HSTEP.out,HPS.out,Option.bind_some,if_pos HR0.out,lastT_snoc,HDF.out];simp [Option.map_map,Function.comp_def],⟨by rw [List.length_append,List.length_append,HSS.out];rfl,by
           rw [List.length_append,HFL.out,List.zip_append HSS.out.symm,List.flatMap_append];exact HO10.out⟩,HB10.out⟩
          case measure=>simp [intOf];omega
         |true=>
          have hge:fl≥32768:=by simpa using HEX.out
          by_cases hpk:p<k
          ·have s2:decide ((p:Int)<(k:Int))=true:=by simp;omega
           obtain ⟨x,hx⟩:∃x,(setsAt bs fr k)[p]? =some x:=⟨_,List.getElem?_eq_getElem (by rw [setsAt_len];exact hpk)⟩
           have HDF:Hid (dfltOf (setsAt bs fr k) fl=x):=by unfold Hid;rw [hDF,if_pos hge,if_pos hpk,List.getD_eq_getElem?_getD,hx];rfl
           rcases Row.owned_parts HI.out with ⟨_,h0,_⟩|⟨G,cp',hvG,hGb,hGl,hGc,hGm,hcl,-⟩
           ·omega
           have hv5:=own_ty HI.out o5 (by decide)
           cases hvG;have cG:=hcl p (.int .i64 x) (by rw [List.getElem?_map,hx];rfl)
           have c0:=cell_of_heap (i:=0) o5 rfl;have c3:=cell_of_heap (i:=3) o5 rfl;have c2:=cell_of_heap (i:=2) o5 rfl;have f2:=free_of_heap (i:=2) o5;have hGT:G≠T:=fun e=>hv5 (by rw [←e];rfl)
           clear hcl hx hDF hv5;go_wp2_with (at_builtin;refine Row.fence ?_);refine Row.unfence ?_;have o6:=heap_set (i:=2) o5 (.int .i64 x);have HO5:=Bas.hid (Row.owned_keep HO4.out (w':=wr.setCell ⟨T,2,none⟩ (.int .i64 x)) fun g' hg'=>Below.heap_setCell _ _ _ _ (fun e=>by have:=HLT.out g' hg';have e2:g'=T:=e;omega))
           have HB5:=Bas.hid (HB4.out.setCell (p:=⟨T,2,none⟩) hwT (.int .i64 x));have hs5:(wr.setCell ⟨T,2,none⟩ (.int .i64 x)).heap.size=wr.heap.size:=by simp
           clear c0 c1 c2 c3 f2 o5;generalize wr.setCell ⟨T,2,none⟩ (.int .i64 x)=W5 at*;have o5:W5.heap[T]? =some (.cells #[.int .i64 ty,.bool true,.int .i64 x,.slice (some ⟨G,0,none⟩) k cps] 146 (0,0)):=o6;have k9:=Bas.heap_new W5 (.cells #[.int .i64 ty,.bool true,.int .i64 x,.slice (some ⟨G,0,none⟩) k cps] 146);have hb9:=(Below.refl W5.heap.size W5).alloc (Nat.le_refl _) (.cells #[.int .i64 ty,.bool true,.int .i64 x,.slice (some ⟨G,0,none⟩) k cps] 146);have HB9:=Bas.hid (HB5.out.trans (hb9.mono HB5.out.size));have HO9:=Bas.hid (Row.owned_below HO5.out hb9);generalize W5.alloc (.cells #[.int .i64 ty,.bool true,.int .i64 x,.slice (some ⟨G,0,none⟩) k cps] 146)=W9 at*;rw [hs5] at k9;clear hb9;refine (Row.append_any rfl _ _ 53 146 rfl (.agg #[.int .i64 0,.bool false,.int .i64 0,.slice none 0 0]) 4 48 Tryz.underlying53 infoF8 rfl (by decide) w.heap.size (.slice (some ⟨B1,O1,none⟩) i cpo) i _ rfl HO9.out (.slice (some ⟨wr.heap.size,0,none⟩) 1 1) 1 [.int .i64 ty,.bool true,.int .i64 x,.slice (some ⟨G,0,none⟩) k cps] rfl (leads_heap k9) rfl (by simp;exact ⟨rfl,rfl,rfl,rfl⟩) (by unfold maxLen;omega) (by omega) HB9.out.size ?_)
           intro v10 w10 ho10 hg10 _;have HB10:=Bas.hid (HB9.out.grown hg10 HB9.out.size (fun g' hg'=>(Row.own_block HO9.out hg').1))
           have HO10:=Bas.hid ho10;clear ho10 hg10 k9;go_wp2_with (fail);go_roundw
           case rel=>exact ⟨i+1,_,fs++[⟨ty,true,x,setsAt bs fr k⟩],ss++[.slice (some ⟨G,0,none⟩) k cps],by omega,by go_num,rfl,by rw [List.length_append,HFL.out];rfl,by
            rw [HSUB.out,HSTEP.out,HPS.out,Option.bind_some,if_pos HR0.out,lastT_snoc,HDF.out];simp [Option.map_map,Function.comp_def],⟨by rw [List.length_append,List.length_append,HSS.out];rfl,by
            rw [List.length_append,HFL.out,List.zip_append HSS.out.symm,List.flatMap_append];exact HO10.out⟩,HB10.out⟩
           case measure=>simp [intOf];omega
          ·have s2:decide ((p:Int)<(k:Int))=false:=by simp;omega
           have HDF:Hid (dfltOf (setsAt bs fr k) fl=-1):=by unfold Hid;rw [hDF,if_pos hge,if_neg hpk]
           clear hDF;have b0:=cell_of_heap (i:=0) o5 rfl;have b1:=cell_of_heap (i:=1) o5 rfl;have b2:=cell_of_heap (i:=2) o5 rfl;have b3:=cell_of_heap (i:=3) o5 rfl;go_wp2_with (at_builtin;refine Row.fence ?_);refine Row.unfence ?_;clear b0 b1 b2 b3
           have k9:=Bas.heap_new wr (.cells #[.int .i64 ty,.bool true,.int .i64 (-1),.slice ads k cps] 146);have hb9:=(Below.refl wr.heap.size wr).alloc (Nat.le_refl _) (.cells #[.int .i64 ty,.bool true,.int .i64 (-1),.slice ads k cps] 146);have HB9:=Bas.hid (HB4.out.trans (hb9.mono HB4.out.size));have HO9:=Bas.hid (Row.owned_below HO4.out hb9);generalize wr.alloc (.cells #[.int .i64 ty,.bool true,.int .i64 (-1),.slice ads k cps] 146)=W9 at*;clear hb9;refine (Row.append_any rfl _ _ 53 146 rfl (.agg #[.int .i64 0,.bool false,.int .i64 0,.slice none 0 0]) 4 48 Tryz.underlying53 infoF8 rfl (by decide) w.heap.size (.slice (some ⟨B1,O1,none⟩) i cpo) i _ rfl HO9.out (.slice (some ⟨wr.heap.size,0,none⟩) 1 1) 1 [.int .i64 ty,.bool true,.int .i64 (-1),.slice ads k cps] rfl (leads_heap k9) rfl (by simp;exact ⟨rfl,rfl,rfl,rfl⟩) (by unfold maxLen;omega) (by omega) HB9.out.size ?_)
           intro v10 w10 ho10 hg10 _;have HB10:=Bas.hid (HB9.out.grown hg10 HB9.out.size (fun g' hg'=>(Row.own_block HO9.out hg').1))
           have HO10:=Bas.hid ho10;clear ho10 hg10 k9;go_wp2_with (fail);go_roundw
           case rel=>exact ⟨i+1,_,fs++[⟨ty,true,(-1),setsAt bs fr k⟩],ss++[.slice ads k cps],by omega,by go_num,rfl,by rw [List.length_append,HFL.out];rfl,by
            rw [HSUB.out,HSTEP.out,HPS.out,Option.bind_some,if_pos HR0.out,lastT_snoc,HDF.out];simp [Option.map_map,Function.comp_def],⟨by rw [List.length_append,List.length_append,HSS.out];rfl,by
            rw [List.length_append,HFL.out,List.zip_append HSS.out.symm,List.flatMap_append];exact HO10.out⟩,HB10.out⟩
           case measure=>simp [intOf];omega
        ·have s1:(fl / 16384%2==1)=false:=by simpa using hsec
         have hpv:p=0:=by rw [HHP.out];unfold firstOf;rw [if_neg hsec]
         subst hpv;clear hsec;cases ex with
         |false=>
          have hge:¬fl≥32768:=by simpa using HEX.out
          have HDF:Hid (dfltOf (setsAt bs fr k) fl=-1):=by unfold Hid;rw [hDF,if_neg hge]
          clear hDF;have b0:=cell_of_heap (i:=0) o5 rfl;have b1:=cell_of_heap (i:=1) o5 rfl;have b2:=cell_of_heap (i:=2) o5 rfl;have b3:=cell_of_heap (i:=3) o5 rfl;go_wp2_with (at_builtin;refine Row.fence ?_);refine Row.unfence ?_;clear b0 b1 b2 b3
          have k9:=Bas.heap_new wr (.cells #[.int .i64 ty,.bool false,.int .i64 (-1),.slice ads k cps] 146);have hb9:=(Below.refl wr.heap.size wr).alloc (Nat.le_refl _) (.cells #[.int .i64 ty,.bool false,.int .i64 (-1),.slice ads k cps] 146);have HB9:=Bas.hid (HB4.out.trans (hb9.mono HB4.out.size));have HO9:=Bas.hid (Row.owned_below HO4.out hb9);generalize wr.alloc (.cells #[.int .i64 ty,.bool false,.int .i64 (-1),.slice ads k cps] 146)=W9 at*;clear hb9;refine (Row.append_any rfl _ _ 53 146 rfl (.agg #[.int .i64 0,.bool false,.int .i64 0,.slice none 0 0]) 4 48 Tryz.underlying53 infoF8 rfl (by decide) w.heap.size (.slice (some ⟨B1,O1,none⟩) i cpo) i _ rfl HO9.out (.slice (some ⟨wr.heap.size,0,none⟩) 1 1) 1 [.int .i64 ty,.bool false,.int .i64 (-1),.slice ads k cps] rfl (leads_heap k9) rfl (by simp;exact ⟨rfl,rfl,rfl,rfl⟩) (by unfold maxLen;omega) (by omega) HB9.out.size ?_)
          intro v10 w10 ho10 hg10 _;have HB10:=Bas.hid (HB9.out.grown hg10 HB9.out.size (fun g' hg'=>(Row.own_block HO9.out hg').1))
          have HO10:=Bas.hid ho10;clear ho10 hg10 k9;go_wp2_with (fail);go_roundw
          case rel=>exact ⟨i+1,_,fs++[⟨ty,false,(-1),setsAt bs fr k⟩],ss++[.slice ads k cps],by omega,by go_num,rfl,by rw [List.length_append,HFL.out];rfl,by
           rw [HSUB.out,HSTEP.out,HPS.out,Option.bind_some,if_pos HR0.out,lastT_snoc,HDF.out];simp [Option.map_map,Function.comp_def],⟨by rw [List.length_append,List.length_append,HSS.out];rfl,by
           rw [List.length_append,HFL.out,List.zip_append HSS.out.symm,List.flatMap_append];exact HO10.out⟩,HB10.out⟩
          case measure=>simp [intOf];omega
         |true=>
          have hge:fl≥32768:=by simpa using HEX.out
          by_cases hpk:0<k
          ·have s2:decide (0<(k:Int))=true:=by simp;omega
           obtain ⟨x,hx⟩:∃x,(setsAt bs fr k)[0]? =some x:=⟨_,List.getElem?_eq_getElem (by rw [setsAt_len];exact hpk)⟩
           have HDF:Hid (dfltOf (setsAt bs fr k) fl=x):=by unfold Hid;rw [hDF,if_pos hge,if_pos hpk,List.getD_eq_getElem?_getD,hx];rfl
           rcases Row.owned_parts HI.out with ⟨_,h0,_⟩|⟨G,cp',hvG,hGb,hGl,hGc,hGm,hcl,-⟩
           ·omega
           have hv5:=own_ty HI.out o5 (by decide)
           cases hvG;have cG:=hcl 0 (.int .i64 x) (by rw [List.getElem?_map,hx];rfl)
           have c0:=cell_of_heap (i:=0) o5 rfl;have c3:=cell_of_heap (i:=3) o5 rfl;have c2:=cell_of_heap (i:=2) o5 rfl;have f2:=free_of_heap (i:=2) o5;have hGT:G≠T:=fun e=>hv5 (by rw [←e];rfl)
           clear hcl hx hDF hv5;go_wp2_with (at_builtin;refine Row.fence ?_);refine Row.unfence ?_;have o6:=heap_set (i:=2) o5 (.int .i64 x);have HO5:=Bas.hid (Row.owned_keep HO4.out (w':=wr.setCell ⟨T,2,none⟩ (.int .i64 x)) fun g' hg'=>Below.heap_setCell _ _ _ _ (fun e=>by have:=HLT.out g' hg';have e2:g'=T:=e;omega))
           have HB5:=Bas.hid (HB4.out.setCell (p:=⟨T,2,none⟩) hwT (.int .i64 x));have hs5:(wr.setCell ⟨T,2,none⟩ (.int .i64 x)).heap.size=wr.heap.size:=by simp
           clear c0 c1 c2 c3 f2 o5;generalize wr.setCell ⟨T,2,none⟩ (.int .i64 x)=W5 at*;have o5:W5.heap[T]? =some (.cells #[.int .i64 ty,.bool true,.int .i64 x,.slice (some ⟨G,0,none⟩) k cps] 146 (0,0)):=o6;have k9:=Bas.heap_new W5 (.cells #[.int .i64 ty,.bool true,.int .i64 x,.slice (some ⟨G,0,none⟩) k cps] 146);have hb9:=(Below.refl W5.heap.size W5).alloc (Nat.le_refl _) (.cells #[.int .i64 ty,.bool true,.int .i64 x,.slice (some ⟨G,0,none⟩) k cps] 146);have HB9:=Bas.hid (HB5.out.trans (hb9.mono HB5.out.size));have HO9:=Bas.hid (Row.owned_below HO5.out hb9);generalize W5.alloc (.cells #[.int .i64 ty,.bool true,.int .i64 x,.slice (some ⟨G,0,none⟩) k cps] 146)=W9 at*;rw [hs5] at k9;clear hb9;refine (Row.append_any rfl _ _ 53 146 rfl (.agg #[.int .i64 0,.bool false,.int .i64 0,.slice none 0 0]) 4 48 Tryz.underlying53 infoF8 rfl (by decide) w.heap.size (.slice (some ⟨B1,O1,none⟩) i cpo) i _ rfl HO9.out (.slice (some ⟨wr.heap.size,0,none⟩) 1 1) 1 [.int .i64 ty,.bool true,.int .i64 x,.slice (some ⟨G,0,none⟩) k cps] rfl (leads_heap k9) rfl (by simp;exact ⟨rfl,rfl,rfl,rfl⟩) (by unfold maxLen;omega) (by omega) HB9.out.size ?_)
           intro v10 w10 ho10 hg10 _;have HB10:=Bas.hid (HB9.out.grown hg10 HB9.out.size (fun g' hg'=>(Row.own_block HO9.out hg').1))
           have HO10:=Bas.hid ho10;clear ho10 hg10 k9;go_wp2_with (fail);go_roundw
           case rel=>exact ⟨i+1,_,fs++[⟨ty,true,x,setsAt bs fr k⟩],ss++[.slice (some ⟨G,0,none⟩) k cps],by omega,by go_num,rfl,by rw [List.length_append,HFL.out];rfl,by
            rw [HSUB.out,HSTEP.out,HPS.out,Option.bind_some,if_pos HR0.out,lastT_snoc,HDF.out];simp [Option.map_map,Function.comp_def],⟨by rw [List.length_append,List.length_append,HSS.out];rfl,by
            rw [List.length_append,HFL.out,List.zip_append HSS.out.symm,List.flatMap_append];exact HO10.out⟩,HB10.out⟩
           case measure=>simp [intOf];omega
          ·have s2:decide (0<(k:Int))=false:=by simp;omega
           have HDF:Hid (dfltOf (setsAt bs fr k) fl=-1):=by unfold Hid;rw [hDF,if_pos hge,if_neg hpk]
           clear hDF;have b0:=cell_of_heap (i:=0) o5 rfl;have b1:=cell_of_heap (i:=1) o5 rfl;have b2:=cell_of_heap (i:=2) o5 rfl;have b3:=cell_of_heap (i:=3) o5 rfl;go_wp2_with (at_builtin;refine Row.fence ?_);refine Row.unfence ?_;clear b0 b1 b2 b3
           have k9:=Bas.heap_new wr (.cells #[.int .i64 ty,.bool true,.int .i64 (-1),.slice ads k cps] 146);have hb9:=(Below.refl wr.heap.size wr).alloc (Nat.le_refl _) (.cells #[.int .i64 ty,.bool true,.int .i64 (-1),.slice ads k cps] 146);have HB9:=Bas.hid (HB4.out.trans (hb9.mono HB4.out.size));have HO9:=Bas.hid (Row.owned_below HO4.out hb9);generalize wr.alloc (.cells #[.int .i64 ty,.bool true,.int .i64 (-1),.slice ads k cps] 146)=W9 at*;clear hb9;refine (Row.append_any rfl _ _ 53 146 rfl (.agg #[.int .i64 0,.bool false,.int .i64 0,.slice none 0 0]) 4 48 Tryz.underlying53 infoF8 rfl (by decide) w.heap.size (.slice (some ⟨B1,O1,none⟩) i cpo) i _ rfl HO9.out (.slice (some ⟨wr.heap.size,0,none⟩) 1 1) 1 [.int .i64 ty,.bool true,.int .i64 (-1),.slice ads k cps] rfl (leads_heap k9) rfl (by simp;exact ⟨rfl,rfl,rfl,rfl⟩) (by unfold maxLen;omega) (by omega) HB9.out.size ?_)
           intro v10 w10 ho10 hg10 _;have HB10:=Bas.hid (HB9.out.grown hg10 HB9.out.size (fun g' hg'=>(Row.own_block HO9.out hg').1))
           have HO10:=Bas.hid ho10;clear ho10 hg10 k9;go_wp2_with (fail);go_roundw
           case rel=>exact ⟨i+1,_,fs++[⟨ty,true,(-1),setsAt bs fr k⟩],ss++[.slice ads k cps],by omega,by go_num,rfl,by rw [List.length_append,HFL.out];rfl,by
            rw [HSUB.out,HSTEP.out,HPS.out,Option.bind_some,if_pos HR0.out,lastT_snoc,HDF.out];simp [Option.map_map,Function.comp_def],⟨by rw [List.length_append,List.length_append,HSS.out];rfl,by
            rw [List.length_append,HFL.out,List.zip_append HSS.out.symm,List.flatMap_append];exact HO10.out⟩,HB10.out⟩
           case measure=>simp [intOf];omega
     ·have HNO:Hid (parseFs bs=none):=by
       unfold Hid;have hr0:risesB (lastT fs) ty=false:=by rw [hlast];exact decide_eq_false hrs
       rw [HPA.out,HSUB.out,HSTEP.out,HPS.out,Option.bind_some,hr0];rfl
      have y1:decide (ty≤pt)=true:=by simp;omega
      clear hlast;go_wp2_with (fail);refine' Pl.region_v0 118 [] [0,1,2,3,4,5,6,7,8,9,10,11,12,13,14,15,16,17,18,19,20] [] _ (by kernel_rfl) (by kernel_rfl) (by simp) (fun _ _ _ _ e h=>⟨e▸h.1,h.2⟩) ?_ ?_
      rotate_left
      ·intro I F hI hF;simp only [Pl.selN,List.nil_append,List.drop_succ_cons,List.drop_zero];have x0:=fun q=>hF.cell lT (cell_of_heap (i:=0) kT rfl) q
       have d0q:=fun q=>hF.cell lB d0 q
       repeat (go_big_quiet_step ((go_at_call 37;with_reducible exact hF.same (HR.out _))))
       refine wpQuiet_nil ?_;rfl
      intro w3 hw3;simp only [Pl.selN];have kT3:=(hw3.block _ lT).trans kT;have HB3:=Bas.hid (HB2.out.trans (hw3.mono HB2.out.size));have HO3:=Bas.hid (Row.owned_below HO2.out hw3);have lT3:=heap_lt kT3;go_wp2_with (fail);exact bodyPost_ret (v:=.tuple #[.slice none 0 0,.bool false]) (by simp [results,Tryz.results23,go_sem]) rfl ⟨HB3.out,by rw [HNO.out]⟩
   ·have hrB2:¬rowsB len fr m 4:=by
     rintro ⟨h1,h2,h3,h4,h5⟩;exact hrc (by omega)
    have HR:=Bas.hid (fun w'=>rows_no len fr m 4 w' (by omega) (by omega) (by omega) hrB2)
    have HNO:Hid (parseFs bs=none):=by
     unfold Hid;rw [HPA.out,HSUB.out,HSTEP.out,HPF.out,if_neg hrc];rfl
    clear hrB2 HPF;go_wp2_with (fail);refine' Pl.region_v0 118 [] [0,1,2,3,4,5,6,7,8,9,10,11,12,13,14,15,16,17,18,19,20] [] _ (by kernel_rfl) (by kernel_rfl) (by simp) (fun _ _ _ _ e h=>⟨e▸h.1,h.2⟩) ?_ ?_
    rotate_left
    ·intro I F hI hF;simp only [Pl.selN,List.nil_append,List.drop_succ_cons,List.drop_zero];have x0:=fun q=>hF.cell lT (cell_of_heap (i:=0) kT rfl) q
     repeat (go_big_quiet_step ((go_at_call 37;with_reducible exact hF.same (HR.out _))))
     refine wpQuiet_nil ?_;rfl
    intro w3 hw3;simp only [Pl.selN];have kT3:=(hw3.block _ lT).trans kT;have HB3:=Bas.hid (HB2.out.trans (hw3.mono HB2.out.size));have HO3:=Bas.hid (Row.owned_below HO2.out hw3);have lT3:=heap_lt kT3;go_wp2_with (fail);exact bodyPost_ret (v:=.tuple #[.slice none 0 0,.bool false]) (by simp [results,Tryz.results23,go_sem]) rfl ⟨HB3.out,by rw [HNO.out]⟩
  ·have hin2:i=n:=by omega
   have hdone:parseFs bs=some fs:=by
    rw [HPA.out,HSUB.out,hin2,Nat.sub_self,featsAt];simp
   have HD:=Bas.hid hdone;have e1:decide ((i:Int)<(n:Int))=false:=by simp;omega
   clear hdone;go_wp2_with (fail);refine bodyPost_ret (v:=.tuple #[.slice ado i cpo,.bool true]) (by simp [results,Tryz.results23,go_sem]) rfl ⟨HB.out, ?_⟩
   rw [HD.out];exact ⟨_,ss,rfl,HSS.out,by rw [HFL.out];exact HO.out⟩
theorem fref_any(a:Option Addr)(len cap:Nat)(bs:List Int)(w:World)(hlm:len≤1000000000)(hv:VB w a bs)(hbl:bs.length=len):
  Calls Tryz.prog 23 #[.slice a len cap] w (FRefP w bs):=by
 by_cases h:12≤len∧be bs 0 4=65536∧12+12*(be bs 4 2).toNat≤len
 ·have h2:=be2_bd bs hv.byte 4 (by omega)
  exact fref_main a len cap bs (be bs 4 2).toNat w hlm hv hbl h.1 h.2.1 (by omega) h.2.2
 ·exact fref_no a len cap bs w hlm hv hbl h
end Ft
namespace Pk
open Ch Ft Go.Maps
structure Met (fs:List FeatD) (l:List (Int×Int)) (left:Lit→Bool) (xs:List (Int×Int)):Prop where
 nodup:xs.Nodup
 has:∀z,left z=true→has (Dm fs l) z=true
 mem:∀s,s∈xs↔∃c,wf64 c∧lastK fs l c=some s∧left (kl c)=false
theorem met_start(fs:List FeatD)(l:List (Int×Int)):Met fs l (has (Dm fs l)) []:=by
 refine ⟨List.nodup_nil,fun _ h=>h,fun s=>⟨fun h=>(by cases h),fun ⟨c,hc,h1,h2⟩=> ?_⟩⟩
 rw [(Dm_reads fs c hc l).1,h1] at h2;cases h2
theorem met_step{fs:List FeatD}{l:List (Int×Int)}{left:Lit→Bool}{xs:List (Int×Int)}(h:Met fs l left xs){x s:Int×Int}(hx:wf64 x)(hl:left (kl x)=true)(hat:∀z,(Dm fs l).atKey (kl x) z=dS s):
  Met fs l (fun z=>left z&& !z.sameKey (kl x)) (xs++[s]):=by
 have h0:=h.has _ hl;rw [(Dm_reads fs x hx l).1] at h0;obtain ⟨s',hs'⟩:=Option.isSome_iff_exists.1 h0;have e:s'=s:=dS_inj (((Dm_reads fs x hx l).2 s' hs' .nil).symm.trans (hat .nil));subst e;have same:∀c,wf64 c→((kl c).sameKey (kl x)=true↔c=x):=fun c hc=>by
  constructor
  ·intro hk;exact kl_inj hc hx (WideAt.sameKey_eq hk)
  ·rintro rfl;exact WideAt.sameKey_self (kl_key _ hc)
 have hnot:s'∉xs:=fun hm=>by
  obtain ⟨c,hc,h1,h2⟩:=(h.mem s').1 hm;have e1:=(lastK_some fs l h1).2.2;have e2:=(lastK_some fs l hs').2.2;rw [←e1,e2,hl] at h2;cases h2
 refine ⟨?_,fun z hz=>h.has z (by simp at hz;exact hz.1),fun s=> ?_⟩
 ·rw [List.nodup_append];exact ⟨h.nodup,by simp,fun a ha b hb e=>by simp at hb;subst hb;subst e;exact hnot ha⟩
 ·rw [List.mem_append,List.mem_singleton];constructor
  ·rintro (hm|rfl)
   ·obtain ⟨c,hc,h1,h2⟩:=(h.mem s).1 hm;exact ⟨c,hc,h1,by simp [h2]⟩
   ·exact ⟨x,hx,hs',by simp [(same x hx).2 rfl]⟩
  ·rintro ⟨c,hc,h1,h2⟩;cases hlc:left (kl c) with
   |false=>exact .inl ((h.mem s).2 ⟨c,hc,h1,hlc⟩)
   |true=>
    rw [hlc] at h2;simp at h2;have e:=(same c hc).1 h2;subst e;rw [hs'] at h1;cases h1;exact .inr rfl
def IsSet(fs:List FeatD)(l ys:List (Int×Int)):Prop:=ys.Pairwise (fun x y=>ltP x y=true)∧∀s,s∈ys↔rightB s=true∧lastK fs l (ck fs s)=some s
theorem ltP_total{x y:Int×Int}(h:ltP y x=false)(hne:x≠y):ltP x y=true:=by
 simp [ltP] at h ⊢;have:¬(x.1=y.1∧x.2=y.2):=fun e=>hne (Prod.ext e.1 e.2)
 omega
theorem met_end{fs:List FeatD}{l:List (Int×Int)}{left:Lit→Bool}{xs ys:List (Int×Int)}(h:Met fs l left xs)(hl:∀z,left z=false)(hp:ys.Perm xs)(hr:Rises ys):IsSet fs l ys:=by
 have hnd:ys.Nodup:=hp.nodup_iff.2 h.nodup;refine ⟨?_,fun s=> ?_⟩
 ·exact (List.Pairwise.and hr hnd).imp fun ⟨h1,h2⟩=>ltP_total h1 h2
 ·rw [hp.mem_iff,h.mem];constructor
  ·rintro ⟨c,hc,h1,_⟩;obtain ⟨_,h2,h3⟩:=lastK_some fs l h1;exact ⟨h2,by rw [h3];exact h1⟩
  ·rintro ⟨h1,h2⟩;exact ⟨ck fs s,ck_wf fs s h1,h2,hl _⟩
theorem isSet_sub{fs:List FeatD}{l ys:List (Int×Int)}(h:IsSet fs l ys):∀s∈ys,s∈l:=fun s hs=>(lastK_some fs l ((h.2 s).1 hs).2).1
theorem isSet_nodup{fs:List FeatD}{l ys:List (Int×Int)}(h:IsSet fs l ys):ys.Nodup:=h.1.imp fun {a b} hab e=>by subst e;simp [ltP] at hab
theorem isSet_len{fs:List FeatD}{l ys:List (Int×Int)}(h:IsSet fs l ys):ys.length≤l.length:=
 (isSet_nodup h).length_le_of_subset (isSet_sub h)
theorem met_len{fs:List FeatD}{l:List (Int×Int)}{left:Lit→Bool}{xs:List (Int×Int)}(h:Met fs l left xs):xs.length≤l.length:=
 h.nodup.length_le_of_subset fun s hs=>by obtain ⟨c,_,h1,_⟩:=(h.mem s).1 hs;exact (lastK_some fs l h1).1
end Pk
end Go.Proofs.YtceihjjjmcgmaaaGreat
