/- Parts of a proof: texts WidthReadB, WidthGet, ChainD, Mod, LnD, First, Take, Read, Ref01, LkD, StD, LkNum, LnSet, LkTrim, LkSing, LkSegs. -/
import Derived.Test.YtceihjjjmcgmaaaGreatMP02
import Derived.OwnWalk
import Derived.Laws.ResultCell
set_option maxHeartbeats 16000000
set_option maxRecDepth 100000
namespace Go.Proofs.YtceihjjjmcgmaaaGreat
open Go.RowKit
namespace Fo
open Vw Wr
def IsW(w:World)(base p g m:Nat)(d:List Int):Prop:=
 base≤p∧∃gb cb,base≤gb∧gb≠p∧w.heap[p]? =some (.cells #[.int .i64 (g:Nat),.int .i64 1000,.int .i64 (m:Nat),.slice (some ⟨gb,0,none⟩) d.length cb] 280 (0,0))∧d.length≤cb∧cb≤maxLen∧VB w (some ⟨gb,0,none⟩) d
def WReadF(good:Bool)(g m:Nat)(d:List Int)(w:World)(e:Ending)(w':World):Prop:=
 Below w.heap.size w w'∧match good with
  |true=>∃p,e=.returned (.tuple #[.pointer (some ⟨p,0,none⟩),.int .i64 0])∧IsW w' w.heap.size p g m d
  |false=>e=.returned (.tuple #[.pointer none,.int .i64 2])
theorem wread_gen(a:Option Addr)(cap:Nat)(bs:List Int)(P:List PartD)(i0 i1 i2 i3:Nat)(g m L:Nat)(d:List Int)(w:World)(hl:bs.length≤cap)(hc:cap≤maxLen)(hv:VB w a bs)(hF:IsFont bs P)(h0:P[i0]? =some ⟨sMaxp,maxpL (g:Nat)⟩)(h1:P[i1]? =some ⟨sHead,headL 1000⟩)(h2:P[i2]? =some ⟨sHhea,hheaL (m:Nat)⟩)(h3:P[i3]? =some ⟨sHmtx,d⟩)(hm1:1≤m)(hmg:m≤g)(hgb:g≤65535)(hL:4*m+2*(g - m)=L):
  Calls Tryz.prog 49 #[.slice a bs.length cap] w (WReadF (decide (L≤d.length)) g m (d.take L) w):=by
 have hmf:∀(fn:Fn) (first cap:Array Value) (w:World),(Instr.makeFunc fn first cap).run Tryz.prog w=.ok (.func fn first cap) w:=fun _ _ _ _=>rfl
 have hcf:∀(caps:Array Value) w,(callFunc 94 caps).run Tryz.prog w=.ok (.enter 94 caps) w:=fun caps w=>by simp [go_sem]
 have HCF:=Bas.hid hcf;have HFACE:=Bas.hid (fread_font a cap bs _ w hl hc hv hF i0 i1 i2 _ _ _ h0 h1 h2 (fun _=>maxp_kind (g:Nat)) (fun _=>head_kind 1000))
 have HFIND:=Bas.hid (fun w' (hb:Below w.heap.size w w')=>find_yes a bs.length cap bs _ sHmtx i3 ⟨sHmtx,d⟩ h3 rfl w' hl hc (hv.below hb) rfl hF)
 have hfl:faceL (maxpL (g:Nat)) (headL 1000) (hheaL (m:Nat))=some ((g:Int),1000,(m:Int)):=by rw [plain_face _ _ _ (by omega) (by omega) (by omega),if_pos (by omega)]
 have HFL:=Bas.hid hfl;obtain ⟨n,hn⟩:∃n,bs.length=n:=⟨_,rfl⟩;obtain ⟨e2,b2⟩:=hF.data i3 ⟨sHmtx,d⟩ h3;have hfew:=hF.few;simp only at e2 b2;have HX:=Bas.hid (fun w' (hb:Below w.heap.size w w')=>e2▸(hv.below hb).sub (atM P i3) d.length (by omega))
 have hdn:d.length≤1000000:=by omega
 generalize hX:sub a (atM P i3) d.length=X at*;obtain ⟨dn,hdl⟩:∃dn,d.length=dn:=⟨_,rfl⟩;simp only at HFIND;rw [hdl] at HFIND;rw [hdl] at hdn ⊢;have HDL:=Bas.hid hdl;rw [hn] at HFACE HFIND ⊢;have HL:=Bas.hid hL;have hL1:1≤L:=by omega
 obtain ⟨good,hgd⟩:∃good,decide (L≤dn)=good:=⟨_,rfl⟩;rw [hgd];have HGD:=Bas.hid hgd;clear hgd;clear hcf hfl hF h0 h1 h2 h3 hv hl hc b2 e2 hfew hn hX hdl hL;go_enter Tryz.func49,Tryz.ntmps49
 go_wp2_with (fail);refine HFACE.out.mono ?_;rintro e w1 ⟨hb1,rfl⟩;rw [HFL.out];simp only [Option.getD_some,Option.isSome_some,if_true];have HB1:=Bas.hid hb1;clear hb1 HFACE HFL;go_wp2_with (fail);have k4:=Bas.heap_new w1 (.cells #[.int .i64 (g:Nat),.int .i64 1000,.int .i64 (m:Nat)] 196);have HB4:=Bas.hid (HB1.out.alloc HB1.out.size (.cells #[.int .i64 (g:Nat),.int .i64 1000,.int .i64 (m:Nat)] 196));have hs4:w.heap.size≤w1.heap.size:=HB1.out.size;generalize w1.alloc (.cells #[.int .i64 (g:Nat),.int .i64 1000,.int .i64 (m:Nat)] 196)=W4 at*;generalize w1.heap.size=T4 at*;clear HB1;refine (HFIND.out _ HB4.out).mono ?_;rintro e w5 ⟨rfl,hb5⟩;have k45:=(hb5.block _ (heap_lt k4)).trans k4;have HB5:=Bas.hid (HB4.out.trans (hb5.mono HB4.out.size));clear hb5 HFIND HB4 k4;go_wp2_with (fail);have k6:=Bas.heap_new w5 (.cells #[.slice X dn dn] 190);have k46:=(Below.heap_alloc w5 (.cells #[.slice X dn dn] 190) _ (heap_lt k45)).trans k45;have HB6:=Bas.hid (HB5.out.alloc HB5.out.size (.cells #[.slice X dn dn] 190));have l45:=heap_lt k45;have hs5:w.heap.size≤w5.heap.size:=HB5.out.size;have hlt6:w5.heap.size<(w5.alloc (.cells #[.slice X dn dn] 190)).heap.size:=by simp
 generalize w5.alloc (.cells #[.slice X dn dn] 190)=W6 at*;generalize w5.heap.size=T6 at*;have hb7:=HB6.out.alloc HB6.out.size (.cells #[.bool false] 4);have HC:=wread1_any X dn g m L 1000 d T4 T6 W6.heap.size (W6.alloc (.cells #[.bool false] 4)) (HX.out _ hb7) HDL.out hdn HL.out hm1 hmg hgb
  ((Below.heap_alloc W6 _ _ hlt6).trans k6) ((Below.heap_alloc W6 _ _ (by omega)).trans k46) (by omega) (Bas.heap_new _ _)
 refine (try_any 94 _ W6 _ (HCF.out _) HC).mono ?_;clear HC HCF HX;rintro e w8 ⟨ok,w2,rfl,⟨hg2,hok,ho2⟩,hlt2,hg5⟩;have hs2:=hg2.size;simp only [World.size_alloc] at hs2;have hs8:=hg5.size;have HB8:=Bas.hid (Bas.below_g (Bas.below_g hb7 hg2 (by simp;omega) (by omega)) hg5 (by omega) (by omega))
 have k48:=(hg5.block T4 (by omega) (by simp;omega)).trans ((hg2.block T4 (by simp;omega) (by simp;omega)).trans ((Below.heap_alloc W6 _ _ (by omega)).trans k46))
 have hgood:decide (L≤dn)=ok:=hok.symm;have hgo:good=ok:=HGD.out.symm.trans hgood;subst hgo;rw [hgood] at ho2;cases good with
 |false=>
  have HBF:=Bas.hid HB8.out;clear ho2 hg2 hg5 hgood hok hb7 HB8 k48 k46 k45 k6;go_wp2_with (fail);exact bodyPost_ret (v:=.tuple #[.pointer none,.int .i64 2]) (by simp [results,Tryz.results49,go_sem]) rfl ⟨HBF.out,rfl⟩
 |true=>
  obtain ⟨gb,cb,hgB,k62,hcb,hcm,hvb⟩:=ho2 rfl;simp only [World.size_alloc] at hgB;have k68:=(hg5.block T6 (by omega) (by simp;omega)).trans k62
  have hvb8:=vb_grown hvb hg5 (by omega)
  have c0:=cell_of_heap (i:=0) (v:=.int .i64 (g:Nat)) k48 rfl;have c1:=cell_of_heap (i:=1) (v:=.int .i64 1000) k48 rfl;have c2:=cell_of_heap (i:=2) (v:=.int .i64 (m:Nat)) k48 rfl;have c3:=cell_of_heap (i:=0) (v:=.slice (some ⟨gb,0,none⟩) (d.take L).length cb) k68 rfl;have hgb8:gb<w8.heap.size:=by
   obtain ⟨b,o,ha,hcl⟩:=hvb8.cell 0 (by rw [List.length_take,HDL.out];have:=of_decide_eq_true hgood;omega)
   cases ha;exact World.block_lt_of_cell? _ _ hcl
  have HE:Hid (WReadF true g m (d.take L) w (.returned (.tuple #[.pointer (some ⟨w8.heap.size,0,none⟩),.int .i64 0])) (w8.alloc (.cells #[.int .i64 (g:Nat),.int .i64 1000,.int .i64 (m:Nat),.slice (some ⟨gb,0,none⟩) (d.take L).length cb] 280))):=
   ⟨HB8.out.alloc HB8.out.size _,w8.heap.size,rfl,HB8.out.size,gb,cb,by have:=HB6.out.size;omega,by omega,Bas.heap_new _ _,hcb,hcm,hvb8.below ((Below.refl w8.heap.size w8).alloc (Nat.le_refl _) _)⟩
  clear ho2 hg2 hg5 hgood hok hb7 HB8 k48 k46 k45 k6 k62 k68 hvb hvb8 hcb hcm;generalize (d.take L).length=L' at*;go_wp2_with (fail);exact bodyPost_ret (v:=.tuple #[.pointer (some ⟨w8.heap.size,0,none⟩),.int .i64 0]) (by simp [results,Tryz.results49,go_sem]) rfl HE.out
theorem wread_any(a:Option Addr)(cap:Nat)(bs:List Int)(g m L:Nat)(d:List Int)(w:World)(hl:bs.length≤cap)(hc:cap≤maxLen)(hv:VB w a bs)(hF:IsFont bs (widthP (g:Nat) (m:Nat) d))(hm1:1≤m)(hmg:m≤g)(hgb:g≤65535)(hL:4*m+2*(g - m)=L):
  Calls Tryz.prog 49 #[.slice a bs.length cap] w (WReadF (decide (L≤d.length)) g m (d.take L) w):=
 wread_gen a cap bs _ 3 0 1 2 g m L d w hl hc hv hF rfl rfl rfl rfl hm1 hmg hgb hL
def advL(g m:Nat)(d:List Int)(id:Int):Int:=if 0≤id∧id<g then be d (4*(if (m:Int) - 1<id then (m:Int) - 1 else id)).toNat 2 else 0
theorem isW_below{w w':World}{base p g m:Nat}{d:List Int}(h:IsW w base p g m d)(hb:Below w.heap.size w w'):IsW w' base p g m d:=by
 obtain ⟨h0,gb,cb,h1,h2,h3,h4,h5,h6⟩:=h;exact ⟨h0,gb,cb,h1,h2,(hb.block _ (heap_lt h3)).trans h3,h4,h5,h6.below hb⟩
theorem wadv_any(w:World)(base p g m:Nat)(d:List Int)(id:Int)(h:IsW w base p g m d)(hd:d.length=4*m+2*(g - m))(hm1:1≤m)(hmg:m≤g)(hgb:g≤65535):
  Calls Tryz.prog 121 #[.pointer (some ⟨p,0,none⟩),.int .i64 id] w fun e w'=>e=.returned (.int .i64 (advL g m d id))∧Below w.heap.size w w':=by
 obtain ⟨-,gb,cb,-,-,k,hcb,hcm,hv⟩:=h;have c0:=cell_of_heap (i:=0) (v:=.int .i64 (g:Nat)) k rfl;have c2:=cell_of_heap (i:=2) (v:=.int .i64 (m:Nat)) k rfl;have c3:=cell_of_heap (i:=3) (v:=.slice (some ⟨gb,0,none⟩) d.length cb) k rfl;obtain ⟨r,hr⟩:∃r,advL g m d id=r:=⟨_,rfl⟩;rw [hr];have HR:=Bas.hid hr;obtain ⟨n,hn⟩:∃n,d.length=n:=⟨_,rfl⟩;have HN:=Bas.hid hn;rw [hn] at c3 hcb;have HB0:=Bas.hid (Below.refl w.heap.size w);by_cases h0:id<0
 ·have hr0:r=0:=by rw [←hr,advL,if_neg (by omega)]
  subst hr0;have e1:decide (id<0)=true:=decide_eq_true h0;clear hr hn hd k hv;go_enter Tryz.func121,Tryz.ntmps121
  go_wp2_with (fail);go_ret;exact ⟨rfl,HB0.out⟩
 ·by_cases h1:(g:Int)≤id
  ·have hr0:r=0:=by rw [←hr,advL,if_neg (by omega)]
   subst hr0;have e1:decide (id<0)=false:=decide_eq_false h0;have e2:decide ((g:Int)≤id)=true:=decide_eq_true h1;have e3:decide (id≥(g:Int))=true:=decide_eq_true h1;clear hr hn hd k hv;go_enter Tryz.func121,Tryz.ntmps121
   go_wp2_with (fail);go_ret;exact ⟨rfl,HB0.out⟩
  ·have e1:decide (id<0)=false:=decide_eq_false h0;have e2:decide ((g:Int)≤id)=false:=decide_eq_false h1;have e3:decide (id≥(g:Int))=false:=decide_eq_false h1;obtain ⟨q,hq⟩:∃q,(if (m:Int) - 1<id then (m:Int) - 1 else id)=q:=⟨_,rfl⟩
   have hq0:0≤q∧q≤m - 1:=by rw [←hq];split<;>omega
   obtain ⟨q0,q1⟩:=hq0;have HMIN:=Bas.hid (fun (ts:Array TypeId) (t:TypeId) (w:World)=>show (Builtin.min_ ts t #[.int .i64 id,.int .i64 ((m:Int) - 1)]).run Tryz.prog w=.ok (.int .i64 q) w by rw [run_min_int2,hq])
   have hre:r=be d (4*q).toNat 2:=by rw [←hr,advL,if_pos (by omega),hq]
   have HU:=Bas.hid (fun w' (hb:Below w.heap.size w w')=>hre.symm▸u16_ok (some ⟨gb,0,none⟩) n cb d (4*q) w' hcb hcm (hv.below hb) hn (by omega) (by omega))
   clear hr hn hd hv hre hq;have hmin:=HMIN.out;have lp:=heap_lt k;go_enter Tryz.func121,Tryz.ntmps121
   go_wp2_with (fail);refine' Pl.region_v0 30 [] [0,1,2,3,4,5,6,7,8,9,10,11,12,13] [14] _ (by kernel_rfl) (by kernel_rfl) (by simp) (fun _ _ _ _ e h=>⟨e▸h.1,h.2⟩) ?_ ?_
   rotate_left
   ·intro I F hI hF;simp only [Pl.selN,List.nil_append,List.drop_succ_cons,List.drop_zero];have x2:=fun i=>hF.cell lp c2 i
    have x3:=fun i=>hF.cell lp c3 i
    repeat (go_big_quiet_step ((go_at_call 103;with_reducible exact hF.call (HU.out _ (hF.on HB0.out _)))))
    refine wpQuiet_nil ?_;rfl
   intro u hu;simp only [Pl.selN];go_wp2_with (fail);go_ret;exact ⟨rfl,hu⟩
theorem wface_any(w:World)(base p g m:Nat)(d:List Int)(h:IsW w base p g m d):
  Calls Tryz.prog 50 #[.pointer (some ⟨p,0,none⟩)] w fun e w'=>e=.returned (.agg #[.int .i64 (g:Nat),.int .i64 1000,.int .i64 (m:Nat)])∧Below w.heap.size w w':=by
 obtain ⟨-,gb,cb,-,-,k,hcb,hcm,hv⟩:=h;have lp:=heap_lt k;have k':=(Below.heap_alloc w (.cells #[.int .i64 0,.int .i64 0,.int .i64 0] 196) _ lp).trans k;have c0:=cell_of_heap (i:=0) (v:=.int .i64 (g:Nat)) k' rfl;have c1:=cell_of_heap (i:=1) (v:=.int .i64 1000) k' rfl;have c2:=cell_of_heap (i:=2) (v:=.int .i64 (m:Nat)) k' rfl;have k0:=Bas.heap_new w (.cells #[.int .i64 0,.int .i64 0,.int .i64 0] 196);have HB0:=Bas.hid ((Below.refl w.heap.size w).alloc (Nat.le_refl _) (.cells #[.int .i64 0,.int .i64 0,.int .i64 0] 196));have d0:=cell_of_heap (i:=0) (v:=.int .i64 0) k0 rfl;have d1:=cell_of_heap (i:=1) (v:=.int .i64 0) k0 rfl;have d2:=cell_of_heap (i:=2) (v:=.int .i64 0) k0 rfl;have f0:=fun i=>free_of_heap (i:=i) k0
 clear k hv;go_enter Tryz.func50,Tryz.ntmps50
 go_wp2_with (fail);have q:=Bas.heap_new w (.cells #[.int .i64 (g:Nat),.int .i64 1000,.int .i64 (m:Nat)] 196);have q0:=cell_of_heap (i:=0) (v:=.int .i64 (g:Nat)) q rfl;have q1:=cell_of_heap (i:=1) (v:=.int .i64 1000) q rfl;have q2:=cell_of_heap (i:=2) (v:=.int .i64 (m:Nat)) q rfl;exact bodyPost_ret (v:=.agg #[.int .i64 (g:Nat),.int .i64 1000,.int .i64 (m:Nat)]) (by simp [results,Tryz.results50,go_sem]) rfl ⟨rfl,(Below.refl w.heap.size w).alloc (Nat.le_refl _) _⟩
end Fo
namespace Ch
open Vw
structure RuleD where
 type:Int
 value:Int
 enable:Int
 disable:Int
def ruleC(r:RuleD):List Value:=[.int .i64 r.type,.int .i64 r.value,.int .u32 r.enable,.int .u32 r.disable]
def rulesC(l:List RuleD):List Value:=l.flatMap ruleC
theorem be_sub(bs:List Int)(q m i k:Nat)(h:i+k≤m):be ((bs.drop q).take m) i k=be bs (q+i) k:=by
 unfold be;rw [List.drop_take,List.take_take,List.drop_drop,Nat.min_eq_left (by omega)]
theorem cell_of_heap{w:World}{b i:Nat}{cs:Array Value}{t:TypeId}{v:Value}(h:w.heap[b]? =some (.cells cs t (0,0)))(hi:cs[i]? =some v):w.cell? ⟨b,i,none⟩=some v:=by
 simp [World.cell?,h,hi]
theorem free_of_heap{w:World}{b i:Nat}{cs:Array Value}{t:TypeId}(h:w.heap[b]? =some (.cells cs t (0,0))):w.frozen? ⟨b,i,none⟩=false:=by
 simp [World.frozen?,h]
theorem heap_set{w:World}{b i:Nat}{cs:Array Value}{t:TypeId}(h:w.heap[b]? =some (.cells cs t (0,0)))(v:Value):(w.setCell ⟨b,i,none⟩ v).heap[b]? =some (.cells (cs.setIfInBounds i v) t (0,0)):=by
 simp [World.setCell,Array.getElem?_modify,h]
theorem heap_lt{w:World}{b:Nat}{o:Obj}(h:w.heap[b]? =some o):b<w.heap.size:=(Array.getElem?_eq_some_iff.1 h).1
theorem leads_heap{w:World}{g n c:Nat}{cs:List Value}{t:TypeId}(h:w.heap[g]? =some (.cells cs.toArray t (0,0))):Row.Leads w (.slice (some ⟨g,0,none⟩) n c) n cs:=
 .inr ⟨_,c,rfl,fun j u hu=>by rw [Addr.add_lit,Nat.zero_add];exact cell_of_heap h (by simpa using hu)⟩
theorem own_slice{w:World}{base size:Nat}{e:TypeId}{v:Value}{n:Nat}{xs:List Value}(h:w.ownsRow base e size v n xs):∃ad cp,v=.slice ad n cp:=by
 rcases Row.owned_parts h with ⟨rfl,rfl,_⟩|⟨_,_,h,_⟩
 ·exact ⟨_,_,rfl⟩
 ·exact ⟨_,_,h⟩
theorem own_ty{w:World}{base:Nat}{v:Value}{n g size:Nat}{xs:List Value}{e t:TypeId}{cs:Array Value}(h:w.ownsRow base e size v n xs)(ho:w.heap[g]? =some (.cells cs t (0,0)))(hne:e≠t):v.ownBlock≠some g:=by
 intro e';obtain ⟨_,⟨rfl,_⟩|⟨g',cp,cur,rfl,_,hh,_⟩⟩:=h
 ·cases e'
 ·cases e';rw [hh] at ho;simp at ho;exact hne ho.2
theorem own_rows_ne{w:World}{b1 b2 s1 s2 n1 n2 g:Nat}{v1 v2:Value}{x1 x2:List Value}{e1 e2:TypeId}(h1:w.ownsRow b1 e1 s1 v1 n1 x1)(h2:w.ownsRow b2 e2 s2 v2 n2 x2)(hne:e1≠e2)(hg:v1.ownBlock=some g):v2.ownBlock≠some g:=by
 obtain ⟨_,⟨rfl,_⟩|⟨g',cp,cur,rfl,_,hh,_⟩⟩:=h1
 ·cases hg
 ·cases hg;exact own_ty h2 hh (fun e=>hne e.symm)
end Ch
structure Mod (S:Nat→Prop) (w w':World):Prop where
 os:w'.os=w.os
 tape:w'.tape=w.tape
 output:w'.output=w.output
 size:w.heap.size≤w'.heap.size
 block:∀k,k<w.heap.size→¬S k→w'.heap[k]? =w.heap[k]?
namespace Mod
theorem refl(S:Nat→Prop)(w:World):Mod S w w:=⟨rfl,rfl,rfl,Nat.le_refl _,fun _ _ _=>rfl⟩
theorem trans{S T:Nat→Prop}{a b c:World}(h:Mod S a b)(k:Mod T b c)(hT:∀i,T i→i<a.heap.size→S i):Mod S a c:=
 ⟨k.os.trans h.os,k.tape.trans h.tape,k.output.trans h.output,Nat.le_trans h.size k.size,fun i hi hs=>(k.block i (Nat.lt_of_lt_of_le hi h.size) (fun ht=>hs (hT i ht hi))).trans (h.block i hi hs)⟩
theorem of_below{S:Nat→Prop}{a b:World}(h:Below a.heap.size a b):Mod S a b:=⟨h.os,h.tape,h.output,h.size,fun i hi _=>h.block i hi⟩
theorem of_grown{S:Nat→Prop}{a b:World}{r:Option Nat}(h:a.grownBy b r)(hr:∀g,r=some g→S g):Mod S a b:=⟨h.os,h.tape,h.output,h.size,fun i hi hs=>h.block i hi (fun e=>hs (hr i e.symm))⟩
theorem set{S:Nat→Prop}{a w:World}(h:Mod S a w){b o:Nat}(v:Value)(hb:S b∨a.heap.size≤b):Mod S a (w.setCell ⟨b,o,none⟩ v):=
 ⟨h.os, h.tape, h.output, by simpa [World.setCell] using h.size, fun i hi hs => (Below.heap_setCell _ _ _ _ (fun e => by
  have e2:i=b:=e;rcases hb with hb|hb
  ·exact hs (e2▸hb)
  ·omega)).trans (h.block i hi hs)⟩
theorem on{S:Nat→Prop}{a b c:World}(h:Mod S a b)(k:Below b.heap.size b c):Mod S a c:=h.trans (T:=fun _=>False) (of_below k) (fun _ h _=>h.elim)
theorem below{S:Nat→Prop}{B:Nat}{a w w':World}(h:Mod S w w')(ha:Below B a w)(hS:∀i,S i→B≤i)(hB:B≤w.heap.size):Below B a w':=
 ⟨h.os.trans ha.os,h.tape.trans ha.tape,h.output.trans ha.output,Nat.le_trans ha.size h.size,fun i hi=>(h.block i (Nat.lt_of_lt_of_le hi hB) (fun hs=>absurd (hS i hs) (Nat.not_le.2 hi))).trans (ha.block i hi)⟩
theorem heap{S:Nat→Prop}{w w':World}(h:Mod S w w'){b:Nat}{o:Obj}(hc:w.heap[b]? =some o)(hb:¬S b):w'.heap[b]? =some o:=(h.block b (Ch.heap_lt hc) hb).trans hc
theorem owned{S:Nat→Prop}{w w':World}(h:Mod S w w'){base size n:Nat}{e:TypeId}{v:Value}{xs:List Value}(ho:w.ownsRow base e size v n xs)(hb:∀g,v.ownBlock=some g→¬S g):w'.ownsRow base e size v n xs:=
 Row.owned_keep ho fun g hg=>h.block g (Row.own_block ho hg).2 (hb g hg)
end Mod
namespace Ln
open Ch
abbrev Gl:=Int×Int
def glC(g:Gl):List Value:=[.int .i64 g.1,.int .i64 g.2]
theorem glC_len(g:Gl):(glC g).length=2:=rfl
theorem glC_flat(l:List Gl):(l.flatMap glC).length=l.length*2:=by
 induction l with
 |nil=>rfl
 |cons s l ih=>rw [List.flatMap_cons,List.length_append,ih,List.length_cons];simp [glC];omega
theorem glC_one(l:List Gl):∀u∈l.flatMap glC,u.oneCell'=true:=fun v hv=>by
 obtain ⟨s,_,hs⟩:=List.mem_flatMap.1 hv;simp [glC] at hs;rcases hs with rfl|rfl<;>rfl
theorem infoG:(Tryz.prog.info? 78).map (fun i=>(i.zero,i.size,i.bytes))=some (some (.agg #[.int .i64 0,.int .i64 0]),2,16):=by kernel_rfl
structure LineAt (w:World) (base g:Nat) (sv:Value) (xs:List Gl):Prop where
 head:w.heap[g]? =some (.cells #[sv] 322 (0,0))
 own:w.ownsRow base 78 2 sv xs.length (xs.flatMap glC)
 low:base≤g
def blk(g:Nat)(sv:Value)(k:Nat):Prop:=k=g∨sv.ownBlock=some k
theorem LineAt.lt{w:World}{base g:Nat}{sv:Value}{xs:List Gl}(h:LineAt w base g sv xs):g<w.heap.size:=heap_lt h.head
theorem LineAt.blk_low{w:World}{base g:Nat}{sv:Value}{xs:List Gl}(h:LineAt w base g sv xs):∀k,blk g sv k→base≤k∧k<w.heap.size:=fun k hk=>by
 rcases hk with rfl|hk
 ·exact ⟨h.low,h.lt⟩
 ·exact Row.own_block h.own hk
theorem LineAt.mod{S:Nat→Prop}{w w':World}{base g:Nat}{sv:Value}{xs:List Gl}(h:LineAt w base g sv xs)(hm:Mod S w w')(hS:∀k,blk g sv k→¬S k):LineAt w' base g sv xs:=
 ⟨hm.heap h.head (hS g (.inl rfl)),hm.owned h.own fun k hk=>hS k (.inr hk),h.low⟩
theorem LineAt.below{w w':World}{base g:Nat}{sv:Value}{xs:List Gl}(h:LineAt w base g sv xs)(hb:Below w.heap.size w w'):LineAt w' base g sv xs:=
 h.mod (S:=fun _=>False) (Mod.of_below hb) (fun _ _ h=>h)
theorem LineAt.ne{w:World}{base g:Nat}{sv:Value}{xs:List Gl}(h:LineAt w base g sv xs):sv.ownBlock≠some g:=own_ty h.own h.head (by decide)
def LnTo(w:World)(base g:Nat)(sv:Value)(ys:List Gl)(w':World):Prop:=∃sv',LineAt w' base g sv' ys∧Mod (blk g sv) w w'∧∀k,sv'.ownBlock=some k→sv.ownBlock=some k∨w.heap.size≤k
theorem LnTo.refl{w:World}{base g:Nat}{sv:Value}{xs:List Gl}(h:LineAt w base g sv xs):LnTo w base g sv xs w:=⟨sv,h,Mod.refl _ _,fun _ h=>.inl h⟩
def cleanL(xs:List Gl):List Gl:=xs.filter fun g=>decide (g.1≠65535)
end Ln
namespace Sk
def Asked(R:Nat→Nat→World→Prop)(lo hi mid:Nat)(e:Ending)(w':World):Prop:=
 ∃b,e=.returned (.bool b)∧((b=true∧R lo mid w')∨(b=false∧R (mid+1) hi w'))
def Found(R:Nat→Nat→World→Prop)(n:Nat)(e:Ending)(w':World):Prop:=∃k:Nat,k≤n∧e=.returned (.int .i64 k)∧R k k w'
theorem first_any(K:Nat)(caps:Array Value)(R:Nat→Nat→World→Prop)(n:Nat)(w:World)(hn:n≤4294967296)(hcf:∀args w,(callFunc K args).run Tryz.prog w=.ok (.enter K args) w)
  (hstep:∀(lo hi:Nat) (w:World),lo<hi→hi≤n→R lo hi w→Calls Tryz.prog K (#[.int .i64 ((lo+(hi - lo) / 2:Nat):Int)]++caps) w (Asked R lo hi (lo+(hi - lo) / 2))) (h0:R 0 n w):
  Calls Tryz.prog 184 #[.int .i64 n,.func (.func K) #[] caps] w (Found R n):=by
 have HS:=Bas.hid hstep;clear hstep;go_enter Tryz.func184,Tryz.ntmps184
 go_wp2_with (fail);go_loopw [5,6] (fun a b wr=>∃lo hi:Nat,lo≤hi∧hi≤n∧a=.int .i64 lo∧b=.int .i64 hi∧R lo hi wr) (fun a b _=>(intOf b - intOf a).toNat)
 case atStart=>exact ⟨0,n,by omega,by omega,rfl,rfl,h0⟩
 case round=>
  obtain ⟨lo,hi,hlh,hhn,rfl,rfl,hR⟩:=hrel;have HR:=Bas.hid hR;clear hR h0;by_cases hlt:lo<hi
  ·have C:=HS.out lo hi wr hlt hhn HR.out;have e1:((lo:Int)+((hi:Int) - (lo:Int)) / 2)=((lo+(hi - lo) / 2:Nat):Int):=by omega
   have hm1:lo≤lo+(hi - lo) / 2:=by omega
   have hm2:lo+(hi - lo) / 2<hi:=by omega
   rw [←e1] at C;have HC:=Bas.hid C;have HE:=Bas.hid e1;clear C e1;go_wp2_with (fail);refine HC.out.mono ?_;rintro e w2 ⟨b,rfl,⟨rfl,hR2⟩|⟨rfl,hR2⟩⟩
   ·have HR2:=Bas.hid hR2;clear hR2;go_wp2_with (fail);go_roundw
    case rel=>exact ⟨lo,lo+(hi - lo) / 2,hm1,by omega,rfl,by rw [HE.out],HR2.out⟩
    case measure=>simp [intOf];omega
   ·have HR2:=Bas.hid hR2;clear hR2;go_wp2_with (fail);go_roundw
    case rel=>exact ⟨lo+(hi - lo) / 2+1,hi,by omega,hhn,by rw [HE.out];go_num,rfl,HR2.out⟩
    case measure=>simp [intOf];omega
  ·have:lo=hi:=by omega
   subst this;go_wp2_with (fail);go_ret;exact ⟨lo,hhn,rfl,HR.out⟩
end Sk
namespace Sk
open Vw
def noneB(bs:List Int):Nat→Bool
 |0=>true
 |k+1=>noneB bs k&&be bs (2*k) 2==65535
theorem noneB_stop(bs:List Int)(i k:Nat)(hi:i<k)(h:be bs (2*i) 2≠65535):noneB bs k=false:=by
 induction k with
 |zero=>omega
 |succ k ih=>
  unfold noneB;by_cases hk:i<k
  ·rw [ih hk];rfl
  ·have:i=k:=by omega
   subst this;simp [h]
theorem noneB_all(bs:List Int)(k:Nat)(h:∀i,i<k→be bs (2*i) 2=65535):noneB bs k=true:=by
 induction k with
 |zero=>rfl
 |succ k ih=>unfold noneB;rw [ih (fun i hi=>h i (by omega)),h k (by omega)];rfl
theorem none_any(a:Option Addr)(len cap:Nat)(bs:List Int)(keys:Nat)(w:World)(hl:len≤cap)(hc:cap≤maxLen)(hv:VB w a bs)(hbl:bs.length=len)(hk:2*keys≤len):
  Calls Tryz.prog 245 #[.agg #[.slice a len cap],.int .i64 keys] w fun e w'=>e=.returned (.bool (noneB bs keys))∧Below w.heap.size w w':=by
 have hvl:=hv.len;have HV:=Bas.hid hv;clear hv;go_enter Tryz.func245,Tryz.ntmps245
 go_wp2_with (fail);go_loopw [7] (fun c wr=>∃i:Nat,i≤keys∧c=.int .i64 i∧Below w.heap.size w wr∧w.heap.size<wr.heap.size∧wr.cell? ⟨w.heap.size,0,none⟩=some (.slice a len cap)∧∀j,j<i→be bs (2*j) 2=65535) (fun c _=>keys - (intOf c).toNat)
 case atStart=>exact ⟨0,by omega,rfl,(Below.refl _ _).alloc (Nat.le_refl _) _,by simp,by simp,by omega⟩
 case round=>
  obtain ⟨i,hi,rfl,hb,hz,hcell,hall⟩:=hrel;have HA:=Bas.hid hall;clear hall;by_cases hik:i<keys
  ·have e2:(2:Int)*(i:Int)=((2*i:Nat):Int):=by omega
   have C:=u16_ok a len cap bs ((2*i:Nat):Int) wr hl hc (HV.out.below hb) hbl (by omega) (by omega)
   rw [Int.toNat_natCast,←e2] at C;have HC:=Bas.hid C;clear C e2;go_wp2_with (fail);refine HC.out.mono ?_;rintro e w2 ⟨rfl,hb2⟩;have HB2:Below w.heap.size w w2:=hb.trans (hb2.mono hb.size);have hc2:w2.cell? ⟨w.heap.size,0,none⟩=some (.slice a len cap):=(hb2.cell (p:=⟨w.heap.size,0,none⟩) hz).trans hcell;have hz2:w.heap.size<w2.heap.size:=Nat.lt_of_lt_of_le hz hb2.size;clear hb2 HC;by_cases hx:be bs (2*i) 2=65535
   ·rw [hx];have HX:=Bas.hid hx;clear hx;go_wp2_with (fail);go_roundw
    case rel=>exact ⟨i+1,by omega,by go_num,HB2,hz2,hc2,fun j hj=>by
     by_cases h:j=i
     ·rw [h];exact HX.out
     ·exact HA.out j (by omega)⟩
    case measure=>simp [intOf];omega
   ·have hN:=noneB_stop bs i keys hik hx;have q:(be bs (2*i) 2==65535)=false:=by simpa using hx
    have HN:=Bas.hid hN;clear hx hN;generalize be bs (2*i) 2=y at q ⊢;go_wp2_with (fail);go_ret;exact ⟨by rw [HN.out];rfl,HB2⟩
  ·have:i=keys:=by omega
   subst this;have hN:=noneB_all bs i HA.out;have HN:=Bas.hid hN;clear hN;go_wp2_with (fail);go_ret;exact ⟨by rw [HN.out];rfl,hb⟩
def rowV(A:Option Addr)(s:Nat)(i:Nat):Value:=.slice (sub A (s*i) s) s s
def rowsV(A:Option Addr)(s n:Nat):List Value:=(List.range n).map (rowV A s)
theorem rowsV_succ(A:Option Addr)(s n:Nat):rowsV A s (n+1)=rowsV A s n++[rowV A s n]:=by
 unfold rowsV;rw [List.range_succ,List.map_append];rfl
theorem rowsV_len(A:Option Addr)(s n:Nat):(rowsV A s n).length=n:=by simp [rowsV]
def rowCount(bs:List Int)(p s n keys:Nat):Nat:=if 0<n∧noneB ((bs.drop (p+10+s*(n - 1))).take s) keys=true then n - 1 else n
def TakePost(w:World)(A:Option Addr)(s m:Nat)(e:Ending)(w':World):Prop:=
 ∃v,e=.returned v∧w'.ownsRow w.heap.size 190 1 v m (rowsV A s m)∧Below w.heap.size w w'
theorem infoV:(Tryz.prog.info? 190).map (fun i=>(i.zero,i.size,i.bytes))=some (some (.agg #[.slice none 0 0]),1,24):=by kernel_rfl
theorem owned_init{w:World}{base g cap s:Nat}{A:Option Addr}{i:Nat}(h:w.ownsRow base 190 1 (.slice (some ⟨g,0,none⟩) i cap) i (rowsV A s i))(_hi:0<i):
  w.ownsRow base 190 1 (.slice (some ⟨g,0,none⟩) (i - 1) cap) (i - 1) (rowsV A s (i - 1)):=by
 obtain ⟨hlen,⟨h0,_⟩|⟨g',cap',cur,he,hg,hh,hc,hm,hs,ht⟩⟩:=h
 ·cases h0
 ·cases he;refine ⟨by rw [rowsV_len];omega,.inr ⟨g,cap,cur,rfl,hg,hh,by omega,hm,hs, ?_⟩⟩
  have h2:(cur.toList.take (i*1)).take (i - 1)=(rowsV A s i).take (i - 1):=by rw [ht]
  rw [List.take_take,Nat.min_eq_left (by omega)] at h2
  rw [Nat.mul_one,h2];unfold rowsV;rw [←List.map_take,List.take_range,Nat.min_eq_left (by omega)]
theorem take_yes(a:Option Addr)(len cap:Nat)(bs:List Int)(p s n keys:Nat)(need:Int)(w:World)(hl:len≤cap)(hc:cap≤maxLen)(hv:VB w a bs)(hbl:bs.length=len)
  (h10:p+10≤len) (hs:be bs p 2=s) (hn:be bs (p+2) 2=n) (hneed:need≤s) (hk:2*keys≤s) (hrow:rowsB len ((p:Int)+10) n s):
  Calls Tryz.prog 212 #[.agg #[.slice a len cap],.int .i64 p,.int .i64 need,.int .i64 keys] w (TakePost w (sub a (p+10) (n*s)) s (rowCount bs p s n keys)):=by
 have hbs:=be2_bd bs hv.byte p (by omega)
 have hbn:=be2_bd bs hv.byte (p+2) (by omega)
 rw [hs] at hbs;rw [hn] at hbn;have hvl:=hv.len;have hlm:len≤9223372036854775807:=by unfold maxLen at hc;omega
 have hv0:VB (w.alloc (.cells #[.slice a len cap] 190)) a bs:=hv.below ((Below.refl _ _).alloc (Nat.le_refl _) _);generalize hW:w.alloc (.cells #[.slice a len cap] 190)=W at hv0;have hWs:W.heap.size=w.heap.size+1:=by rw [←hW];simp
 have cv:W.cell? ⟨w.heap.size,0,none⟩=some (.slice a len cap):=by rw [←hW];simp
 have HBW:Below w.heap.size w W:=by rw [←hW];exact (Below.refl w.heap.size w).alloc (Nat.le_refl _) _
 have HW:=Bas.hid hW;clear hW;obtain ⟨I,F,hI,HF⟩:=Bas.fam W.heap.size W;have hB0:W.heap.size≤W.heap.size:=Nat.le_refl _;have cvF:=fun i=>Bas.cell_fam HF (by omega) cv i
 have hst:=HF.1 _ ((Below.refl _ _).drew);have HST:=Bas.hid hst;have e2:((p:Int)+2)=((p+2:Nat):Int):=by omega
 have U1:=fun i=>u16_ok a len cap bs ((p:Nat):Int) (F i) hl hc (hv0.below (HF.2 i)) hbl (by omega) (by omega)
 have U2:=fun i=>u16_ok a len cap bs ((p+2:Nat):Int) (F i) hl hc (hv0.below (HF.2 i)) hbl (by omega) (by omega)
 simp only [Int.toNat_natCast] at U1 U2;simp only [hs] at U1;simp only [hn] at U2;rw [←e2] at U2;have HU1:=Bas.hid U1;have HU2:=Bas.hid U2;clear hst U1 U2 e2;go_enter Tryz.func212,Tryz.ntmps212
 go_wp2_with (fail);rw [HW.out];refine Bas.region_fam (by kernel_rfl) (by kernel_rfl) HST.out ?_
 repeat (go_big_quiet_step ((go_at_call 103;first|with_reducible exact Bas.call_fam HF hB0 (HU1.out _)|with_reducible exact Bas.call_fam HF hB0 (HU2.out _))))
 refine wpQuiet_nil ?_;intro i0;have hb1:=HF.2 i0;have c1:=cvF i0;generalize F i0=W1 at*;have HB1:Below w.heap.size w W1:=HBW.trans (hb1.mono HBW.size);have hz1:w.heap.size<W1.heap.size:=by have:=hb1.size;omega
 clear cvF HU1 HU2 HST HF hv0 cv;go_wp2_with (fail);refine (cut_ok a len cap (p:Int) 10 _ hl hc (by omega) (by omega) (by omega)).mono ?_
 rintro e w2 ⟨rfl,hb2⟩;have c2:=(hb2.cell (p:=⟨w.heap.size,0,none⟩) hz1).trans c1;have HB2:Below w.heap.size w w2:=HB1.trans (hb2.mono HB1.size);have hz2:w.heap.size<w2.heap.size:=Nat.lt_of_lt_of_le hz1 hb2.size;clear c1 hb1 hb2;go_wp2_with (fail);refine (need_yesb _ _ (by first|rfl|(simp;done)|(simp;omega))).mono ?_
 rintro e w' ⟨rfl,rfl⟩;go_wp2_with (fail);refine (rows_ok a len cap _ _ _ _ hl hc hrow).mono ?_;rintro e w3 ⟨rfl,hb3⟩;have c3:=(hb3.cell (p:=⟨w.heap.size,0,none⟩) hz2).trans c2;have HB3:Below w.heap.size w w3:=HB2.trans (hb3.mono HB2.size);have hz3:w.heap.size<w3.heap.size:=Nat.lt_of_lt_of_le hz2 hb3.size;clear c2 hb3;have ep:((p:Int)+10).toNat=p+10:=by omega
 have en:((n:Int)*(s:Int)).toNat=n*s:=by rw [←Int.natCast_mul,Int.toNat_natCast]
 rw [ep,en];have hns:n*s≤len:=by
  have:=hrow.2.2.2.2;rw [←Int.natCast_mul] at this;omega
 generalize hA:sub a (p+10) (n*s)=A;have HA:=Bas.hid hA;have HROW:=Bas.hid hrow;clear hA hrow ep en;go_wp2_with (fail);generalize hW3:w3.alloc (.cells #[.slice A (n*s) (n*s)] 190)=W3;have hz4:w3.heap.size<W3.heap.size:=by rw [←hW3];simp
 have c4:W3.cell? ⟨w3.heap.size,0,none⟩=some (.slice A (n*s) (n*s)):=by rw [←hW3];simp
 have HB4:Below w.heap.size w W3:=by rw [←hW3];exact HB3.alloc HB3.size _
 clear hW3 c3 HB3;go_loopw [12,35] (fun v c wr=>∃i:Nat,i≤n∧c=.int .i64 i∧wr.ownsRow W3.heap.size 190 1 v i (rowsV A s i)∧Below W3.heap.size W3 wr) (fun _ c _=>n - (intOf c).toNat)
 case atStart=>exact ⟨0,by omega,rfl,Row.owned_nil _ _ _ _,Below.refl _ _⟩
 case round=>
  obtain ⟨i,hi,rfl,hown,hb⟩:=hrel;have hbs2:=hb.size;have c5:=(hb.cell (p:=⟨w3.heap.size,0,none⟩) (by show w3.heap.size<_;omega)).trans c4
  by_cases hin:i<n
  ·have hsi:s*i+s≤n*s:=by
    have:=Nat.mul_le_mul_left s (show i+1≤n from hin)
    rw [Nat.mul_add,Nat.mul_one,Nat.mul_comm s n] at this;exact this
   have em:(s:Int)*(i:Int)=((s*i:Nat):Int):=by rw [Int.natCast_mul]
   have C:=cut_nat A (n*s) (n*s) (s*i) s wr (Nat.le_refl _) (by unfold maxLen;omega) hsi
   rw [←em] at C;have hm0:0≤(s:Int)*(i:Int):=by omega
   have hm1:(s:Int)*(i:Int)≤140737488355328:=by omega
   have HC:=Bas.hid C;have HS:=Bas.hid (rowsV_succ A s i);have HO:=Bas.hid hown;clear C em hsi hown;go_wp2_with (fail);refine HC.out.mono ?_;rintro e w5 ⟨rfl,hb5⟩;have d5:=Row.owned_below HO.out hb5;have HB5:Below W3.heap.size W3 w5:=hb.trans (hb5.mono hb.size);have hs5:=HB5.size;clear hb5 HC;go_wp2_with (at_builtin;refine Row.append_any rfl _ _ 461 190 rfl (.agg #[.slice none 0 0]) 1 24 Tryz.underlying461 infoV rfl (by decide) W3.heap.size _ i _ rfl (d5.alloc _) (.slice (some ⟨w5.heap.size,0,none⟩) 1 1) 1 [rowV A s i] rfl (Row.leads_one _ _ _) rfl (by simp;rfl) (by unfold maxLen;omega) (by omega) (by simp;omega) ?_)
   intro v' w' hown' hgrow _;have hown2:w'.ownsRow W3.heap.size 190 1 v' (i+1) (rowsV A s (i+1)):=by rw [HS.out];exact hown'
   have hb2:Below W3.heap.size W3 w':=(HB5.alloc hs5 _).grown hgrow (by simp;omega) (fun g hg=>by
    rcases Row.owned_parts d5 with ⟨rfl,_⟩|⟨g',cp,rfl,hg',_⟩
    ·cases hg
    ·cases hg;exact hg')
   clear hown' hgrow d5;go_wp2_with (fail);go_roundw
   case rel=>exact ⟨i+1,by omega,by go_num,hown2,hb2⟩
   case measure=>simp [intOf];omega
  ·have:i=n:=by omega
   subst this;have HBr:Below w.heap.size w wr:=HB4.trans (hb.mono HB4.size);have hbase:w.heap.size≤W3.heap.size:=HB4.size;have HCNT:Hid (rowCount bs p s i keys=if 0<i∧noneB ((bs.drop (p+10+s*(i - 1))).take s) keys=true then i - 1 else i):=rfl
   by_cases hi0:0<i
   ·have hvr:VB wr (sub A (s*(i - 1)) s) ((bs.drop (p+10+s*(i - 1))).take s):=by
     have h1:=(hv.below HBr).sub (p+10) (i*s) (by rw [hbl];have:=HROW.out.2.2.2.2;rw [←Int.natCast_mul] at this;omega)
     rw [HA.out] at h1;have hs1:s*(i - 1)+s=i*s:=by
      obtain ⟨m,rfl⟩:∃m,i=m+1:=⟨i - 1,by omega⟩
      rw [Nat.add_sub_cancel,Nat.add_mul,Nat.one_mul,Nat.mul_comm]
     have h2:=h1.sub (s*(i - 1)) s (by
      rw [List.length_take,List.length_drop,hbl];have:=HROW.out.2.2.2.2;rw [←Int.natCast_mul] at this;omega)
     rw [List.drop_take,List.take_take,List.drop_drop,Nat.min_eq_left (by omega)] at h2
     exact h2
    have hrl:((bs.drop (p+10+s*(i - 1))).take s).length=s:=by
     have hs1:s*(i - 1)+s=i*s:=by
      obtain ⟨m,rfl⟩:∃m,i=m+1:=⟨i - 1,by omega⟩
      rw [Nat.add_sub_cancel,Nat.add_mul,Nat.one_mul,Nat.mul_comm]
     rw [List.length_take,List.length_drop,hbl];have:=HROW.out.2.2.2.2;rw [←Int.natCast_mul] at this;omega
    have hsm:s≤maxLen:=by unfold maxLen;omega
    have NC:=none_any (sub A (s*(i - 1)) s) s s _ keys wr (Nat.le_refl _) hsm hvr hrl hk;generalize hnb:noneB ((bs.drop (p+10+s*(i - 1))).take s) keys=nb at NC HCNT;have HNC:=Bas.hid NC;have HO:=Bas.hid hown;rcases Row.owned_parts hown with ⟨_,h0,_⟩|⟨g,cg,rfl,hg,hgl,hgc,hgm,hcl,hfr⟩
    ·omega
    have cl:wr.cell? ⟨g,i - 1,none⟩=some (rowV A s (i - 1)):=hcl (i - 1) _ (by
     unfold rowsV;rw [List.getElem?_map,List.getElem?_range (by omega)];rfl)
    unfold rowV at cl;have ei:(i:Int) - 1=((i - 1:Nat):Int):=by omega
    have HEI:=Bas.hid ei;clear NC hnb hvr hrl hsm hcl hfr hown ei;go_wp2_with (fail);refine HNC.out.mono ?_;rintro e w6 ⟨rfl,hb6⟩;have HB6:Below w.heap.size w w6:=HBr.trans (hb6.mono HBr.size);have d6:=Row.owned_base (Row.owned_below HO.out hb6) hbase;have D6:=Bas.hid d6;clear HNC HO hb6 cl d6;cases nb with
    |true=>
     go_wp2_with (fail);go_ret;refine ⟨_,rfl, ?_,HB6⟩;rw [HCNT.out,if_pos ⟨hi0,trivial⟩,HA.out];have hT:=owned_init D6.out (by omega)
     simpa using hT
    |false=>
     go_wp2_with (fail);go_ret;refine ⟨_,rfl, ?_,HB6⟩;rw [HCNT.out,if_neg (by simp),HA.out]
     exact D6.out
   ·have hi00:i=0:=by omega
    subst hi00;go_wp2_with (fail);go_ret;exact ⟨_,rfl,by rw [HCNT.out,HA.out];simpa using Row.owned_base hown hbase,HBr⟩
theorem take_short(a:Option Addr)(len cap:Nat)(bs:List Int)(p s n keys:Nat)(need:Int)(w:World)(hl:len≤cap)(hc:cap≤maxLen)(hv:VB w a bs)(hbl:bs.length=len)
  (h4:p+4≤len) (hs:be bs p 2=s) (hn:be bs (p+2) 2=n) (hno:¬(p+10≤len∧need≤s∧rowsB len ((p:Int)+10) n s)):
  Calls Tryz.prog 212 #[.agg #[.slice a len cap],.int .i64 p,.int .i64 need,.int .i64 keys] w (fun e w'=>e=.panicked short∧Below w.heap.size w w'):=by
 have hbs:=be2_bd bs hv.byte p (by omega)
 have hbn:=be2_bd bs hv.byte (p+2) (by omega)
 rw [hs] at hbs;rw [hn] at hbn;have hvl:=hv.len;have hlm:len≤9223372036854775807:=by unfold maxLen at hc;omega
 have hv0:VB (w.alloc (.cells #[.slice a len cap] 190)) a bs:=hv.below ((Below.refl _ _).alloc (Nat.le_refl _) _);generalize hW:w.alloc (.cells #[.slice a len cap] 190)=W at hv0;have hWs:W.heap.size=w.heap.size+1:=by rw [←hW];simp
 have cv:W.cell? ⟨w.heap.size,0,none⟩=some (.slice a len cap):=by rw [←hW];simp
 have HBW:Below w.heap.size w W:=by rw [←hW];exact (Below.refl w.heap.size w).alloc (Nat.le_refl _) _
 have HW:=Bas.hid hW;clear hW;obtain ⟨I,F,hI,HF⟩:=Bas.fam W.heap.size W;have hB0:W.heap.size≤W.heap.size:=Nat.le_refl _;have cvF:=fun i=>Bas.cell_fam HF (by omega) cv i
 have hst:=HF.1 _ ((Below.refl _ _).drew);have HST:=Bas.hid hst;have e2:((p:Int)+2)=((p+2:Nat):Int):=by omega
 have U1:=fun i=>u16_ok a len cap bs ((p:Nat):Int) (F i) hl hc (hv0.below (HF.2 i)) hbl (by omega) (by omega)
 have U2:=fun i=>u16_ok a len cap bs ((p+2:Nat):Int) (F i) hl hc (hv0.below (HF.2 i)) hbl (by omega) (by omega)
 simp only [Int.toNat_natCast] at U1 U2;simp only [hs] at U1;simp only [hn] at U2;rw [←e2] at U2;have HU1:=Bas.hid U1;have HU2:=Bas.hid U2;clear hst U1 U2 e2;go_enter Tryz.func212,Tryz.ntmps212
 go_wp2_with (fail);rw [HW.out];refine Bas.region_fam (by kernel_rfl) (by kernel_rfl) HST.out ?_
 repeat (go_big_quiet_step ((go_at_call 103;first|with_reducible exact Bas.call_fam HF hB0 (HU1.out _)|with_reducible exact Bas.call_fam HF hB0 (HU2.out _))))
 refine wpQuiet_nil ?_;intro i0;have hb1:=HF.2 i0;have c1:=cvF i0;generalize F i0=W1 at*;have HB1:Below w.heap.size w W1:=HBW.trans (hb1.mono HBW.size);have hz1:w.heap.size<W1.heap.size:=by have:=hb1.size;omega
 clear cvF HU1 HU2 HST HF hv0 cv;go_wp2_with (fail);have HNO:=Bas.hid hno;clear hno;by_cases h10:p+10≤len
 ·refine (cut_ok a len cap (p:Int) 10 _ hl hc (by omega) (by omega) (by omega)).mono ?_
  rintro e w2 ⟨rfl,hb2⟩;have c2:=(hb2.cell (p:=⟨w.heap.size,0,none⟩) hz1).trans c1;have HB2:Below w.heap.size w w2:=HB1.trans (hb2.mono HB1.size);clear c1 hb1 hb2;by_cases hneed:need≤s
  ·go_wp2_with (fail);refine (need_yesb _ _ (by first|rfl|(simp;done)|(simp;omega))).mono ?_
   rintro e w' ⟨rfl,rfl⟩;go_wp2_with (fail);refine (rows_no a len cap _ _ _ _ hl hc (fun h=>HNO.out ⟨h10,hneed,h⟩)).mono ?_
   rintro e w3 ⟨rfl,hb3⟩;go_wp2_with (fail);exact ⟨rfl,rfl,HB2.trans (hb3.mono HB2.size)⟩
  ·go_wp2_with (fail);refine (need_nob _ _ (by first|(simp;done)|(simp;omega))).mono ?_
   rintro e w' ⟨rfl,rfl⟩;go_wp2_with (fail);exact ⟨rfl,rfl,HB2⟩
 ·refine (cut_no a len cap (p:Int) 10 _ hl hc (by omega)).mono ?_
  rintro e w2 ⟨rfl,hb2⟩;go_wp2_with (fail);exact ⟨rfl,rfl,HB1.trans (hb2.mono HB1.size)⟩
theorem take_out(a:Option Addr)(len cap:Nat)(bs:List Int)(at':Int)(keys need:Int)(w:World)(hl:len≤cap)(hc:cap≤maxLen)(hv:VB w a bs)(hbl:bs.length=len)
  (hno:¬(0≤at'∧at'+4≤len)):
  Calls Tryz.prog 212 #[.agg #[.slice a len cap],.int .i64 at',.int .i64 need,.int .i64 keys] w (fun e w'=>e=.panicked short∧Below w.heap.size w w'):=by
 have hlm:len≤9223372036854775807:=by unfold maxLen at hc;omega
 have hv0:VB (w.alloc (.cells #[.slice a len cap] 190)) a bs:=hv.below ((Below.refl _ _).alloc (Nat.le_refl _) _);generalize hW:w.alloc (.cells #[.slice a len cap] 190)=W at hv0;have cv:W.cell? ⟨w.heap.size,0,none⟩=some (.slice a len cap):=by rw [←hW];simp
 have hWs:W.heap.size=w.heap.size+1:=by rw [←hW];simp
 have HBW:Below w.heap.size w W:=by rw [←hW];exact (Below.refl w.heap.size w).alloc (Nat.le_refl _) _
 have HW:=Bas.hid hW;clear hW;obtain ⟨I,F,hI,HF⟩:=Bas.fam W.heap.size W;have hB0:W.heap.size≤W.heap.size:=Nat.le_refl _;have cvF:=fun i=>Bas.cell_fam HF (by omega) cv i
 have hst:=HF.1 _ ((Below.refl _ _).drew);have HST:=Bas.hid hst;clear hst;go_enter Tryz.func212,Tryz.ntmps212
 go_wp2_with (fail);rw [HW.out];by_cases f1:0≤at'∧at'+2≤len
 ·have e2:at'+2≤9223372036854775807:=by omega
  have HU:=Bas.hid (fun i=>u16_ok a len cap bs at' (F i) hl hc (hv0.below (HF.2 i)) hbl f1.1 f1.2)
  refine Ord.region_halt (fun ch w'=>ch=short∧Below W.heap.size W w') [true,true,true,true,true,true,false,false,false] 6 _ rfl (by kernel_rfl) (by kernel_rfl) HST.out ?_ ?_
  ·rintro ch a' w' hd ⟨rfl,hz⟩;exact ⟨hd,rfl,HBW.trans (hz.mono HBW.size)⟩
  ·simp only [Ord.pick];repeat (go_big_quiet_step ((go_at_call 103;with_reducible exact Bas.call_fam HF hB0 (HU.out _))))
   refine wpQuiet_nil ?_;refine ⟨rfl, ?_⟩;unfold Ord.haltsIn;rintro w' ⟨i,rfl⟩
   go_simp
   simp only [Ord.haltUpon,true_and];refine (u16_no _ _ _ _ _ hl hc (by omega)).mono ?_
   rintro e w'' ⟨he,hb⟩;exact ⟨short,he,rfl,by rw [←hWs];exact (HF.2 i).trans (hb.mono (HF.2 i).size)⟩
 ·refine Ord.region_halt (fun ch w'=>ch=short∧Below W.heap.size W w') [true,true,false,true,true,true,false,false,false] 2 _ rfl (by kernel_rfl) (by kernel_rfl) HST.out ?_ ?_
  ·rintro ch a' w' hd ⟨rfl,hz⟩;exact ⟨hd,rfl,HBW.trans (hz.mono HBW.size)⟩
  ·simp only [Ord.pick];repeat (go_big_quiet_step (fail))
   refine wpQuiet_nil ?_;refine ⟨rfl, ?_⟩;unfold Ord.haltsIn;rintro w' ⟨i,rfl⟩
   go_simp
   simp only [Ord.haltUpon,true_and];refine (u16_no _ _ _ _ _ hl hc f1).mono ?_;rintro e w'' ⟨he,hb⟩;exact ⟨short,he,rfl,by rw [←hWs];exact (HF.2 i).trans (hb.mono (HF.2 i).size)⟩
def takeB(len:Nat)(bs:List Int)(at' need:Int):Prop:=
 0≤at'∧at'+10≤len∧need≤be bs at'.toNat 2∧rowsB len (at'+10) (be bs (at'.toNat+2) 2) (be bs at'.toNat 2)
theorem take_no(a:Option Addr)(len cap:Nat)(bs:List Int)(at' need:Int)(k:Nat)(w:World)(hl:len≤cap)(hc:cap≤maxLen)(hv:VB w a bs)(hbl:bs.length=len)(hno:¬takeB len bs at' need):
  Calls Tryz.prog 212 #[.agg #[.slice a len cap],.int .i64 at',.int .i64 need,.int .i64 k] w (fun e w'=>e=.panicked short∧Below w.heap.size w w'):=by
 by_cases h:0≤at'∧at'+4≤len
 ·obtain ⟨p,rfl⟩:=Int.eq_ofNat_of_zero_le h.1;have hbs:=be2_bd bs hv.byte p (by omega)
  have hbn:=be2_bd bs hv.byte (p+2) (by omega)
  have hs:be bs p 2=((be bs p 2).toNat:Int):=by omega
  have hn:be bs (p+2) 2=((be bs (p+2) 2).toNat:Int):=by omega
  refine take_short a len cap bs p _ _ k need w hl hc hv hbl (by omega) hs hn ?_
  rintro ⟨h1,h2,h3⟩;rw [←hs,←hn] at h3;rw [←hs] at h2;exact hno ⟨h.1,by omega,by simpa using h2,by simpa using h3⟩
 ·exact take_out a len cap bs at' _ need w hl hc hv hbl h
def rowB(bs:List Int)(p s i:Nat):List Int:=(bs.drop (p+10+s*i)).take s
theorem row_vb{w:World}{a:Option Addr}{bs:List Int}{p s n:Nat}(hv:VB w a bs)(h:p+10+n*s≤bs.length)(i:Nat)(hi:i<n):
  VB w (sub (sub a (p+10) (n*s)) (s*i) s) (rowB bs p s i)∧(rowB bs p s i).length=s:=by
 have hsi:s*i+s≤n*s:=by
  have:=Nat.mul_le_mul_left s (show i+1≤n from hi)
  rw [Nat.mul_add,Nat.mul_one,Nat.mul_comm s n] at this;exact this
 have h1:=hv.sub (p+10) (n*s) h;have h2:=h1.sub (s*i) s (by rw [List.length_take,List.length_drop];omega)
 rw [List.drop_take,List.take_take,List.drop_drop,Nat.min_eq_left (by omega)] at h2
 exact ⟨h2,by unfold rowB;rw [List.length_take,List.length_drop];omega⟩
end Sk
namespace Ref01
open Vw
theorem in_yes(size at' n:Int)(w:World)(hs:size≤9223372036854775807)(h0:0≤at')(h1:0≤n)(h2:at'+n≤size):
  Calls Tryz.prog 41 #[.int .i64 size,.int .i64 at',.int .i64 n] w fun e w'=>e=.returned (.bool true)∧w=w':=by
 have h3:n≤size - at':=by omega
 go_enter Tryz.func41,Tryz.ntmps41
 go_wp2;go_ret;exact ⟨by first|rfl|(simp;done)|(simp;omega),rfl⟩
theorem in_no(size at' n:Int)(w:World)(hs0:0≤size)(hs:size≤9223372036854775807)(h:¬(0≤at'∧0≤n∧at'+n≤size)):
  Calls Tryz.prog 41 #[.int .i64 size,.int .i64 at',.int .i64 n] w fun e w'=>e=.returned (.bool false)∧w=w':=by
 rcases (by omega:at'<0∨(0≤at'∧n<0)∨(0≤at'∧0≤n∧size<at')∨(0≤at'∧0≤n∧at'≤size∧size - at'<n)) with h'|⟨h',h''⟩|⟨h',h'',h3⟩|⟨h',h'',h3,h4⟩
 all_goals
  clear h;go_enter Tryz.func41,Tryz.ntmps41
  go_wp2;go_ret;exact ⟨by first|rfl|(simp;done)|(simp;omega),rfl⟩
theorem num_snoc(l:List Int)(b:Int):num (l++[b])=256*num l+b:=by simp [num]
theorem num_bd_aux:∀(n:Nat) (l:List Int),l.length=n→(∀x∈l,0≤x∧x≤255)→0≤num l∧num l<256^n
 |0,l,hl,_=>by
  have:l=[]:=List.length_eq_zero_iff.1 hl;subst this;simp [num]
 |n+1,l,hl,hb=>by
  rcases List.eq_nil_or_concat l with rfl|⟨l',b,rfl⟩
  ·simp at hl
  ·have h1:=num_bd_aux n l' (by simpa using hl) (fun x hx=>hb x (by simp [hx]))
   have h2:=hb b (by simp)
   rw [List.concat_eq_append,num_snoc,Int.pow_succ];omega
theorem num_bd(l:List Int)(hb:∀x∈l,0≤x∧x≤255):0≤num l∧num l<256^l.length:=num_bd_aux _ l rfl hb
theorem be_succ(bs:List Int)(p k:Nat)(h:p+k<bs.length):be bs p (k+1)=256*be bs p k+bs.getD (p+k) 0:=by
 unfold be;rw [List.take_add_one,←num_snoc]
 congr 2
 rw [List.getElem?_drop,List.getD_eq_getElem?_getD,List.getElem?_eq_getElem h];rfl
theorem be_bd(bs:List Int)(hb:∀x∈bs,0≤x∧x≤255)(p k:Nat)(hk:k≤4):0≤be bs p k∧be bs p k<4294967296:=by
 have h:=num_bd ((bs.drop p).take k) (fun x hx=>hb x (List.mem_of_mem_drop (List.mem_of_mem_take hx)))
 have hl:((bs.drop p).take k).length≤k:=List.length_take_le _ _;have h2:(256:Nat)^((bs.drop p).take k).length≤256^4:=Nat.pow_le_pow_right (by omega) (by omega)
 have h3:(256:Int)^((bs.drop p).take k).length=((256^((bs.drop p).take k).length:Nat):Int):=by simp
 exact ⟨h.1,by unfold be;omega⟩
theorem u_ok(a:Option Addr)(len cap:Nat)(bs:List Int)(at':Int)(n:Nat)(w:World)(hlm:len≤140737488355328)(hv:VB w a bs)(hbl:bs.length=len)(hn:n≤4)(h0:0≤at')(h2:at'+n≤len):
  Calls Tryz.prog 34 #[.slice a len cap,.int .i64 at',.int .i64 n] w fun e w'=>e=.returned (.int .i64 (be bs at'.toNat n))∧w=w':=by
 obtain ⟨p,rfl⟩:=Int.eq_ofNat_of_zero_le h0;rw [Int.toNat_natCast];have hbd:=fun k hk=>be_bd bs hv.byte p k hk
 have hcell:=hv.cell;have hsucc:=be_succ bs p;have hbyte:=fun i=>getD_byte hv.byte i
 have HBD:=Bas.hid hbd;have HC:=Bas.hid hcell;have HS:=Bas.hid hsucc;have HY:=Bas.hid hbyte;clear hbd hcell hsucc hbyte hv;go_enter Tryz.func34,Tryz.ntmps34
 go_wp2_with (go_at_call 41;refine (in_yes _ _ _ _ (by omega) (by omega) (by omega) (by omega)).mono ?_;rintro e w' ⟨rfl,rfl⟩)
 go_loop [7,8] (fun v i=>∃k:Nat,k≤n∧i=.int .i64 k∧v=.int .i64 (be bs p k)) (fun _ i=>n - (intOf i).toNat)
 case atStart=>exact ⟨0,by omega,rfl,by simp [be,num]⟩
 case round=>
  obtain ⟨k,hk,rfl,rfl⟩:=hrel;by_cases hkn:k<n
  ·obtain ⟨b,o,rfl,hc⟩:=HC.out (p+k) (by omega)
   have hb1:=HBD.out k (by omega)
   have hs1:=HS.out k (by omega)
   have hy1:=HY.out (p+k);generalize bs.getD (p+k) 0=y at hc hs1 hy1;generalize be bs p k=x at hb1 hs1 ⊢;obtain ⟨y1,y2⟩:=hy1;obtain ⟨x1,x2⟩:=hb1;have HS1:=Bas.hid hs1;clear hs1;go_wp2;go_round
   case rel=>exact ⟨k+1,by omega,by go_num,by rw [HS1.out]⟩
   case measure=>simp [intOf];omega
  ·have hkk:k=n:=by omega
   subst hkk;go_wp2;go_ret;exact ⟨rfl,rfl⟩
theorem u_no(a:Option Addr)(len cap:Nat)(at' n:Int)(w:World)(hlm:len≤140737488355328)(h:¬(0≤at'∧0≤n∧at'+n≤len)):
  Calls Tryz.prog 34 #[.slice a len cap,.int .i64 at',.int .i64 n] w fun e w'=>e=.returned (.int .i64 (-1))∧w=w':=by
 go_enter Tryz.func34,Tryz.ntmps34
 go_wp2_with (go_at_call 41;refine (in_no _ _ _ _ (by omega) (by omega) (by omega)).mono ?_;rintro e w' ⟨rfl,rfl⟩)
 go_ret;exact ⟨rfl,rfl⟩
def uval(bs:List Int)(at':Int)(n:Nat):Int:=if 0≤at'∧at'+n≤bs.length then be bs at'.toNat n else -1
theorem u_any(a:Option Addr)(len cap:Nat)(bs:List Int)(at':Int)(n:Nat)(m:Int)(hm:m=n)(w:World)(hlm:len≤140737488355328)(hv:VB w a bs)(hbl:bs.length=len)(hn:n≤4):
  Calls Tryz.prog 34 #[.slice a len cap,.int .i64 at',.int .i64 m] w fun e w'=>e=.returned (.int .i64 (uval bs at' n))∧w=w':=by
 subst hm;unfold uval;rw [hbl];by_cases f:0≤at'∧at'+n≤len
 ·rw [if_pos f];exact u_ok a len cap bs at' n w hlm hv hbl hn f.1 f.2
 ·rw [if_neg f];exact u_no a len cap at' n w hlm (by omega)
theorem s16_any(x:Int)(w:World)(h0:-1≤x)(h1:x≤4294967295):
  Calls Tryz.prog 35 #[.int .i64 x] w fun e w'=>e=.returned (.int .i64 (s16 x))∧w=w':=by
 by_cases h:32768≤x
 all_goals
  go_enter Tryz.func35,Tryz.ntmps35
  go_wp2;go_ret;exact ⟨by simp [s16];omega,rfl⟩
end Ref01
namespace Lk
open Vw Sk Ch
structure PartD where
 first:Int
 last:Int
 vals:List Int
def listL(bs:List Int)(at' n size:Nat):Option (List Int):=
 if at'+size*n≤bs.length then some ((List.range n).map fun i=>be bs (at'+size*i) size) else none
def trimL(bs:List Int)(at' size:Nat):Option (List PartD):=
 if at'+4≤bs.length∧be bs at' 2+be bs (at'+2) 2≤65536 then
  (listL bs (at'+4) (be bs (at'+2) 2).toNat size).map fun vs=>if be bs (at'+2) 2=0 then [] else [⟨be bs at' 2,be bs at' 2+be bs (at'+2) 2 - 1,vs⟩]
 else none
def segOne(bs:List Int)(each:Bool)(size:Nat)(rb:List Int):Option PartD:=
 if be rb 2 2≤be rb 0 2 then
  if each=true then (listL bs (be rb 4 2).toNat (be rb 0 2 - be rb 2 2+1).toNat size).map fun vs=>⟨be rb 2 2,be rb 0 2,vs⟩
  else some ⟨be rb 2 2,be rb 0 2,[be rb 4 size]⟩
 else none
def partsUp(f:Nat→Option PartD):Nat→Nat→Option (List PartD)
 |0,_=>some []
 |k+1,i=>(f i).bind fun p=>(partsUp f k (i+1)).map (p::·)
def seekOk(bs:List Int)(need:Int):Prop:=12≤bs.length∧need≤be bs 2 2∧12+be bs 2 2*be bs 4 2≤bs.length
instance (bs:List Int) (need:Int):Decidable (seekOk bs need):=inferInstanceAs (Decidable (_∧_∧_))
def needOf(each:Bool)(size:Nat):Int:=if each=true then 6 else 4+size
def segsL(bs:List Int)(each:Bool)(size:Nat):Option (List PartD):=
 if seekOk bs (needOf each size) then partsUp (fun i=>segOne bs each size (rowB bs 2 (be bs 2 2).toNat i)) (rowCount bs 2 (be bs 2 2).toNat (be bs 4 2).toNat 2) 0 else none
def singOne(size:Nat)(rb:List Int):PartD:=⟨be rb 0 2,be rb 0 2,[be rb 2 size]⟩
def singL(bs:List Int)(size:Nat):Option (List PartD):=
 if seekOk bs (2+size) then some ((List.range (rowCount bs 2 (be bs 2 2).toNat (be bs 4 2).toNat 1)).map fun i=>singOne size (rowB bs 2 (be bs 2 2).toNat i)) else none
def formL(bs:List Int)(glyphs size:Nat):Option (List PartD):=
 if be bs 0 2=0 then (listL bs 2 glyphs size).map fun vs=>[⟨0,(glyphs:Int) - 1,vs⟩]
 else if be bs 0 2=2 then segsL bs false size
 else if be bs 0 2=4 then segsL bs true size
 else if be bs 0 2=6 then singL bs size
 else if be bs 0 2=8 then trimL bs 2 size
 else if be bs 0 2=10 then (if 4≤bs.length∧(be bs 2 2=1∨be bs 2 2=2∨be bs 2 2=4) then trimL bs 4 (be bs 2 2).toNat else none)
 else none
def rises:List PartD→Bool
 |[]=>true
 |[_]=>true
 |p::q::l=>decide (p.last<q.first)&&rises (q::l)
def parseLk(bs:List Int)(glyphs size:Nat):Option (List PartD):=
 if 2≤bs.length then (formL bs glyphs size).bind fun ps=>if rises ps=true then some ps else none else none
def pnum(p:PartD)(id:Int):Int:=p.vals.getD (min (id - p.first) ((p.vals.length:Int) - 1)).toNat 0
structure PartOk (p:PartD):Prop where
 le:p.first≤p.last
 first0:0≤p.first
 last1:p.last≤131072
 some:0<p.vals.length
 len:p.vals.length≤131072
 vals:∀x∈p.vals,0≤x∧x≤4294967295
theorem be_rng{bs:List Int}(hb:∀x∈bs,0≤x∧x≤255)(p k:Nat):0≤be bs p k∧be bs p k<256^k:=by
 have h:=Ref01.num_bd ((bs.drop p).take k) (fun x hx=>hb x (List.mem_of_mem_drop (List.mem_of_mem_take hx)))
 have hl:((bs.drop p).take k).length≤k:=List.length_take_le _ _;have h2:(256:Nat)^((bs.drop p).take k).length≤256^k:=Nat.pow_le_pow_right (by omega) hl
 have h3:(256:Int)^((bs.drop p).take k).length=((256^((bs.drop p).take k).length:Nat):Int):=by simp
 have h4:(256:Int)^k=((256^k:Nat):Int):=by simp
 exact ⟨h.1,by unfold be;omega⟩
theorem be_rng2{bs:List Int}(hb:∀x∈bs,0≤x∧x≤255)(p:Nat):0≤be bs p 2∧be bs p 2≤65535:=by
 have:=be_rng hb p 2;omega
theorem be_rng4{bs:List Int}(hb:∀x∈bs,0≤x∧x≤255)(p k:Nat)(hk:k≤4):0≤be bs p k∧be bs p k≤4294967295:=by
 have:=Ref01.be_bd bs hb p k hk;omega
theorem own_cap{w:World}{base size:Nat}{e:TypeId}{a:Option Addr}{n m c:Nat}{xs:List Value}(h:w.ownsRow base e size (.slice a m c) n xs):m=n∧n≤c∧c≤maxLen:=by
 rcases Row.owned_parts h with ⟨h1,h2,_⟩|⟨g,cap,h1,_,_,h2,h3,_⟩
 ·cases h1;subst h2;exact ⟨rfl,Nat.le_refl _,Nat.zero_le _⟩
 ·cases h1;exact ⟨rfl,h2,h3⟩
def prC(x:PartD×Value):List Value:=[.int .i64 x.1.first,.int .i64 x.1.last,x.2]
theorem prC_len(x:PartD×Value):(prC x).length=3:=rfl
structure PRow (w:World) (base:Nat) (v:Value) (ps:List PartD) (vs:List Value):Prop where
 len:vs.length=ps.length
 own:w.ownsRow base 400 3 v ps.length ((ps.zip vs).flatMap prC)
 vals:∀(i:Nat) (p:PartD) (u:Value),ps[i]? =some p→vs[i]? =some u→w.ownsRow base 3 1 u p.vals.length (p.vals.map (Value.int .i64))
theorem pRow_nil(w:World)(base:Nat):PRow w base (.slice none 0 0) [] []:=⟨rfl,Row.owned_nil _ _ _ _,fun i f s h=>by simp at h⟩
theorem pRow_below{w w':World}{base:Nat}{v:Value}{ps:List PartD}{vs:List Value}(h:PRow w base v ps vs)(hb:Below w.heap.size w w'):PRow w' base v ps vs:=
 ⟨h.len,Row.owned_below h.own hb,fun i p u hp hu=>Row.owned_below (h.vals i p u hp hu) hb⟩
theorem pRow_base{w:World}{base base':Nat}{v:Value}{ps:List PartD}{vs:List Value}(h:PRow w base v ps vs)(hb:base'≤base):PRow w base' v ps vs:=
 ⟨h.len,Row.owned_base h.own hb,fun i p u hp hu=>Row.owned_base (h.vals i p u hp hu) hb⟩
theorem pRow_snoc{w w':World}{base:Nat}{v v':Value}{ps:List PartD}{vs:List Value}{p:PartD}{u:Value}(h:PRow w base v ps vs)
  (hown:w'.ownsRow base 400 3 v' (ps.length+1) ((ps.zip vs).flatMap prC++[.int .i64 p.first,.int .i64 p.last,u]))
  (hk:∀(e:TypeId) (size n:Nat) (u:Value) (xs:List Value),e≠400→w.ownsRow base e size u n xs→w'.ownsRow base e size u n xs)
  (h1:w'.ownsRow base 3 1 u p.vals.length (p.vals.map (Value.int .i64))):PRow w' base v' (ps++[p]) (vs++[u]):=by
 refine ⟨by simp [h.len], ?_,fun i p' u' hp hu=> ?_⟩
 ·rw [List.length_append,List.zip_append h.len.symm,List.flatMap_append];simpa [prC] using hown
 ·by_cases hi:i<ps.length
  ·rw [List.getElem?_append_left hi] at hp;rw [List.getElem?_append_left (by rw [h.len];exact hi)] at hu
   exact hk _ _ _ _ _ (by decide) (h.vals i p' u' hp hu)
  ·have hi2:i=ps.length:=by
    have:=(List.getElem?_eq_some_iff.1 hp).1;simp at this;omega
   subst hi2;rw [List.getElem?_append_right (by omega)] at hp
   rw [List.getElem?_append_right (by have:=h.len;omega)] at hu
   simp [h.len] at hp hu;subst hp hu;exact h1
def LkAt(w:World)(v:Value)(ps:List PartD):Prop:=
 ∃g fmt vp vs,v=.pointer (some ⟨g,0,none⟩)∧w.heap[g]? =some (.cells #[.int .i64 fmt,vp] 397 (0,0))∧vs.length=ps.length∧Row.Leads w vp ps.length ((ps.zip vs).flatMap prC)∧
  ∀(i:Nat) (p:PartD) (u:Value),ps[i]? =some p→vs[i]? =some u→Row.Leads w u p.vals.length (p.vals.map (Value.int .i64))
theorem LkAt.below{w w':World}{v:Value}{ps:List PartD}(h:LkAt w v ps)(hb:Below w.heap.size w w'):LkAt w' v ps:=by
 obtain ⟨g,fmt,vp,vs,h1,h2,h3,h4,h5⟩:=h;exact ⟨g,fmt,vp,vs,h1,(hb.block _ (heap_lt h2)).trans h2,h3,Row.leads_below h4 hb,fun i p u hp hu=>Row.leads_below (h5 i p u hp hu) hb⟩
def Lives(a:Nat)(P:World→Prop)(w:World):Prop:=∀u:World,(∀k,a≤k→k<w.heap.size→u.heap[k]? =w.heap[k]?)→P u
theorem Lives.now{a:Nat}{P:World→Prop}{w:World}(h:Lives a P w):P w:=h w (fun _ _ _=>rfl)
theorem Lives.below{a:Nat}{P:World→Prop}{w w':World}(h:Lives a P w)(hb:Below w.heap.size w w'):Lives a P w':=
 fun u hu=>h u fun k h1 h2=>(hu k h1 (Nat.lt_of_lt_of_le h2 hb.size)).trans (hb.block k h2)
theorem Lives.mono{a a':Nat}{P:World→Prop}{w:World}(h:Lives a P w)(ha:a'≤a):Lives a' P w:=fun u hu=>h u fun k h1 h2=>hu k (Nat.le_trans ha h1) h2
theorem Lives.imp{a:Nat}{P Q:World→Prop}{w:World}(h:Lives a P w)(hi:∀u,P u→Q u):Lives a Q w:=fun u hu=>hi u (h u hu)
theorem lives_heap{a g:Nat}{o:Obj}{w:World}(h:w.heap[g]? =some o)(ha:a≤g):Lives a (fun u=>u.heap[g]? =some o) w:=fun _ hu=>(hu g ha (heap_lt h)).trans h
theorem lives_own{a base size n:Nat}{e:TypeId}{v:Value}{xs:List Value}{w:World}(h:w.ownsRow base e size v n xs)(ha:a≤base):Lives a (fun u=>u.ownsRow base e size v n xs) w:=
 fun _ hu=>Row.owned_keep h fun g hg=>hu g (Nat.le_trans ha (Row.own_block h hg).1) (Row.own_block h hg).2
theorem lives_prow{a base:Nat}{v:Value}{ps:List PartD}{vs:List Value}{w:World}(h:PRow w base v ps vs)(ha:a≤base):Lives a (fun u=>PRow u base v ps vs) w:=
 fun u hu=>⟨h.len,lives_own h.own ha u hu,fun i p x hp hx=>lives_own (h.vals i p x hp hx) ha u hu⟩
end Lk
namespace St
open Vw Sk Ch Lk
structure EntD where
 next:Int
 flags:Int
 a:Int
 b:Int
structure MachD where
 classes:Nat
 parts:List PartD
 rows:List (List Int)
 ents:List EntD
def enC(e:EntD):List Value:=[.int .i64 e.next,.int .i64 e.flags,.int .i64 e.a,.int .i64 e.b]
def MachAt(w:World)(v:Value)(M:MachD):Prop:=
 ∃g vt vr ve us,v=.pointer (some ⟨g,0,none⟩)∧w.heap[g]? =some (.cells #[.int .i64 M.classes,vt,vr,ve] 479 (0,0))∧LkAt w vt M.parts∧us.length=M.rows.length∧Row.Leads w vr M.rows.length us∧
  (∀(i:Nat) (r:List Int) (u:Value),M.rows[i]? =some r→us[i]? =some u→Row.Leads w u r.length (r.map (Value.int .i64)))∧Row.Leads w ve M.ents.length (M.ents.flatMap enC)
theorem MachAt.below{w w':World}{v:Value}{M:MachD}(h:MachAt w v M)(hb:Below w.heap.size w w'):MachAt w' v M:=by
 obtain ⟨g,vt,vr,ve,us,h1,h2,h3,h4,h5,h6,h7⟩:=h;exact ⟨g,vt,vr,ve,us,h1,(hb.block _ (heap_lt h2)).trans h2,h3.below hb,h4,Row.leads_below h5 hb,fun i r u hr hu=>Row.leads_below (h6 i r u hr hu) hb,Row.leads_below h7 hb⟩
end St
namespace Lk
open Vw Sk Ch
theorem infoI6:(Tryz.prog.info? 3).map (fun i=>(i.zero,i.size,i.bytes))=some (some (.int .i64 0),1,8):=by kernel_rfl
theorem number_any(a:Option Addr)(len cap:Nat)(bs:List Int)(p size:Nat)(w:World)(hl:len≤cap)(hc:cap≤maxLen)(hv:VB w a bs)(hbl:bs.length=len)(hs:size=1∨size=2∨size=4)(h:p+size≤len):
  Calls Tryz.prog 211 #[.agg #[.slice a len cap],.int .i64 p,.int .i64 size] w fun e w'=>e=.returned (.int .i64 (be bs p size))∧Below w.heap.size w w':=by
 have hb0:=(Below.refl w.heap.size w).alloc (Nat.le_refl _) (.cells #[.slice a len cap] 190);have HB:=Bas.hid hb0;have hv1:=hv.below hb0;rcases hs with rfl|rfl|rfl
 ·have U:=u8_ok a len cap bs (p:Int) _ hl hc hv1 hbl (by omega) (by omega)
  rw [Int.toNat_natCast] at U;have HU:=Bas.hid U;clear hb0 hv1 U hv;go_enter Tryz.func211,Tryz.ntmps211
  go_wp2_with (fail);refine HU.out.mono ?_;rintro e w1 ⟨rfl,hb1⟩;have HB1:=Bas.hid (HB.out.trans (hb1.mono HB.out.size));clear hb1 HU;go_wp2_with (fail);go_ret;exact ⟨rfl,HB1.out⟩
 ·have U:=u16_ok a len cap bs (p:Int) _ hl hc hv1 hbl (by omega) (by omega)
  rw [Int.toNat_natCast] at U;have HU:=Bas.hid U;clear hb0 hv1 U hv;go_enter Tryz.func211,Tryz.ntmps211
  go_wp2_with (fail);refine HU.out.mono ?_;rintro e w1 ⟨rfl,hb1⟩;have HB1:=Bas.hid (HB.out.trans (hb1.mono HB.out.size));clear hb1 HU;go_wp2_with (fail);go_ret;exact ⟨rfl,HB1.out⟩
 ·have U:=u32_ok a len cap bs (p:Int) _ hl hc hv1 hbl (by omega) (by omega)
  rw [Int.toNat_natCast] at U;have HU:=Bas.hid U;clear hb0 hv1 U hv;go_enter Tryz.func211,Tryz.ntmps211
  go_wp2_with (fail);refine HU.out.mono ?_;rintro e w1 ⟨rfl,hb1⟩;have HB1:=Bas.hid (HB.out.trans (hb1.mono HB.out.size));clear hb1 HU;go_wp2_with (fail);go_ret;exact ⟨rfl,HB1.out⟩
theorem own_put{w:World}{base g n cp:Nat}{e:TypeId}{xs:List Value}(h:w.ownsRow base e 1 (.slice (some ⟨g,0,none⟩) n cp) n xs)(i:Nat)(v:Value):(w.setCell ⟨g,i,none⟩ v).ownsRow base e 1 (.slice (some ⟨g,0,none⟩) n cp) n (xs.set i v):=by
 obtain ⟨h1,⟨h2,_⟩|⟨g',cap,cur,hv,hb,hh,hc,hx,hs,ht⟩⟩:=h
 ·cases h2
 ·cases hv;have q1:=heap_set (i:=i) hh v;refine ⟨by simpa using h1,.inr ⟨g,cp,_,rfl,hb,q1,hc,hx,by simpa using hs, ?_⟩⟩
  rw [←ht];simp [List.take_set]
theorem own_at{w:World}{base g n cp:Nat}{e:TypeId}{xs:List Value}(h:w.ownsRow base e 1 (.slice (some ⟨g,0,none⟩) n cp) n xs)(i:Nat)(hi:i<n):base≤g∧g<w.heap.size∧xs.length=n∧(∃v,xs[i]? =some v∧w.cell? ⟨g,i,none⟩=some v)∧w.frozen? ⟨g,i,none⟩=false:=by
 have hln:xs.length=n:=by simpa using h.1
 rcases Row.owned_parts h with ⟨h0,_⟩|⟨g',cp',hv,hb,hl,hc,hm,hcl,hfr⟩
 ·cases h0
 ·cases hv;obtain ⟨v,hv⟩:∃v,xs[i]? =some v:=⟨_,List.getElem?_eq_getElem (by omega)⟩
  obtain ⟨_,⟨h2,_⟩|⟨g',cap,cur,hv2,_,hh,_⟩⟩:=h
  ·cases h2
  ·cases hv2;exact ⟨hb,hl,hln,⟨v,hv,hcl i v hv⟩,free_of_heap hh⟩
def ListP(w:World)(bs:List Int)(p n size:Nat)(e:Ending)(w':World):Prop:=
 Below w.heap.size w w'∧match listL bs p n size with
  |none=>e=.panicked short
  |some vs=>∃v,e=.returned v∧w'.ownsRow w.heap.size 3 1 v n (vs.map (Value.int .i64))
theorem list_yes(a:Option Addr)(len cap:Nat)(bs:List Int)(p n size:Nat)(w:World)(hl:len≤cap)(hc:cap≤maxLen)(hv:VB w a bs)(hbl:bs.length=len)(hs:size=1∨size=2∨size=4)(hn:n≤1000000)(hp:p≤4294967296)(hok:p+size*n≤len):
  Calls Tryz.prog 162 #[.agg #[.slice a len cap],.int .i64 p,.int .i64 n,.int .i64 size] w (ListP w bs p n size):=by
 have BX:=(Below.refl w.heap.size w).alloc (Nat.le_refl _) (.cells #[.slice a len cap] 190);have hm4:size*n≤4*n:=Nat.mul_le_mul_right _ (by omega)
 have hmc:(n:Int)*(size:Int)=((size*n:Nat):Int):=by rw [Nat.mul_comm];simp
 obtain ⟨V,hV⟩:∃V:Nat→Int,∀j,be bs (p+size*j) size=V j:=⟨_,fun _=>rfl⟩
 have hLL:listL bs p n size=some ((List.range n).map V):=by
  unfold listL;rw [if_pos (by omega)]
  congr 1
  exact List.map_congr_left fun j _=>hV j
 have hrB:rowsB len p n size:=by
  refine ⟨by omega,by omega,.inr ((Int.le_ediv_iff_mul_le (by omega)).2 (by rw [hmc];omega)),by omega,by rw [hmc];omega⟩
 have R:=fun w'=>rows_ok a len cap p n size w' hl hc hrB
 simp only [hmc,Int.toNat_natCast] at R;have HR:=Bas.hid R;have hvs:=fun w' (hb:Below w.heap.size w w')=>(hv.below hb).sub p (size*n) (by omega)
 have HVS:=Bas.hid hvs;have hsl:((bs.drop p).take (size*n)).length=size*n:=by rw [List.length_take,List.length_drop];omega
 have HSL:=Bas.hid hsl;have HBX:=Bas.hid BX;have HLL:=Bas.hid hLL;have hN:=fun (i:Nat) (q:Int) (hq:q=((size*i:Nat):Int)) (w':World) (hi:i<n) (hb:Below w.heap.size w w')=>(by
  have h1:size*i+size≤size*n:=by rw [←Nat.mul_succ];exact Nat.mul_le_mul_left _ hi
  have h:=number_any (sub a p (size*n)) (size*n) (size*n) _ (size*i) size w' (Nat.le_refl _) (by unfold maxLen;omega) (hvs w' hb) hsl hs h1
  rw [be_sub bs p (size*n) (size*i) size h1,hV] at h;rw [hq];exact h:Calls Tryz.prog 211 #[.agg #[.slice (sub a p (size*n)) (size*n) (size*n)],.int .i64 q,.int .i64 size] w' fun e w''=>e=.returned (.int .i64 (V i))∧Below w'.heap.size w' w'')
 have HN:=Bas.hid hN;have hs4:size≤4:=by omega
 clear R hvs hsl BX hLL hN hmc hrB hv hV;generalize sub a p (size*n)=S at*;generalize size*n=m at*;rcases hs with rfl|rfl|rfl
 all_goals
  go_enter Tryz.func162,Tryz.ntmps162
  go_wp2_with (fail);refine (HR.out _).mono ?_;rintro e w1 ⟨rfl,hb1⟩;have HB1:=Bas.hid (HBX.out.trans (hb1.mono HBX.out.size));clear hb1 HBX HR;go_wp2_with (at_make;refine Row.fence ?_);refine Row.unfence ?_;have k1:=Bas.heap_new w1 (.cells #[.slice S m m] 190);have HB2:=Bas.hid (HB1.out.alloc HB1.out.size (.cells #[.slice S m m] 190));generalize w1.alloc (.cells #[.slice S m m] 190)=W2 at*;obtain ⟨T,hT⟩:∃T,w1.heap.size=T:=⟨_,rfl⟩;rw [hT] at k1 ⊢;clear hT HB1;obtain ⟨ii,hi1,hi2,hi3,hi4⟩:=info_parts infoI6;refine wpList_make_full _ rfl _ _ 24 rfl w.heap.size 3 ii (.int .i64 0) 1 Tryz.underlying24 hi1 hi2 hi3 _ _ _ _ n rfl rfl rfl rfl (by rw [hi4];omega) (by unfold maxLen;omega) HB2.out.size ?_
  intro w3 ho3 hg3;have k3:=(hg3.block _ (heap_lt k1) (by simp)).trans k1
  have HB3:=Bas.hid (HB2.out.grown hg3 HB2.out.size (fun _ h=>by cases h))
  have HO3:=Bas.hid ho3;have hw2:w.heap.size≤W2.heap.size:=HB2.out.size;generalize W2.heap.size=G at*;clear hi1 hi2 hi3 hi4 ho3 hg3 k1 HB2;go_wp2_with (fail);go_loopw [21] (fun vi wr=>∃(i:Nat) (xs:List Value),i≤n∧vi=.int .i64 i∧wr.ownsRow w.heap.size 3 1 (.slice (some ⟨G,0,none⟩) n n) n xs∧(∀j,j<i→xs[j]? =some (.int .i64 (V j)))∧wr.heap[T]? =some (.cells #[.slice S m m] 190 (0,0))∧Below w.heap.size w wr) (fun vi _=>n - (intOf vi).toNat)
  case atStart=>exact ⟨0,_,Nat.zero_le _,rfl,HO3.out,fun j hj=>by omega,k3,HB3.out⟩
  case round=>
   obtain ⟨i,xs,hi,rfl,ho,hx,k4,hb⟩:=hrel;have HX:=Bas.hid hx;have HO:=Bas.hid ho;have HB:=Bas.hid hb;clear ho hx hb k3 HB3 HO3;by_cases hin:i<n
   ·have e1:decide ((i:Int)<(n:Int))=true:=by simp;omega
    have e2:decide (i<n)=true:=by simp;omega
    have c4:=cell_of_heap (i:=0) (v:=.slice S m m) k4 rfl;go_wp2_with (fail);refine (HN.out i _ (by omega) wr hin HB.out).mono ?_
    rintro e w5 ⟨rfl,hb5⟩;have k5:=(hb5.block _ (heap_lt k4)).trans k4;have HB5:=Bas.hid (HB.out.trans (hb5.mono HB.out.size));have HO5:=Bas.hid (Row.owned_below HO.out hb5);obtain ⟨hg0,hg1,hxl,⟨v,hv1,hv2⟩,hv3⟩:=own_at HO5.out i hin;have HXL:=Bas.hid hxl;have HE:=Bas.hid hg0;obtain ⟨x,hxe⟩:∃x,V i=x:=⟨_,rfl⟩;have HXE:=Bas.hid hxe;rw [hxe];have hTG:T≠G:=fun e=>own_ty HO5.out k5 (by decide) (by rw [e];rfl)
    have k6:=(Below.heap_setCell w5 ⟨G,i,none⟩ (.int .i64 x) T (by exact hTG)).trans k5
    have HO6:=Bas.hid (own_put HO5.out i (.int .i64 x));have HB6:=Bas.hid (HB5.out.setCell (p:=⟨G,i,none⟩) hg0 (.int .i64 x));clear hb5 k4 c4 hxe hv1 hxl hg0 hTG;go_wp2_with (fail);generalize w5.setCell ⟨G,i,none⟩ (.int .i64 x)=W6 at*;go_roundw
    case rel=>exact ⟨i+1,xs.set i (.int .i64 x),by omega,by go_num,HO6.out,fun j hj=>by
     have hxl:=HXL.out;by_cases e:i=j
     ·subst e;rw [List.getElem?_set_self (by omega)]
      rw [HXE.out]
     ·rw [List.getElem?_set_ne e];exact HX.out j (by omega),k6,HB6.out⟩
    case measure=>simp [intOf];omega
   ·have hin2:i=n:=by omega
    have e1:decide ((i:Int)<(n:Int))=false:=by simp;omega
    have hxs:xs=((List.range n).map V).map (Value.int .i64):=by
     refine List.ext_getElem? fun j=> ?_
     have hxl:xs.length=n:=by simpa using HO.out.1
     by_cases hj:j<n
     ·rw [HX.out j (by omega)]
      simp [hj]
     ·rw [List.getElem?_eq_none (by omega),List.getElem?_eq_none (by simp;omega)]
    rw [hxs] at HO;clear hxs hin2;go_wp2_with (fail);go_ret;exact ⟨HB.out,by rw [HLL.out];exact ⟨_,rfl,HO.out⟩⟩
theorem list_any(a:Option Addr)(len cap:Nat)(bs:List Int)(p n size:Nat)(w:World)(hl:len≤cap)(hc:cap≤maxLen)(hv:VB w a bs)(hbl:bs.length=len)(hs:size=1∨size=2∨size=4)(hn:n≤1000000)(hp:p≤4294967296):
  Calls Tryz.prog 162 #[.agg #[.slice a len cap],.int .i64 p,.int .i64 n,.int .i64 size] w (ListP w bs p n size):=by
 have BX:=(Below.refl w.heap.size w).alloc (Nat.le_refl _) (.cells #[.slice a len cap] 190);have hm4:size*n≤4*n:=Nat.mul_le_mul_right _ (by omega)
 have hmc:(n:Int)*(size:Int)=((size*n:Nat):Int):=by rw [Nat.mul_comm];simp
 by_cases hok:p+size*n≤len
 ·exact list_yes a len cap bs p n size w hl hc hv hbl hs hn hp hok
 ·have hLL:listL bs p n size=none:=by unfold listL;rw [if_neg (by omega)]
  have hrB:¬rowsB len p n size:=by
   rintro ⟨_,_,_,_,h5⟩;rw [hmc] at h5;omega
  have HR:=Bas.hid (fun w'=>rows_no a len cap p n size w' hl hc hrB)
  have HBX:=Bas.hid BX;have HLL:=Bas.hid hLL;clear BX hLL hrB hmc hv;go_enter Tryz.func162,Tryz.ntmps162
  go_wp2_with (fail);refine (HR.out _).mono ?_;rintro e w1 ⟨rfl,hb1⟩;have HB1:=Bas.hid (HBX.out.trans (hb1.mono HBX.out.size));clear hb1 HBX HR;go_wp2_with (fail);exact ⟨rfl,HB1.out,by rw [HLL.out]⟩
end Lk
namespace Ln
open Ch
theorem own_putN{w:World}{base size g n cp:Nat}{e:TypeId}{xs:List Value}(h:w.ownsRow base e size (.slice (some ⟨g,0,none⟩) n cp) n xs)(i:Nat)(v:Value):(w.setCell ⟨g,i,none⟩ v).ownsRow base e size (.slice (some ⟨g,0,none⟩) n cp) n (xs.set i v):=by
 obtain ⟨h1,⟨h2,_⟩|⟨g',cap,cur,hv,hb,hh,hc,hx,hs,ht⟩⟩:=h
 ·cases h2
 ·cases hv;have q1:=heap_set (i:=i) hh v;refine ⟨by simpa using h1,.inr ⟨g,cp,_,rfl,hb,q1,hc,hx,by simpa using hs, ?_⟩⟩
  rw [←ht];simp [List.take_set]
theorem glC_set1:∀(l:List Gl) (k:Nat) (a:Int) (x:Gl),l[k]? =some x→(l.flatMap glC).set (k*2) (.int .i64 a)=(l.set k (a,x.2)).flatMap glC
 |[],_,_,_,h=>by simp at h
 |y::l,0,a,x,h=>by
  have:y=x:=by simpa using h
  subst this;simp [glC]
 |y::l,k+1,a,x,h=>by
  have ih:=glC_set1 l k a x (by simpa using h)
  rw [List.set_cons_succ,List.flatMap_cons,List.flatMap_cons,←ih,show (k+1)*2=k*2+2 by omega]
  simp [glC]
theorem glC_set2:∀(l:List Gl) (k:Nat) (a:Int) (x:Gl),l[k]? =some x→(l.flatMap glC).set (k*2+1) (.int .i64 a)=(l.set k (x.1,a)).flatMap glC
 |[],_,_,_,h=>by simp at h
 |y::l,0,a,x,h=>by
  have:y=x:=by simpa using h
  subst this;simp [glC]
 |y::l,k+1,a,x,h=>by
  have ih:=glC_set2 l k a x (by simpa using h)
  rw [List.set_cons_succ,List.flatMap_cons,List.flatMap_cons,←ih,show (k+1)*2+1=k*2+1+2 by omega]
  simp [glC]
end Ln
namespace Lk
open Vw Sk Ch
theorem infoP6:(Tryz.prog.info? 400).map (fun i=>(i.zero,i.size,i.bytes))=some (some (.agg #[.int .i64 0,.int .i64 0,.slice none 0 0]),3,40):=by kernel_rfl
def PartsP(w:World)(r:Option (List PartD))(e:Ending)(w':World):Prop:=
 Below w.heap.size w w'∧match r with
  |none=>e=.panicked short
  |some ps=>∃v vs,e=.returned v∧PRow w' w.heap.size v ps vs
theorem own_one{w:World}{base g:Nat}{e:TypeId}{size:Nat}{cs:List Value}(hg:w.heap[g]? =some (.cells cs.toArray e (0,0)))(hb:base≤g)(hs:cs.length=size):w.ownsRow base e size (.slice (some ⟨g,0,none⟩) 1 1) 1 cs:=
 ⟨by simp [hs],.inr ⟨g,1,_,rfl,hb,hg,Nat.le_refl _,by unfold maxLen;omega,by simp [hs],by simp [←hs]⟩⟩
theorem trimmed_any(a:Option Addr)(len cap:Nat)(bs:List Int)(gl s0:Int)(p size:Nat)(w:World)(hl:len≤cap)(hc:cap≤maxLen)(hv:VB w a bs)(hbl:bs.length=len)(hs:size=1∨size=2∨size=4)(hp:p≤1000):
  Calls Tryz.prog 165 #[.agg #[.slice a len cap,.int .i64 gl,.int .i64 s0],.int .i64 p,.int .i64 size] w (PartsP w (trimL bs p size)):=by
 have k1:=Bas.heap_new w (.cells #[.slice a len cap,.int .i64 gl,.int .i64 s0] 394);have BX:=(Below.refl w.heap.size w).alloc (Nat.le_refl _) (.cells #[.slice a len cap,.int .i64 gl,.int .i64 s0] 394);have HV:=Bas.hid hv;have HB1:=Bas.hid BX;have HS:=Bas.hid hs;have e2:((p:Int)+2).toNat=p+2:=by omega
 clear BX hv hs;by_cases f1:p+2≤len
 ·have U1:=fun (w':World) (hb:Below w.heap.size w w')=>u16_ok a len cap bs (p:Int) w' hl hc (HV.out.below hb) hbl (by omega) (by omega)
  simp only [Int.toNat_natCast] at U1;by_cases f2:p+4≤len
  ·have U2:=fun (w':World) (hb:Below w.heap.size w w')=>u16_ok a len cap bs ((p:Int)+2) w' hl hc (HV.out.below hb) hbl (by omega) (by omega)
   simp only [e2] at U2;have b1:=be_rng2 HV.out.byte p;have b2:=be_rng2 HV.out.byte (p+2);obtain ⟨x,hx⟩:∃x,be bs p 2=x:=⟨_,rfl⟩;obtain ⟨m,hm⟩:=Int.eq_ofNat_of_zero_le b2.1;rw [hx] at U1 b1;rw [hm] at U2 b2;obtain ⟨b10,b11⟩:=b1;have hm65:m≤65535:=by omega
   have HTR:Hid (trimL bs p size=if x+m≤65536 then (listL bs (p+4) m size).map fun vs=>if (m:Int)=0 then [] else [⟨x,x+m - 1,vs⟩] else none):=by
    unfold Hid trimL;rw [hx,hm,Int.toNat_natCast,hbl];by_cases h:x+(m:Int)≤65536
    ·rw [if_pos ⟨f2,h⟩,if_pos h]
    ·rw [if_neg (fun h'=>h h'.2),if_neg h]
   have HU1:=Bas.hid U1;have HU2:=Bas.hid U2;clear U1 U2 hx hm b2;go_enter Tryz.func165,Tryz.ntmps165
   go_wp2_with (fail);generalize w.alloc (.cells #[.slice a len cap,.int .i64 gl,.int .i64 s0] 394)=W1 at*;refine' Pl.region_v0 41 [] [0,1,2,3,4,5,6,7,8,9,10] [] _ (by kernel_rfl) (by kernel_rfl) (by simp) (fun _ _ _ _ e h=>⟨e▸h.1,h.2⟩) ?_ ?_
   rotate_left
   ·intro I F hI hF;simp only [Pl.selN,List.nil_append,List.drop_succ_cons,List.drop_zero];have x1:=fun i=>hF.cell (heap_lt k1) (cell_of_heap (i:=0) k1 rfl) i
    repeat (go_big_quiet_step ((go_at_call 103;first|with_reducible exact hF.call (HU1.out _ (hF.on HB1.out _))|with_reducible exact hF.call (HU2.out _ (hF.on HB1.out _)))))
    refine wpQuiet_nil ?_;rfl
   intro u hu;simp only [Pl.selN];have k2:=(hu.block _ (heap_lt k1)).trans k1;have HB2:=Bas.hid (HB1.out.trans (hu.mono HB1.out.size));have c2:=cell_of_heap (i:=0) k2 rfl;clear hu k1 HB1 HU1 HU2;by_cases f3:x+(m:Int)≤65536
   ·have d3:decide (x+(m:Int)≤65536)=true:=decide_eq_true f3;rw [if_pos f3] at HTR;have L:=list_any a len cap bs (p+4) m size u hl hc (HV.out.below HB2.out) hbl HS.out (by omega) (by omega)
    have e4:((p+4:Nat):Int)=(p:Int)+4:=by omega
    rw [e4] at L;have HL:=Bas.hid L;clear L e4 e2;go_wp2_with (go_at_call 56;refine (need_yesb _ _ (by first|rfl|(simp;done)|(simp;omega))).mono ?_;rintro e w' ⟨rfl,rfl⟩)
    refine HL.out.mono ?_;rintro e w3 ⟨hb3,h3⟩;have HB3:=Bas.hid (HB2.out.trans (hb3.mono HB2.out.size));have hu3:w.heap.size≤u.heap.size:=HB2.out.size;clear hb3 HL c2 k2;cases hls:listL bs (p+4) m size with
    |none=>
     rw [hls] at h3 HTR;simp only at h3;subst h3;go_wp2_with (fail);exact ⟨rfl,HB3.out,by rw [HTR.out];rfl⟩
    |some vs=>
     rw [hls] at h3 HTR;simp only at h3;obtain ⟨v,rfl,ho⟩:=h3;obtain ⟨av,cv,rfl⟩:=own_slice ho;have HO:=Bas.hid (Row.owned_base ho hu3);have hvl:vs.length=m:=by simpa using ho.1
     have HVL:=Bas.hid hvl;clear ho hls hvl;by_cases f4:m=0
     ·subst f4;have d4:(((0:Nat):Int)==0)=true:=by decide
      go_wp2_with (fail);go_ret;exact ⟨HB3.out,by rw [HTR.out];exact ⟨_,[],rfl,pRow_nil _ _⟩⟩
     ·have d4:((m:Int)==0)=false:=by simp;omega
      have HM0:Hid ((m:Int)≠0):=by unfold Hid;omega
      clear f4;go_wp2_with (fail);have k9:=Bas.heap_new w3 (.cells #[.int .i64 x,.int .i64 (x+(m:Int) - 1),.slice av m cv] 400);have hb9:=(Below.refl w3.heap.size w3).alloc (Nat.le_refl _) (.cells #[.int .i64 x,.int .i64 (x+(m:Int) - 1),.slice av m cv] 400);go_ret;refine ⟨HB3.out.trans (hb9.mono HB3.out.size), ?_⟩;rw [HTR.out];simp only [Option.map_some,if_neg HM0.out];refine ⟨_,[.slice av m cv],rfl,rfl,own_one (cs:=[.int .i64 x,.int .i64 (x+(m:Int) - 1),.slice av m cv]) k9 HB3.out.size rfl,fun i q u' hq hu'=> ?_⟩
      have hi0:i=0:=by
       have:=(List.getElem?_eq_some_iff.1 hq).1;simpa using this
      subst hi0;simp at hq hu';subst hq hu';have:=Row.owned_below HO.out hb9;simp only [HVL.out];exact this
   ·have d3:decide (x+(m:Int)≤65536)=false:=decide_eq_false f3;rw [if_neg f3] at HTR;clear e2;go_wp2_with (go_at_call 56;refine (need_nob _ _ (by first|rfl|(simp;done)|(simp;omega))).mono ?_;rintro e w' ⟨rfl,rfl⟩)
    exact ⟨rfl,HB2.out,by rw [HTR.out]⟩
  ·have HTR:Hid (trimL bs p size=none):=by unfold Hid trimL;rw [if_neg (fun h=>by omega)]
   have HU1:=Bas.hid U1;have HU2:=Bas.hid (fun (w':World)=>u16_no a len cap ((p:Int)+2) w' hl hc (by omega))
   clear U1;go_enter Tryz.func165,Tryz.ntmps165
   go_wp2_with (fail);generalize w.alloc (.cells #[.slice a len cap,.int .i64 gl,.int .i64 s0] 394)=W1 at*;refine' Pl.region_vh 41 [] [0,1,2,3,4,5,6,7] [] 8 18 [9,10] _ (fun ch w'=>ch=short∧Below w.heap.size w w') (by kernel_rfl) (by kernel_rfl) (by kernel_rfl) (by simp) (fun _ _ _ _ e h=>⟨e▸h.1,h.2⟩) ?_ ?_ ?_ ?_
   rotate_left
   ·intro I F hI hF;simp only [Pl.selN,List.nil_append,List.drop_succ_cons,List.drop_zero];have x1:=fun i=>hF.cell (heap_lt k1) (cell_of_heap (i:=0) k1 rfl) i
    repeat (go_big_quiet_step ((go_at_call 103;with_reducible exact hF.call (HU1.out _ (hF.on HB1.out _)))))
    refine wpQuiet_nil ?_;rfl
   ·simp only [Pl.selN,List.drop_succ_cons,List.drop_zero,List.mem_singleton,forall_eq];intro u hu
    go_simp
    simp only [Pl.valsAt];have hbu:=HB1.out.trans (hu.mono HB1.out.size);refine (HU2.out _).mono ?_;rintro e w'' ⟨he,hb⟩;exact .inr ⟨short,he,rfl,hbu.trans (hb.mono hbu.size)⟩
   ·intro x hx;cases hx
   ·rintro c a' u hd ⟨rfl,hb⟩;exact ⟨hd,hb,by rw [HTR.out]⟩
 ·have HTR:Hid (trimL bs p size=none):=by unfold Hid trimL;rw [if_neg (fun h=>by omega)]
  have HU1:=Bas.hid (fun (w':World)=>u16_no a len cap (p:Int) w' hl hc (by omega))
  go_enter Tryz.func165,Tryz.ntmps165
  go_wp2_with (fail);generalize w.alloc (.cells #[.slice a len cap,.int .i64 gl,.int .i64 s0] 394)=W1 at*;refine' Pl.region_vh 41 [] [0,1,2,4,5,6,7] [] 3 13 [8,9,10] _ (fun ch w'=>ch=short∧Below w.heap.size w w') (by kernel_rfl) (by kernel_rfl) (by kernel_rfl) (by simp) (fun _ _ _ _ e h=>⟨e▸h.1,h.2⟩) ?_ ?_ ?_ ?_
  rotate_left
  ·intro I F hI hF;simp only [Pl.selN,List.nil_append,List.drop_succ_cons,List.drop_zero];have x1:=fun i=>hF.cell (heap_lt k1) (cell_of_heap (i:=0) k1 rfl) i
   repeat (go_big_quiet_step (fail))
   refine wpQuiet_nil ?_;rfl
  ·simp only [Pl.selN,List.drop_succ_cons,List.drop_zero,List.mem_singleton,forall_eq];intro u hu
   go_simp
   simp only [Pl.valsAt];have hbu:=HB1.out.trans (hu.mono HB1.out.size);refine (HU1.out _).mono ?_;rintro e w'' ⟨he,hb⟩;exact .inr ⟨short,he,rfl,hbu.trans (hb.mono hbu.size)⟩
  ·intro x hx;cases hx
  ·rintro c a' u hd ⟨rfl,hb⟩;exact ⟨hd,hb,by rw [HTR.out]⟩
def nS(bs:List Int):Nat:=(be bs 2 2).toNat
def nN(bs:List Int):Nat:=(be bs 4 2).toNat
def nM(bs:List Int)(keys:Nat):Nat:=rowCount bs 2 (nS bs) (nN bs) keys
theorem nM_le(bs:List Int)(keys:Nat):nM bs keys≤nN bs:=by unfold nM rowCount;split<;>omega
def SeekP(w:World)(a:Option Addr)(bs:List Int)(need:Int)(keys:Nat)(e:Ending)(w':World):Prop:=
 Below w.heap.size w w'∧if seekOk bs need then ∃v,e=.returned v∧w'.ownsRow w.heap.size 190 1 v (nM bs keys) (rowsV (sub a 12 (nN bs*nS bs)) (nS bs) (nM bs keys)) else e=.panicked short
theorem seek_any(a:Option Addr)(len cap:Nat)(bs:List Int)(need:Int)(keys:Nat)(w:World)(hl:len≤cap)(hc:cap≤maxLen)(hv:VB w a bs)(hbl:bs.length=len)(hk:(2*keys:Int)≤need):
    Calls Tryz.prog 212 #[.agg #[.slice a len cap],.int .i64 2,.int .i64 need,.int .i64 keys] w (SeekP w a bs need keys):=by
  have b2:=be_rng2 hv.byte 2
  have b4:=be_rng2 hv.byte 4
  have hs:be bs 2 2=(nS bs:Int):=by unfold nS;omega
  have hn:be bs 4 2=(nN bs:Int):=by unfold nN;omega
  have hmul:(nN bs:Int)*(nS bs:Int)=be bs 2 2*be bs 4 2:=by rw [hs,hn,Int.mul_comm]
  by_cases hok:seekOk bs need
  · obtain ⟨h1,h2,h3⟩:=hok
    rw [hs] at h2
    have h4 : 12 + nN bs * nS bs ≤ len := by have : ((nN bs * nS bs : Nat) : Int) = be bs 2 2 * be bs 4 2 := by rw [← hmul]; simp
                                             omega
    have hrB:rowsB len ((2:Nat)+10:Int) (nN bs) (nS bs):=by
      refine ⟨by omega,by omega, ?_,by omega,by rw [hmul];omega⟩
      by_cases hz:(nS bs:Int)=0
      · exact .inl hz
      · exact .inr ((Int.le_ediv_iff_mul_le (by omega)).2 (by rw [hmul];omega))
    refine (take_yes a len cap bs 2 (nS bs) (nN bs) keys need w hl hc hv hbl (by omega) hs hn h2 (by omega) hrB).mono ?_
    rintro e w' ⟨v,he,ho,hb⟩
    exact ⟨hb,by rw [if_pos ⟨h1,by rw [hs];exact h2,h3⟩];exact ⟨v,he,ho⟩⟩
  · refine (take_no a len cap bs 2 need keys w hl hc hv hbl ?_).mono ?_
    · rintro ⟨h1,h2,h3,h4,h5,h6,h7,h8⟩
      refine hok ⟨by omega,h3, ?_⟩
      have e:(2:Int).toNat+2=4:=rfl
      rw [e] at h8
      rw [Int.mul_comm]
      have h9:(2:Int)+10+be bs 4 2*be bs 2 2≤len:=h8
      omega
    · rintro e w' ⟨he,hb⟩
      exact ⟨hb,by rw [if_neg hok];exact he⟩
theorem row_in{w:World}{a:Option Addr}{bs:List Int}{need:Int}{keys i:Nat}(hv:VB w a bs)(hok:seekOk bs need)(hi:i<nM bs keys):VB w (sub (sub a 12 (nN bs*nS bs)) (nS bs*i) (nS bs)) (rowB bs 2 (nS bs) i)∧(rowB bs 2 (nS bs) i).length=nS bs∧need≤nS bs:=by
 obtain ⟨h1,h2,h3⟩:=hok;have b2:=be_rng2 hv.byte 2;have b4:=be_rng2 hv.byte 4;have hs:be bs 2 2=(nS bs:Int):=by unfold nS;omega
 have hn:be bs 4 2=(nN bs:Int):=by unfold nN;omega
 have h4:12+nN bs*nS bs≤bs.length:=by
  have:((nN bs*nS bs:Nat):Int)=be bs 2 2*be bs 4 2:=by rw [hs,hn,Int.mul_comm];simp
  omega
 have hin:=Nat.lt_of_lt_of_le hi (nM_le bs keys);obtain ⟨r1,r2⟩:=row_vb hv (p:=2) (s:=nS bs) (n:=nN bs) (by omega) i hin
 exact ⟨r1,r2,by omega⟩
theorem rowsV_get{A:Option Addr}{s m i:Nat}(hi:i<m):(rowsV A s m)[i]? =some (rowV A s i):=by simp [rowsV,hi]
theorem own_cell{w:World}{base n:Nat}{e:TypeId}{v:Value}{xs:List Value}(h:w.ownsRow base e 1 v n xs){i:Nat}{u:Value}(hu:xs[i]? =some u):∃g cp,v=.slice (some ⟨g,0,none⟩) n cp∧w.cell? ⟨g,i,none⟩=some u∧n≤cp:=by
 rcases Row.owned_parts h with ⟨_,h1,h2⟩|⟨g,cp,h1,_,_,h2,_,h3,_⟩
 ·subst h2;simp at hu
 ·exact ⟨g,cp,h1,h3 i u hu,h2⟩
theorem single_any(a:Option Addr)(len cap:Nat)(bs:List Int)(gl:Int)(size:Nat)(w:World)(hl:len≤cap)(hc:cap≤maxLen)(hv:VB w a bs)(hbl:bs.length=len)(hs:size=2∨size=4):
  Calls Tryz.prog 164 #[.agg #[.slice a len cap,.int .i64 gl,.int .i64 size]] w (PartsP w (singL bs size)):=by
 have k1:=Bas.heap_new w (.cells #[.slice a len cap,.int .i64 gl,.int .i64 size] 394);have BX:=(Below.refl w.heap.size w).alloc (Nat.le_refl _) (.cells #[.slice a len cap,.int .i64 gl,.int .i64 size] 394);have HV:=Bas.hid hv;have HB1:=Bas.hid BX;have HS:=Bas.hid hs;have SK:=seek_any a len cap bs (2+size) 1 _ hl hc (hv.below BX) hbl (by omega)
 have HSK:=Bas.hid SK;have hs4:size≤4:=by omega
 clear BX hv hs SK;go_enter Tryz.func164,Tryz.ntmps164
 go_wp2_with (fail);generalize w.alloc (.cells #[.slice a len cap,.int .i64 gl,.int .i64 size] 394)=W1 at*;refine HSK.out.mono ?_;rintro e w2 ⟨hb2,h2⟩;have HB2:=Bas.hid (HB1.out.trans (hb2.mono HB1.out.size));have k2:=(hb2.block _ (heap_lt k1)).trans k1;have hw1:w.heap.size≤W1.heap.size:=HB1.out.size;clear hb2 k1 HSK HB1;by_cases hok:seekOk bs (2+size)
 ·rw [if_pos hok] at h2;obtain ⟨v,rfl,ho⟩:=h2;have HSL:Hid (singL bs size=some ((List.range (nM bs 1)).map fun i=>singOne size (rowB bs 2 (nS bs) i))):=by unfold Hid singL;rw [if_pos hok];rfl
  have HOK:=Bas.hid hok;have hM:nM bs 1≤65535:=by have:=nM_le bs 1;have:=be_rng2 HV.out.byte 4;unfold nN at*;omega
  obtain ⟨av,cv,rfl⟩:=own_slice ho;have HO:=Bas.hid ho;have hcv:nM bs 1≤cv:=(own_cap ho).2.1;have HROW:=Bas.hid (fun (i:Nat) (w':World) (hi:i<nM bs 1) (hb:Below w.heap.size w w')=>row_in (HV.out.below hb) hok hi)
  have hs65:nS bs≤65535:=by have:=be_rng2 HV.out.byte 2;unfold nS;omega
  have HK2:=Bas.hid (fun (wr:World) (hb:Below w2.heap.size w2 wr)=>(hb.block _ (heap_lt k2)).trans k2)
  have hw2:w.heap.size≤w2.heap.size:=HB2.out.size;generalize nM bs 1=m at*;generalize sub a 12 (nN bs*nS bs)=A at*;generalize nS bs=s at*;clear ho hok k2;go_wp2_with (fail);go_loopw [3,14] (fun vo vi wr=>∃(i:Nat) (vo':Value) (vs:List Value),i≤m∧vi=.int .i64 i∧vo'=vo∧PRow wr w2.heap.size vo' ((List.range i).map fun i=>singOne size (rowB bs 2 s i)) vs∧Below w2.heap.size w2 wr) (fun _ vi _=>m - (intOf vi).toNat)
  case atStart=>exact ⟨0,_,[],Nat.zero_le _,rfl,rfl,pRow_nil _ _,Below.refl _ _⟩
  case round=>
   obtain ⟨i,vo',vs,hi,rfl,hvo,hpr,hb3⟩:=hrel;rw [←hvo];clear hvo;have HB3:=Bas.hid (HB2.out.trans (hb3.mono HB2.out.size));have HB23:=Bas.hid hb3;have HPR:=Bas.hid hpr;have hown:=hpr.own;rw [List.length_map,List.length_range] at hown;obtain ⟨ado,cpo,rfl⟩:=own_slice hown;have HOW:=Bas.hid hown;clear hb3 hpr hown;by_cases him:i<m
   ·have e1:decide ((i:Int)<(m:Int))=true:=by simp;omega
    have e2:decide (i<m)=true:=by simp;omega
    obtain ⟨hrv,hrl,hrn⟩:=HROW.out i wr him HB3.out;obtain ⟨gv,cpv,hv1,hcell,_⟩:=own_cell (Row.owned_below HO.out HB23.out) (rowsV_get him);cases hv1;have lgv:gv<wr.heap.size:=World.block_lt_of_cell? _ _ hcell;have HON:Hid ((List.range (i+1)).map (fun i=>singOne size (rowB bs 2 s i))=(List.range i).map (fun i=>singOne size (rowB bs 2 s i))++[singOne size (rowB bs 2 s i)]):=by
     unfold Hid;rw [List.range_succ,List.map_append];rfl
    unfold rowV at hcell;obtain ⟨R,hR⟩:∃R,sub A (s*i) s=R:=⟨_,rfl⟩;rw [hR] at hrv hcell;obtain ⟨rb,hrb⟩:∃rb,rowB bs 2 s i=rb:=⟨_,rfl⟩;rw [hrb] at hrv hrl HON;have hsm:s≤maxLen:=by unfold maxLen;omega
    have HU:=Bas.hid (fun w' (hb:Below wr.heap.size wr w')=>u16_ok R s s rb 0 w' (Nat.le_refl _) hsm (hrv.below hb) hrl (by omega) (by omega))
    have HN:=Bas.hid (fun w' (hb:Below wr.heap.size wr w')=>number_any R s s rb 2 size w' (Nat.le_refl _) hsm (hrv.below hb) hrl (by have:=HS.out;omega) (by omega))
    simp only [show Int.toNat 0=0 from rfl] at HU
    obtain ⟨id,hid⟩:∃id,be rb 0 2=id:=⟨_,rfl⟩;obtain ⟨x,hx⟩:∃x,be rb 2 size=x:=⟨_,rfl⟩;have HONE:Hid (singOne size rb=⟨id,id,[x]⟩):=by unfold Hid singOne;rw [hid,hx]
    rw [hid] at HU;rw [hx] at HN;clear hR hrb hid hx hrv hrl;go_wp2_with (fail);have k3:=Bas.heap_new wr (.cells #[.slice R s s] 190);have hb3:=(Below.refl wr.heap.size wr).alloc (Nat.le_refl _) (.cells #[.slice R s s] 190);generalize wr.alloc (.cells #[.slice R s s] 190)=W3 at*;obtain ⟨T,hT⟩:∃T,wr.heap.size=T:=⟨_,rfl⟩;have kr:W3.heap[w.heap.size]? =_:=(hb3.block _ (heap_lt (HK2.out wr HB23.out))).trans (HK2.out wr HB23.out);refine (HU.out _ hb3).mono ?_;rintro e w4 ⟨rfl,hb4⟩;have HB34:=Bas.hid (hb3.trans (hb4.mono hb3.size));rw [hT] at k3 ⊢;have k4:=(hb4.block _ (heap_lt k3)).trans k3;have kr4:=(hb4.block _ (heap_lt kr)).trans kr;have c4:=cell_of_heap (i:=0) (v:=.slice R s s) k4 rfl;have cr:=cell_of_heap (i:=2) (v:=.int .i64 size) kr4 rfl;clear k3 hb3 hb4 kr hcell lgv hT HU;go_wp2_with (fail);refine (HN.out _ HB34.out).mono ?_;rintro e w5 ⟨rfl,hb5⟩;have HB5:=Bas.hid (HB34.out.trans (hb5.mono HB34.out.size));clear hb5 HB34 HN c4 cr k4 kr4;go_wp2_with (at_builtin;refine Row.fence ?_);refine Row.unfence ?_;have q1:=(Below.heap_alloc (w5.alloc (.cells #[.int .i64 x] 3)) (.cells #[.int .i64 id,.int .i64 id,.slice (some ⟨w5.heap.size,0,none⟩) 1 1] 400) _ (by simp)).trans (Bas.heap_new w5 (.cells #[.int .i64 x] 3))
    have q2:=Bas.heap_new2 w5 (.cells #[.int .i64 x] 3) (.cells #[.int .i64 id,.int .i64 id,.slice (some ⟨w5.heap.size,0,none⟩) 1 1] 400);have hb6:=HB5.out.trans ((((Below.refl w5.heap.size w5).alloc (Nat.le_refl _) (.cells #[.int .i64 x] 3)).alloc (by simp) (.cells #[.int .i64 id,.int .i64 id,.slice (some ⟨w5.heap.size,0,none⟩) 1 1] 400)).mono HB5.out.size)
    have hw5:w2.heap.size≤w5.heap.size:=Nat.le_trans HB23.out.size HB5.out.size;generalize (w5.alloc (.cells #[.int .i64 x] 3)).alloc (.cells #[.int .i64 id,.int .i64 id,.slice (some ⟨w5.heap.size,0,none⟩) 1 1] 400)=W6 at*;have HB6:=Bas.hid (HB23.out.trans (hb6.mono HB23.out.size));have HP6:=Bas.hid (pRow_below HPR.out hb6);have HV6:=Bas.hid (own_one (base:=w2.heap.size) (cs:=[.int .i64 x]) q1 hw5 rfl);have HO6:=Bas.hid (Row.owned_below HOW.out hb6);clear hb6 q1;refine (Row.append_any rfl _ _ 395 400 rfl (.agg #[.int .i64 0,.int .i64 0,.slice none 0 0]) 3 40 Tryz.underlying395 infoP6 rfl (by decide) w2.heap.size (.slice ado i cpo) i _ rfl HO6.out (.slice (some ⟨w5.heap.size+1,0,none⟩) 1 1) 1 [.int .i64 id,.int .i64 id,.slice (some ⟨w5.heap.size,0,none⟩) 1 1] rfl (leads_heap q2) rfl (by simp;first|exact ⟨rfl,rfl,rfl⟩|exact ⟨rfl,rfl⟩) (by unfold maxLen;omega) (by omega) HB6.out.size ?_)
    intro v7 w7 ho7 hg7 _;have HK7:=Bas.hid fun (e:TypeId) (size n:Nat) (u:Value) (xs:List Value) (he:e≠400) (ho:W6.ownsRow w2.heap.size e size u n xs)=>Row.owned_keep ho fun g' hg'=>hg7.block g' (Row.own_block ho hg').2 (fun e'=>own_rows_ne HO6.out ho (fun h=>he h.symm) e'.symm hg')
    have HP7:=Bas.hid (pRow_snoc (p:=⟨id,id,[x]⟩) HP6.out (by rw [List.length_map,List.length_range];exact ho7) HK7.out (HK7.out _ _ _ _ _ (by decide) HV6.out))
    have HB7:=Bas.hid (HB6.out.grown hg7 HB6.out.size (fun g' hg'=>(Row.own_block HO6.out hg').1))
    clear ho7 hg7 q2;go_wp2_with (fail);go_roundw
    case rel=>exact ⟨i+1,_,vs++[.slice (some ⟨w5.heap.size,0,none⟩) 1 1],by omega,by go_num,rfl,by rw [HON.out,HONE.out];exact HP7.out,HB7.out⟩
    case measure=>simp [intOf];omega
   ·have him2:i=m:=by omega
    have e1:decide ((i:Int)<(m:Int))=false:=by simp;omega
    subst him2;go_wp2_with (fail);go_ret;exact ⟨HB3.out,by rw [HSL.out];exact ⟨_,vs,rfl,pRow_base HPR.out hw2⟩⟩
 ·rw [if_neg hok] at h2;subst h2;have HSL:Hid (singL bs size=none):=by unfold Hid singL;rw [if_neg hok]
  go_wp2_with (fail);exact ⟨rfl,HB2.out,by rw [HSL.out]⟩
theorem pRow_keep{w w':World}{base:Nat}{v:Value}{ps:List PartD}{vs:List Value}(h:PRow w base v ps vs)(h1:∀g,v.ownBlock=some g→w'.heap[g]? =w.heap[g]?)
  (h2:∀(e:TypeId) (size n:Nat) (u:Value) (xs:List Value),e≠400→w.ownsRow base e size u n xs→w'.ownsRow base e size u n xs):PRow w' base v ps vs:=
 ⟨h.len,Row.owned_keep h.own h1,fun i p u hp hu=>h2 _ _ _ _ _ (by decide) (h.vals i p u hp hu)⟩
theorem partsUp_step(f:Nat→Option PartD)(m i:Nat)(h:i<m):partsUp f (m - i) i=(f i).bind fun p=>(partsUp f (m - (i+1)) (i+1)).map (p::·):=by
 rw [show m - i=(m - (i+1))+1 by omega,partsUp]
theorem segs_true(a:Option Addr)(len cap:Nat)(bs:List Int)(gl:Int)(size:Nat)(w:World)(hl:len≤cap)(hc:cap≤maxLen)(hv:VB w a bs)(hbl:bs.length=len)(hs:size=2∨size=4):
  Calls Tryz.prog 163 #[.agg #[.slice a len cap,.int .i64 gl,.int .i64 size],.bool true] w (PartsP w (segsL bs true size)):=by
 have k1:=Bas.heap_new w (.cells #[.slice a len cap,.int .i64 gl,.int .i64 size] 394);have BX:=(Below.refl w.heap.size w).alloc (Nat.le_refl _) (.cells #[.slice a len cap,.int .i64 gl,.int .i64 size] 394);have HV:=Bas.hid hv;have HB1:=Bas.hid BX;have HS:=Bas.hid hs;have SK:=seek_any a len cap bs 6 2 _ hl hc (hv.below BX) hbl (by omega)
 have HSK:=Bas.hid SK;have hs4:size≤4:=by omega
 clear BX hv hs SK;go_enter Tryz.func163,Tryz.ntmps163
 go_wp2_with (fail);generalize w.alloc (.cells #[.slice a len cap,.int .i64 gl,.int .i64 size] 394)=W1 at*;refine HSK.out.mono ?_;rintro e w2 ⟨hb2,h2⟩;have HB2:=Bas.hid (HB1.out.trans (hb2.mono HB1.out.size));have k2:=(hb2.block _ (heap_lt k1)).trans k1;have hw1:w.heap.size≤W1.heap.size:=HB1.out.size;clear hb2 k1 HSK HB1;by_cases hok:seekOk bs 6
 ·rw [if_pos hok] at h2;obtain ⟨v,rfl,ho⟩:=h2;have HSL:Hid (segsL bs true size=partsUp (fun i=>segOne bs true size (rowB bs 2 (nS bs) i)) (nM bs 2) 0):=by unfold Hid segsL;rw [if_pos (by exact hok)];rfl
  have hM:nM bs 2≤65535:=by have:=nM_le bs 2;have:=be_rng2 HV.out.byte 4;unfold nN at*;omega
  obtain ⟨av0,cv0,rfl⟩:=own_slice ho;have HO:=Bas.hid ho;have hcv:nM bs 2≤cv0:=(own_cap ho).2.1;have HROW:=Bas.hid (fun (i:Nat) (w':World) (hi:i<nM bs 2) (hb:Below w.heap.size w w')=>row_in (HV.out.below hb) hok hi)
  have hs65:nS bs≤65535:=by have:=be_rng2 HV.out.byte 2;unfold nS;omega
  have HK2:=Bas.hid (fun (wr:World) (hb:Below w2.heap.size w2 wr)=>(hb.block _ (heap_lt k2)).trans k2)
  have hw2:w.heap.size≤w2.heap.size:=HB2.out.size;have lk2:=heap_lt k2;generalize nM bs 2=m at*;generalize sub a 12 (nN bs*nS bs)=A at*;generalize nS bs=s at*;obtain ⟨FN,hFN⟩:∃FN:Nat→Option PartD,(fun i=>segOne bs true size (rowB bs 2 s i))=FN:=⟨_,rfl⟩
  have HFN:=Bas.hid hFN;rw [hFN] at HSL;clear ho hok k2 hFN;go_wp2_with (fail);go_loopw [6,19] (fun vo vi wr=>∃(i:Nat) (vo':Value) (ps:List PartD) (vs:List Value),i≤m∧vi=.int .i64 i∧vo'=vo∧ps.length=i∧partsUp FN m 0=(partsUp FN (m - i) i).map (fun l=>ps++l)∧PRow wr w2.heap.size vo' ps vs∧Below w2.heap.size w2 wr) (fun _ vi _=>m - (intOf vi).toNat)
  case atStart=>exact ⟨0,_,[],[],Nat.zero_le _,rfl,rfl,rfl,by simp,pRow_nil _ _,Below.refl _ _⟩
  case round=>
   obtain ⟨i,vo',ps,vs,hi,rfl,hvo,hpl,hup,hpr,hb3⟩:=hrel;rw [←hvo];clear hvo;have HB3:=Bas.hid (HB2.out.trans (hb3.mono HB2.out.size));have HB23:=Bas.hid hb3;have HPR:=Bas.hid hpr;have HPL:=Bas.hid hpl;have HUP:=Bas.hid hup;have hown:=hpr.own;rw [hpl] at hown;obtain ⟨ado,cpo,rfl⟩:=own_slice hown;have HLT:Hid (∀g,(Value.slice ado i cpo).ownBlock=some g→g<wr.heap.size):=fun g hg=>(Row.own_block hown hg).2
   clear hb3 hpr hown hpl hup;by_cases him:i<m
   ·have e1:decide ((i:Int)<(m:Int))=true:=by simp;omega
    have e2:decide (i<m)=true:=by simp;omega
    have HSTEP:=Bas.hid (partsUp_step FN m i him);obtain ⟨hrv,hrl,hrn⟩:=HROW.out i wr him HB3.out;obtain ⟨gv,cpv,hv1,hcell,_⟩:=own_cell (Row.owned_below HO.out HB23.out) (rowsV_get him);cases hv1;have lgv:gv<wr.heap.size:=World.block_lt_of_cell? _ _ hcell;unfold rowV at hcell;obtain ⟨R,hR⟩:∃R,sub A (s*i) s=R:=⟨_,rfl⟩;rw [hR] at hrv hcell;obtain ⟨rb,hrb⟩:∃rb,rowB bs 2 s i=rb:=⟨_,rfl⟩;have hfi:FN i=segOne bs true size rb:=by rw [←HFN.out,←hrb]
    rw [hrb] at hrv hrl;have hsm:s≤maxLen:=by unfold maxLen;omega
    have HU2:=Bas.hid (fun w' (hb:Below wr.heap.size wr w')=>u16_ok R s s rb 2 w' (Nat.le_refl _) hsm (hrv.below hb) hrl (by omega) (by omega))
    have HU0:=Bas.hid (fun w' (hb:Below wr.heap.size wr w')=>u16_ok R s s rb 0 w' (Nat.le_refl _) hsm (hrv.below hb) hrl (by omega) (by omega))
    have HU4:=Bas.hid (fun w' (hb:Below wr.heap.size wr w')=>u16_ok R s s rb 4 w' (Nat.le_refl _) hsm (hrv.below hb) hrl (by omega) (by omega))
    simp only [show Int.toNat 0=0 from rfl,show Int.toNat 2=2 from rfl,show Int.toNat 4=4 from rfl] at HU2 HU0 HU4
    have bf:=be_rng2 hrv.byte 2;have bl:=be_rng2 hrv.byte 0;have b4:=be_rng2 hrv.byte 4;unfold segOne at hfi;obtain ⟨f,hf⟩:∃f,be rb 2 2=f:=⟨_,rfl⟩;obtain ⟨l,hl'⟩:∃l,be rb 0 2=l:=⟨_,rfl⟩;rw [hf] at HU2 bf hfi;rw [hl'] at HU0 bl hfi;obtain ⟨o,ho4⟩:=Int.eq_ofNat_of_zero_le b4.1;rw [ho4] at HU4 b4 hfi;obtain ⟨b40,b41⟩:=b4;have ho65:o≤65535:=by omega
    clear ho4;obtain ⟨bf0,bf1⟩:=bf;obtain ⟨bl0,bl1⟩:=bl;have HFI:=Bas.hid hfi;clear hR hrb hf hl' hrv hrl hfi;go_wp2_with (fail);have k3:=Bas.heap_new wr (.cells #[.slice R s s] 190);have hb3:=(Below.refl wr.heap.size wr).alloc (Nat.le_refl _) (.cells #[.slice R s s] 190);have HP3:=Bas.hid (pRow_below HPR.out hb3);generalize wr.alloc (.cells #[.slice R s s] 190)=W3 at*;have hs3:wr.heap.size≤W3.heap.size:=hb3.size;have HB33:=Bas.hid hb3;obtain ⟨T8,hT8⟩:∃T8,wr.heap.size=T8:=⟨_,rfl⟩;have HT8:=Bas.hid hT8;rw [hT8] at k3 ⊢;clear hb3 hcell lgv hT8;refine' Pl.region_v1 61 [] [0,1,2,3,4] 5 9 [6] _ (fun v u=>∃g,v=.pointer (some ⟨g,0,none⟩)∧W3.heap.size≤g∧u.heap[g]? =some (.cells #[.int .i64 0,.int .i64 0,.slice none 0 0] 400 (0,0))) (by kernel_rfl) (by kernel_rfl) (by simp) (fun _ _ _ _ e h=>⟨e▸h.1,h.2⟩) ?_ ?_ ?_ ?_
    rotate_left
    ·intro I F hI hF;simp only [Pl.selN,List.nil_append,List.drop_succ_cons,List.drop_zero];have x1:=fun i=>hF.cell (heap_lt k3) (cell_of_heap (i:=0) (v:=.slice R s s) k3 rfl) i
     repeat (go_big_quiet_step ((go_at_call 103;first|with_reducible exact hF.call (HU2.out _ (hF.on HB33.out _))|with_reducible exact hF.call (HU0.out _ (hF.on HB33.out _)))))
     refine wpQuiet_nil ?_;rfl
    ·rintro v u u' ⟨g,h1,h2,h3⟩ hu hu';exact ⟨g,h1,h2,(hu'.block g (heap_lt h3)).trans h3⟩
    ·simp only [Pl.selN,List.drop_succ_cons,List.drop_zero,List.mem_singleton,forall_eq];intro u hu
     go_simp
     simp only [Pl.valsAt];exact ⟨(Below.refl _ _).alloc (Nat.le_refl _) _,_,rfl,hu.size,Bas.heap_new _ _⟩
    ·intro v u hu hv;obtain ⟨T,rfl,hT,kT⟩:=hv;simp only [Pl.selN,List.drop_succ_cons,List.drop_zero,Act.put,List.setIfInBounds_toArray,List.set_cons_zero,List.set_cons_succ];have HNE:Hid (∀g,(Value.slice ado i cpo).ownBlock=some g→g≠T):=fun g hg=>by have:=HLT.out g hg;omega
     have hwT:w2.heap.size≤T:=Nat.le_trans HB23.out.size (Nat.le_trans hs3 hT);have hTT:T8≠T:=by have:=HT8.out;have:=heap_lt k3;omega
     have k4:=(hu.block _ (heap_lt k3)).trans k3;have HPu:=Bas.hid (pRow_below HP3.out hu);have HBu:=Bas.hid (HB23.out.trans ((HB33.out.trans (hu.mono HB33.out.size)).mono HB23.out.size));have HWu:=Bas.hid (HB33.out.trans (hu.mono HB33.out.size));have kr:=(hu.block _ (Nat.lt_of_lt_of_le (heap_lt (HK2.out wr HB23.out)) hs3)).trans ((HB33.out.block _ (heap_lt (HK2.out wr HB23.out))).trans (HK2.out wr HB23.out));have hRT:w.heap.size≠T:=by omega
     have c0:=cell_of_heap (i:=0) kT rfl;have c1:=cell_of_heap (i:=1) kT rfl;have c2:=cell_of_heap (i:=2) kT rfl;have f0:=free_of_heap (i:=0) kT;have f1:=free_of_heap (i:=1) kT;have f2:=free_of_heap (i:=2) kT;have hTr:wr.heap.size≤T:=Nat.le_trans hs3 hT;clear hu HP3 k3 hT hs3;by_cases hfl:f≤l
     ·have d1:decide (f≤l)=true:=decide_eq_true hfl;have hfi:=HFI.out;rw [if_pos hfl] at hfi;go_wp2_with (first|(go_at_call 56;refine Row.fence ?_));refine Row.unfence ?_;have q0:=heap_set (i:=0) kT (.int .i64 f);have q1:=heap_set (i:=1) q0 (.int .i64 l);have q2:=heap_set (i:=2) q1 (.slice none 0 0);have hkk:∀g,g≠T→(((u.setCell ⟨T,0,none⟩ (.int .i64 f)).setCell ⟨T,1,none⟩ (.int .i64 l)).setCell ⟨T,2,none⟩ (.slice none 0 0)).heap[g]? =u.heap[g]? :=fun g hg=>(Below.heap_setCell _ _ _ _ hg).trans ((Below.heap_setCell _ _ _ _ hg).trans (Below.heap_setCell _ _ _ _ hg))
      have HP5:=Bas.hid (pRow_keep HPu.out (w':=((u.setCell ⟨T,0,none⟩ (.int .i64 f)).setCell ⟨T,1,none⟩ (.int .i64 l)).setCell ⟨T,2,none⟩ (.slice none 0 0)) (fun g hg=>hkk g (HNE.out g hg)) (fun e size n u xs he ho=>Row.owned_keep ho fun g' hg'=>hkk g' (fun e'=>own_ty ho kT he (by rw [hg',e']))))
      have HB5:=Bas.hid (((HBu.out.setCell (p:=⟨T,0,none⟩) hwT (.int .i64 f)).setCell (p:=⟨T,1,none⟩) hwT (.int .i64 l)).setCell (p:=⟨T,2,none⟩) hwT (.slice none 0 0));have HTw':wr.heap.size≤T:=hTr;have HW5:=Bas.hid (((HWu.out.setCell (p:=⟨T,0,none⟩) HTw' (.int .i64 f)).setCell (p:=⟨T,1,none⟩) HTw' (.int .i64 l)).setCell (p:=⟨T,2,none⟩) HTw' (.slice none 0 0));have k5:=(hkk T8 hTT).trans k4;have kr5:=(hkk _ hRT).trans kr;generalize ((u.setCell ⟨T,0,none⟩ (.int .i64 f)).setCell ⟨T,1,none⟩ (.int .i64 l)).setCell ⟨T,2,none⟩ (.slice none 0 0)=W5 at*;have kT5:W5.heap[T]? =some (.cells #[.int .i64 f,.int .i64 l,.slice none 0 0] 400 (0,0)):=q2;clear q0 q1 q2 hkk kT c0 c1 c2 f0 f1 f2 k4 kr HPu HBu HWu;have c0:=cell_of_heap (i:=0) kT5 rfl;have c1:=cell_of_heap (i:=1) kT5 rfl;have r0:=cell_of_heap (i:=0) (v:=.slice a len cap) kr5 rfl;have r2:=cell_of_heap (i:=2) (v:=.int .i64 size) kr5 rfl;have y0:=cell_of_heap (i:=0) (v:=.slice R s s) k5 rfl;refine (need_yesb _ _ (by first|rfl|(simp;done)|(simp;omega))).mono ?_
      rintro e w' ⟨rfl,rfl⟩;go_wp2_with (fail);refine' Pl.region_v0 61 [] [0,1,2,3,4,5,6,7,8,9,10,11] [12,13,14] _ (by kernel_rfl) (by kernel_rfl) (by simp) (fun _ _ _ _ e h=>⟨e▸h.1,h.2⟩) ?_ ?_
      rotate_left
      ·intro I F hI hF;simp only [Pl.selN,List.nil_append,List.drop_succ_cons,List.drop_zero];have x0:=fun i=>hF.cell (heap_lt kT5) c0 i
       have x1:=fun i=>hF.cell (heap_lt kT5) c1 i
       have x2:=fun i=>hF.cell (heap_lt kr5) r0 i
       have x3:=fun i=>hF.cell (heap_lt kr5) r2 i
       have x4:=fun i=>hF.cell (heap_lt k5) y0 i
       repeat (go_big_quiet_step ((go_at_call 103;with_reducible exact hF.call (HU4.out _ (hF.on HW5.out _)))))
       refine wpQuiet_nil ?_;rfl
      intro u6 hu6;simp only [Pl.selN,List.drop_succ_cons,List.drop_zero];have kT6:=(hu6.block _ (heap_lt kT5)).trans kT5;have HP6':=Bas.hid (pRow_below HP5.out hu6);have HB6':=Bas.hid (HB5.out.trans (hu6.mono HB5.out.size));have hnn:l - f+1=(((l - f+1).toNat:Nat):Int):=by omega
      have HNN:=Bas.hid hnn;have hn7:(l - f+1).toNat≤65536:=by omega
      have hw6:w2.heap.size≤u6.heap.size:=HB6'.out.size;have L:=list_any a len cap bs o (l - f+1).toNat size u6 (by omega) hc (HV.out.below (HB2.out.trans (HB6'.out.mono HB2.out.size))) hbl (by have:=HS.out;omega) (by omega) (by omega)
      rw [←hnn] at L;simp only [if_true,Int.toNat_natCast] at hfi;have HFI2:=Bas.hid hfi;have HL:=Bas.hid L;generalize (l - f+1).toNat=n9 at*;clear L hnn hfi hu6 c0 c1 r0 r2 y0 kT5 k5 kr5 HP5 HB5 HW5;go_wp2_with (fail);refine HL.out.mono ?_;rintro e W8 ⟨hb8,h8⟩;have kT8:=(hb8.block _ (heap_lt kT6)).trans kT6;have HP8:=Bas.hid (pRow_below HP6'.out hb8);have HB8:=Bas.hid (HB6'.out.trans (hb8.mono HB6'.out.size));clear hb8 HL kT6;cases hls:listL bs o n9 size with
      |none=>
       rw [hls] at h8 HFI2;simp only at h8;subst h8;have HNO:Hid (segsL bs true size=none):=by
        unfold Hid;rw [HSL.out,HUP.out,HSTEP.out,HFI2.out];rfl
       have HBE:=Bas.hid (HB2.out.trans (HB8.out.mono HB2.out.size));go_wp2_with (fail);exact ⟨rfl,HBE.out,by rw [HNO.out]⟩
      |some xs=>
       rw [hls] at h8 HFI2;simp only at h8;obtain ⟨v9,rfl,ho9⟩:=h8;obtain ⟨av,cv,rfl⟩:=own_slice ho9;have HV8:=Bas.hid (Row.owned_base ho9 hw6);have HN9:Hid (xs.length=n9):=by unfold Hid;have:=ho9.1;simpa using this
       have HONE:Hid (FN i=some ⟨f,l,xs⟩):=HFI2.out;clear hls ho9;have c0:=cell_of_heap (i:=0) kT8 rfl;have c1:=cell_of_heap (i:=1) kT8 rfl;have c2:=cell_of_heap (i:=2) kT8 rfl;have ff2:=free_of_heap (i:=2) kT8;go_wp2_with (at_builtin;refine Row.fence ?_);refine Row.unfence ?_;have kT9:=heap_set (i:=2) kT8 (.slice av n9 cv);have hk9:∀g,g≠T→(W8.setCell ⟨T,2,none⟩ (.slice av n9 cv)).heap[g]? =W8.heap[g]? :=fun g hg=>Below.heap_setCell _ _ _ _ hg
       have HP9:=Bas.hid (pRow_keep HP8.out (w':=W8.setCell ⟨T,2,none⟩ (.slice av n9 cv)) (fun g hg=>hk9 g (HNE.out g hg)) (fun e size n u xs he ho=>Row.owned_keep ho fun g' hg'=>hk9 g' (fun e'=>own_ty ho kT8 he (by rw [hg',e']))))
       have HV9:=Bas.hid (Row.owned_keep HV8.out (w':=W8.setCell ⟨T,2,none⟩ (.slice av n9 cv)) fun g' hg'=>hk9 g' (fun e'=>own_ty HV8.out kT8 (by decide) (by rw [hg',e'])))
       have HB9:=Bas.hid (HB8.out.setCell (p:=⟨T,2,none⟩) hwT (.slice av n9 cv));have hs9:(W8.setCell ⟨T,2,none⟩ (.slice av n9 cv)).heap.size=W8.heap.size:=by simp
       clear c0 c1 c2 ff2 kT8 hk9;generalize W8.setCell ⟨T,2,none⟩ (.slice av n9 cv)=W9 at*;have kT9:W9.heap[T]? =some (.cells #[.int .i64 f,.int .i64 l,.slice av n9 cv] 400 (0,0)):=kT9;have q2:=Bas.heap_new W9 (.cells #[.int .i64 f,.int .i64 l,.slice av n9 cv] 400);rw [hs9] at q2;have hb6:=(Below.refl W9.heap.size W9).alloc (Nat.le_refl _) (.cells #[.int .i64 f,.int .i64 l,.slice av n9 cv] 400);have HP6:=Bas.hid (pRow_below HP9.out hb6);have HV6:=Bas.hid (Row.owned_below HV9.out hb6);have HB6:=Bas.hid (HB9.out.trans (hb6.mono HB9.out.size));generalize W9.alloc (.cells #[.int .i64 f,.int .i64 l,.slice av n9 cv] 400)=W6 at*;have hO6:=HP6.out.own;rw [HPL.out] at hO6;have HO6:=Bas.hid hO6;clear hb6 kT9 hO6;refine (Row.append_any rfl _ _ 395 400 rfl (.agg #[.int .i64 0,.int .i64 0,.slice none 0 0]) 3 40 Tryz.underlying395 infoP6 rfl (by decide) w2.heap.size (.slice ado i cpo) i _ rfl HO6.out (.slice (some ⟨W8.heap.size,0,none⟩) 1 1) 1 [.int .i64 f,.int .i64 l,.slice av n9 cv] rfl (leads_heap q2) rfl (by simp;first|exact ⟨rfl,rfl,rfl⟩|exact ⟨rfl,rfl⟩) (by unfold maxLen;omega) (by omega) HB6.out.size ?_)
       intro v7 w7 ho7 hg7 _;have HK7:=Bas.hid fun (e:TypeId) (size n:Nat) (u:Value) (xs:List Value) (he:e≠400) (ho:W6.ownsRow w2.heap.size e size u n xs)=>Row.owned_keep ho fun g' hg'=>hg7.block g' (Row.own_block ho hg').2 (fun e'=>own_rows_ne HO6.out ho (fun h=>he h.symm) e'.symm hg')
       have HP7:=Bas.hid (pRow_snoc (p:=⟨f,l,xs⟩) HP6.out (by rw [HPL.out];exact ho7) HK7.out (HK7.out _ _ _ _ _ (by decide) (by simp only [HN9.out];exact HV6.out)))
       have HB7:=Bas.hid (HB6.out.grown hg7 HB6.out.size (fun g' hg'=>(Row.own_block HO6.out hg').1))
       clear ho7 hg7 q2;go_wp2_with (fail);go_roundw
       case rel=>exact ⟨i+1,_,ps++[⟨f,l,xs⟩],vs++[.slice av n9 cv],by omega,by go_num,rfl,by rw [List.length_append,HPL.out];rfl,by
        rw [HUP.out,HSTEP.out,HONE.out,Option.bind_some];simp [Option.map_map,Function.comp_def],HP7.out,HB7.out⟩
       case measure=>simp [intOf];omega
     ·have d1:decide (f≤l)=false:=decide_eq_false hfl;have hfi:=HFI.out;rw [if_neg hfl] at hfi;have HNO:Hid (segsL bs true size=none):=by
       unfold Hid;rw [HSL.out,HUP.out,HSTEP.out,hfi];rfl
      clear hfi hfl;go_wp2_with (first|(go_at_call 56;refine Row.fence ?_));refine Row.unfence ?_;have HBE:=Bas.hid (HB2.out.trans ((((HBu.out.setCell (p:=⟨T,0,none⟩) hwT (.int .i64 f)).setCell (p:=⟨T,1,none⟩) hwT (.int .i64 l)).setCell (p:=⟨T,2,none⟩) hwT (.slice none 0 0)).mono HB2.out.size));refine (need_nob _ _ (by first|rfl|(simp;done)|(simp;omega))).mono ?_
      rintro e w' ⟨rfl,rfl⟩;exact ⟨rfl,HBE.out,by rw [HNO.out]⟩
   ·have him2:i=m:=by omega
    have e1:decide ((i:Int)<(m:Int))=false:=by simp;omega
    have hdone:segsL bs true size=some ps:=by
     rw [HSL.out,HUP.out,him2,Nat.sub_self,partsUp];simp
    have HD:=Bas.hid hdone;clear hdone;go_wp2_with (fail);go_ret;exact ⟨HB3.out,by rw [HD.out];exact ⟨_,vs,rfl,pRow_base HPR.out hw2⟩⟩
 ·rw [if_neg hok] at h2;subst h2;have HSL:Hid (segsL bs true size=none):=by unfold Hid segsL;rw [if_neg (by exact hok)]
  go_wp2_with (fail);exact ⟨rfl,HB2.out,by rw [HSL.out]⟩
theorem segs_false(a:Option Addr)(len cap:Nat)(bs:List Int)(gl:Int)(size:Nat)(w:World)(hl:len≤cap)(hc:cap≤maxLen)(hv:VB w a bs)(hbl:bs.length=len)(hs:size=2∨size=4):
  Calls Tryz.prog 163 #[.agg #[.slice a len cap,.int .i64 gl,.int .i64 size],.bool false] w (PartsP w (segsL bs false size)):=by
 have k1:=Bas.heap_new w (.cells #[.slice a len cap,.int .i64 gl,.int .i64 size] 394);have BX:=(Below.refl w.heap.size w).alloc (Nat.le_refl _) (.cells #[.slice a len cap,.int .i64 gl,.int .i64 size] 394);have HV:=Bas.hid hv;have HB1:=Bas.hid BX;have HS:=Bas.hid hs;have SK:=seek_any a len cap bs (4+(size:Int)) 2 _ hl hc (hv.below BX) hbl (by omega)
 have HSK:=Bas.hid SK;have hs4:size≤4:=by omega
 clear BX hv hs SK;go_enter Tryz.func163,Tryz.ntmps163
 go_wp2_with (fail);generalize w.alloc (.cells #[.slice a len cap,.int .i64 gl,.int .i64 size] 394)=W1 at*;refine HSK.out.mono ?_;rintro e w2 ⟨hb2,h2⟩;have HB2:=Bas.hid (HB1.out.trans (hb2.mono HB1.out.size));have k2:=(hb2.block _ (heap_lt k1)).trans k1;have hw1:w.heap.size≤W1.heap.size:=HB1.out.size;clear hb2 k1 HSK HB1;by_cases hok:seekOk bs (4+(size:Int))
 ·rw [if_pos hok] at h2;obtain ⟨v,rfl,ho⟩:=h2;have HSL:Hid (segsL bs false size=partsUp (fun i=>segOne bs false size (rowB bs 2 (nS bs) i)) (nM bs 2) 0):=by unfold Hid segsL;rw [if_pos (by exact hok)];rfl
  have hM:nM bs 2≤65535:=by have:=nM_le bs 2;have:=be_rng2 HV.out.byte 4;unfold nN at*;omega
  obtain ⟨av0,cv0,rfl⟩:=own_slice ho;have HO:=Bas.hid ho;have hcv:nM bs 2≤cv0:=(own_cap ho).2.1;have HROW:=Bas.hid (fun (i:Nat) (w':World) (hi:i<nM bs 2) (hb:Below w.heap.size w w')=>row_in (HV.out.below hb) hok hi)
  have hs65:nS bs≤65535:=by have:=be_rng2 HV.out.byte 2;unfold nS;omega
  have HK2:=Bas.hid (fun (wr:World) (hb:Below w2.heap.size w2 wr)=>(hb.block _ (heap_lt k2)).trans k2)
  have hw2:w.heap.size≤w2.heap.size:=HB2.out.size;have lk2:=heap_lt k2;generalize nM bs 2=m at*;generalize sub a 12 (nN bs*nS bs)=A at*;generalize nS bs=s at*;obtain ⟨FN,hFN⟩:∃FN:Nat→Option PartD,(fun i=>segOne bs false size (rowB bs 2 s i))=FN:=⟨_,rfl⟩
  have HFN:=Bas.hid hFN;rw [hFN] at HSL;clear ho hok k2 hFN;go_wp2_with (fail);go_loopw [6,19] (fun vo vi wr=>∃(i:Nat) (vo':Value) (ps:List PartD) (vs:List Value),i≤m∧vi=.int .i64 i∧vo'=vo∧ps.length=i∧partsUp FN m 0=(partsUp FN (m - i) i).map (fun l=>ps++l)∧PRow wr w2.heap.size vo' ps vs∧Below w2.heap.size w2 wr) (fun _ vi _=>m - (intOf vi).toNat)
  case atStart=>exact ⟨0,_,[],[],Nat.zero_le _,rfl,rfl,rfl,by simp,pRow_nil _ _,Below.refl _ _⟩
  case round=>
   obtain ⟨i,vo',ps,vs,hi,rfl,hvo,hpl,hup,hpr,hb3⟩:=hrel;rw [←hvo];clear hvo;have HB3:=Bas.hid (HB2.out.trans (hb3.mono HB2.out.size));have HB23:=Bas.hid hb3;have HPR:=Bas.hid hpr;have HPL:=Bas.hid hpl;have HUP:=Bas.hid hup;have hown:=hpr.own;rw [hpl] at hown;obtain ⟨ado,cpo,rfl⟩:=own_slice hown;have HLT:Hid (∀g,(Value.slice ado i cpo).ownBlock=some g→g<wr.heap.size):=fun g hg=>(Row.own_block hown hg).2
   clear hb3 hpr hown hpl hup;by_cases him:i<m
   ·have e1:decide ((i:Int)<(m:Int))=true:=by simp;omega
    have e2:decide (i<m)=true:=by simp;omega
    have HSTEP:=Bas.hid (partsUp_step FN m i him);obtain ⟨hrv,hrl,hrn⟩:=HROW.out i wr him HB3.out;obtain ⟨gv,cpv,hv1,hcell,_⟩:=own_cell (Row.owned_below HO.out HB23.out) (rowsV_get him);cases hv1;have lgv:gv<wr.heap.size:=World.block_lt_of_cell? _ _ hcell;unfold rowV at hcell;obtain ⟨R,hR⟩:∃R,sub A (s*i) s=R:=⟨_,rfl⟩;rw [hR] at hrv hcell;obtain ⟨rb,hrb⟩:∃rb,rowB bs 2 s i=rb:=⟨_,rfl⟩;have hfi:FN i=segOne bs false size rb:=by rw [←HFN.out,←hrb]
    rw [hrb] at hrv hrl;have hsm:s≤maxLen:=by unfold maxLen;omega
    have HU2:=Bas.hid (fun w' (hb:Below wr.heap.size wr w')=>u16_ok R s s rb 2 w' (Nat.le_refl _) hsm (hrv.below hb) hrl (by omega) (by omega))
    have HU0:=Bas.hid (fun w' (hb:Below wr.heap.size wr w')=>u16_ok R s s rb 0 w' (Nat.le_refl _) hsm (hrv.below hb) hrl (by omega) (by omega))
    have HU4:=Bas.hid (fun w' (hb:Below wr.heap.size wr w')=>number_any R s s rb 4 size w' (Nat.le_refl _) hsm (hrv.below hb) hrl (by have:=HS.out;omega) (by omega))
    simp only [show Int.toNat 0=0 from rfl,show Int.toNat 2=2 from rfl] at HU2 HU0 HU4
    have bf:=be_rng2 hrv.byte 2;have bl:=be_rng2 hrv.byte 0;have b4:=be_rng2 hrv.byte 4;unfold segOne at hfi;obtain ⟨f,hf⟩:∃f,be rb 2 2=f:=⟨_,rfl⟩;obtain ⟨l,hl'⟩:∃l,be rb 0 2=l:=⟨_,rfl⟩;rw [hf] at HU2 bf hfi;rw [hl'] at HU0 bl hfi;obtain ⟨x,hx⟩:∃x,be rb 4 size=x:=⟨_,rfl⟩;rw [hx] at HU4 hfi;clear b4 hx;obtain ⟨bf0,bf1⟩:=bf;obtain ⟨bl0,bl1⟩:=bl;have HFI:=Bas.hid hfi;clear hR hrb hf hl' hrv hrl hfi;go_wp2_with (fail);have k3:=Bas.heap_new wr (.cells #[.slice R s s] 190);have hb3:=(Below.refl wr.heap.size wr).alloc (Nat.le_refl _) (.cells #[.slice R s s] 190);have HP3:=Bas.hid (pRow_below HPR.out hb3);generalize wr.alloc (.cells #[.slice R s s] 190)=W3 at*;have hs3:wr.heap.size≤W3.heap.size:=hb3.size;have HB33:=Bas.hid hb3;obtain ⟨T8,hT8⟩:∃T8,wr.heap.size=T8:=⟨_,rfl⟩;have HT8:=Bas.hid hT8;rw [hT8] at k3 ⊢;clear hb3 hcell lgv hT8;refine' Pl.region_v1 61 [] [0,1,2,3,4] 5 9 [6] _ (fun v u=>∃g,v=.pointer (some ⟨g,0,none⟩)∧W3.heap.size≤g∧u.heap[g]? =some (.cells #[.int .i64 0,.int .i64 0,.slice none 0 0] 400 (0,0))) (by kernel_rfl) (by kernel_rfl) (by simp) (fun _ _ _ _ e h=>⟨e▸h.1,h.2⟩) ?_ ?_ ?_ ?_
    rotate_left
    ·intro I F hI hF;simp only [Pl.selN,List.nil_append,List.drop_succ_cons,List.drop_zero];have x1:=fun i=>hF.cell (heap_lt k3) (cell_of_heap (i:=0) (v:=.slice R s s) k3 rfl) i
     repeat (go_big_quiet_step ((go_at_call 103;first|with_reducible exact hF.call (HU2.out _ (hF.on HB33.out _))|with_reducible exact hF.call (HU0.out _ (hF.on HB33.out _)))))
     refine wpQuiet_nil ?_;rfl
    ·rintro v u u' ⟨g,h1,h2,h3⟩ hu hu';exact ⟨g,h1,h2,(hu'.block g (heap_lt h3)).trans h3⟩
    ·simp only [Pl.selN,List.drop_succ_cons,List.drop_zero,List.mem_singleton,forall_eq];intro u hu
     go_simp
     simp only [Pl.valsAt];exact ⟨(Below.refl _ _).alloc (Nat.le_refl _) _,_,rfl,hu.size,Bas.heap_new _ _⟩
    ·intro v u hu hv;obtain ⟨T,rfl,hT,kT⟩:=hv;simp only [Pl.selN,List.drop_succ_cons,List.drop_zero,Act.put,List.setIfInBounds_toArray,List.set_cons_zero,List.set_cons_succ];have HNE:Hid (∀g,(Value.slice ado i cpo).ownBlock=some g→g≠T):=fun g hg=>by have:=HLT.out g hg;omega
     have hwT:w2.heap.size≤T:=Nat.le_trans HB23.out.size (Nat.le_trans hs3 hT);have hTT:T8≠T:=by have:=HT8.out;have:=heap_lt k3;omega
     have k4:=(hu.block _ (heap_lt k3)).trans k3;have HPu:=Bas.hid (pRow_below HP3.out hu);have HBu:=Bas.hid (HB23.out.trans ((HB33.out.trans (hu.mono HB33.out.size)).mono HB23.out.size));have HWu:=Bas.hid (HB33.out.trans (hu.mono HB33.out.size));have kr:=(hu.block _ (Nat.lt_of_lt_of_le (heap_lt (HK2.out wr HB23.out)) hs3)).trans ((HB33.out.block _ (heap_lt (HK2.out wr HB23.out))).trans (HK2.out wr HB23.out));have hRT:w.heap.size≠T:=by omega
     have c0:=cell_of_heap (i:=0) kT rfl;have c1:=cell_of_heap (i:=1) kT rfl;have c2:=cell_of_heap (i:=2) kT rfl;have f0:=free_of_heap (i:=0) kT;have f1:=free_of_heap (i:=1) kT;have f2:=free_of_heap (i:=2) kT;have hTr:wr.heap.size≤T:=Nat.le_trans hs3 hT;clear hu HP3 k3 hT hs3;by_cases hfl:f≤l
     ·have d1:decide (f≤l)=true:=decide_eq_true hfl;have hfi:=HFI.out;rw [if_pos hfl] at hfi;go_wp2_with (first|(go_at_call 56;refine Row.fence ?_));refine Row.unfence ?_;have q0:=heap_set (i:=0) kT (.int .i64 f);have q1:=heap_set (i:=1) q0 (.int .i64 l);have q2:=heap_set (i:=2) q1 (.slice none 0 0);have hkk:∀g,g≠T→(((u.setCell ⟨T,0,none⟩ (.int .i64 f)).setCell ⟨T,1,none⟩ (.int .i64 l)).setCell ⟨T,2,none⟩ (.slice none 0 0)).heap[g]? =u.heap[g]? :=fun g hg=>(Below.heap_setCell _ _ _ _ hg).trans ((Below.heap_setCell _ _ _ _ hg).trans (Below.heap_setCell _ _ _ _ hg))
      have HP5:=Bas.hid (pRow_keep HPu.out (w':=((u.setCell ⟨T,0,none⟩ (.int .i64 f)).setCell ⟨T,1,none⟩ (.int .i64 l)).setCell ⟨T,2,none⟩ (.slice none 0 0)) (fun g hg=>hkk g (HNE.out g hg)) (fun e size n u xs he ho=>Row.owned_keep ho fun g' hg'=>hkk g' (fun e'=>own_ty ho kT he (by rw [hg',e']))))
      have HB5:=Bas.hid (((HBu.out.setCell (p:=⟨T,0,none⟩) hwT (.int .i64 f)).setCell (p:=⟨T,1,none⟩) hwT (.int .i64 l)).setCell (p:=⟨T,2,none⟩) hwT (.slice none 0 0));have HTw':wr.heap.size≤T:=hTr;have HW5:=Bas.hid (((HWu.out.setCell (p:=⟨T,0,none⟩) HTw' (.int .i64 f)).setCell (p:=⟨T,1,none⟩) HTw' (.int .i64 l)).setCell (p:=⟨T,2,none⟩) HTw' (.slice none 0 0));have k5:=(hkk T8 hTT).trans k4;have kr5:=(hkk _ hRT).trans kr;generalize ((u.setCell ⟨T,0,none⟩ (.int .i64 f)).setCell ⟨T,1,none⟩ (.int .i64 l)).setCell ⟨T,2,none⟩ (.slice none 0 0)=W5 at*;have kT5:W5.heap[T]? =some (.cells #[.int .i64 f,.int .i64 l,.slice none 0 0] 400 (0,0)):=q2;clear q0 q1 q2 hkk kT c0 c1 c2 f0 f1 f2 k4 kr HPu HBu HWu;have c0:=cell_of_heap (i:=0) kT5 rfl;have c1:=cell_of_heap (i:=1) kT5 rfl;have r0:=cell_of_heap (i:=0) (v:=.slice a len cap) kr5 rfl;have r2:=cell_of_heap (i:=2) (v:=.int .i64 size) kr5 rfl;have y0:=cell_of_heap (i:=0) (v:=.slice R s s) k5 rfl;rw [if_neg (by decide)] at hfi
      have HONE:Hid (FN i=some ⟨f,l,[x]⟩):=hfi;refine (need_yesb _ _ (by first|rfl|(simp;done)|(simp;omega))).mono ?_
      rintro e w' ⟨rfl,rfl⟩;clear hfi c0 c1 r0;go_wp2_with (fail);refine (HU4.out _ HW5.out).mono ?_;rintro e W7 ⟨rfl,hb7⟩;have kT7:=(hb7.block _ (heap_lt kT5)).trans kT5;have HP7':=Bas.hid (pRow_below HP5.out hb7);have HB7':=Bas.hid (HB5.out.trans (hb7.mono HB5.out.size));clear hb7 y0 r2 kT5 k5 kr5;have c0:=cell_of_heap (i:=0) kT7 rfl;have c1:=cell_of_heap (i:=1) kT7 rfl;have c2:=cell_of_heap (i:=2) kT7 rfl;have ff2:=free_of_heap (i:=2) kT7;have lT7:=heap_lt kT7;go_wp2_with (at_builtin;refine Row.fence ?_);refine Row.unfence ?_;clear c0 c1 c2 ff2;have kT9:=heap_set (i:=2) kT7 (.slice (some ⟨W7.heap.size,0,none⟩) 1 1);have hk9:∀g,g≠T→(W7.setCell ⟨T,2,none⟩ (.slice (some ⟨W7.heap.size,0,none⟩) 1 1)).heap[g]? =W7.heap[g]? :=fun g hg=>Below.heap_setCell _ _ _ _ hg
      have HP9:=Bas.hid (pRow_keep HP7'.out (w':=W7.setCell ⟨T,2,none⟩ (.slice (some ⟨W7.heap.size,0,none⟩) 1 1)) (fun g hg=>hk9 g (HNE.out g hg)) (fun e size n u xs he ho=>Row.owned_keep ho fun g' hg'=>hk9 g' (fun e'=>own_ty ho kT7 he (by rw [hg',e']))))
      have HB9:=Bas.hid (HB7'.out.setCell (p:=⟨T,2,none⟩) hwT (.slice (some ⟨W7.heap.size,0,none⟩) 1 1));have hs9:(W7.setCell ⟨T,2,none⟩ (.slice (some ⟨W7.heap.size,0,none⟩) 1 1)).heap.size=W7.heap.size:=by simp
      have hw7:w2.heap.size≤W7.heap.size:=HB7'.out.size;clear kT7 hk9;generalize W7.setCell ⟨T,2,none⟩ (.slice (some ⟨W7.heap.size,0,none⟩) 1 1)=W9 at*;have q8:=(Below.heap_alloc (W9.alloc (.cells #[.int .i64 x] 3)) (.cells #[.int .i64 f,.int .i64 l,.slice (some ⟨W7.heap.size,0,none⟩) 1 1] 400) _ (by simp)).trans (Bas.heap_new W9 (.cells #[.int .i64 x] 3))
      have q2:=Bas.heap_new2 W9 (.cells #[.int .i64 x] 3) (.cells #[.int .i64 f,.int .i64 l,.slice (some ⟨W7.heap.size,0,none⟩) 1 1] 400);rw [hs9] at q8 q2;have hb6:=((Below.refl W9.heap.size W9).alloc (Nat.le_refl _) (.cells #[.int .i64 x] 3)).alloc (by simp) (.cells #[.int .i64 f,.int .i64 l,.slice (some ⟨W7.heap.size,0,none⟩) 1 1] 400)
      have HP6:=Bas.hid (pRow_below HP9.out hb6);have HB6:=Bas.hid (HB9.out.trans (hb6.mono HB9.out.size));generalize (W9.alloc (.cells #[.int .i64 x] 3)).alloc (.cells #[.int .i64 f,.int .i64 l,.slice (some ⟨W7.heap.size,0,none⟩) 1 1] 400)=W6 at*;have HV6:=Bas.hid (own_one (base:=w2.heap.size) (cs:=[.int .i64 x]) q8 hw7 rfl);have hO6:=HP6.out.own;rw [HPL.out] at hO6;have HO6:=Bas.hid hO6;clear hb6 kT9 hO6 q8;refine (Row.append_any rfl _ _ 395 400 rfl (.agg #[.int .i64 0,.int .i64 0,.slice none 0 0]) 3 40 Tryz.underlying395 infoP6 rfl (by decide) w2.heap.size (.slice ado i cpo) i _ rfl HO6.out (.slice (some ⟨W7.heap.size+1,0,none⟩) 1 1) 1 [.int .i64 f,.int .i64 l,.slice (some ⟨W7.heap.size,0,none⟩) 1 1] rfl (leads_heap q2) rfl (by simp;first|exact ⟨rfl,rfl,rfl⟩|exact ⟨rfl,rfl⟩) (by unfold maxLen;omega) (by omega) HB6.out.size ?_)
      intro v7 w7 ho7 hg7 _;have HK7:=Bas.hid fun (e:TypeId) (size n:Nat) (u:Value) (xs:List Value) (he:e≠400) (ho:W6.ownsRow w2.heap.size e size u n xs)=>Row.owned_keep ho fun g' hg'=>hg7.block g' (Row.own_block ho hg').2 (fun e'=>own_rows_ne HO6.out ho (fun h=>he h.symm) e'.symm hg')
      have HP7:=Bas.hid (pRow_snoc (p:=⟨f,l,[x]⟩) HP6.out (by rw [HPL.out];exact ho7) HK7.out (HK7.out _ _ _ _ _ (by decide) HV6.out))
      have HB7:=Bas.hid (HB6.out.grown hg7 HB6.out.size (fun g' hg'=>(Row.own_block HO6.out hg').1))
      clear ho7 hg7 q2;go_wp2_with (fail);go_roundw
      case rel=>exact ⟨i+1,_,ps++[⟨f,l,[x]⟩],vs++[.slice (some ⟨W7.heap.size,0,none⟩) 1 1],by omega,by go_num,rfl,by rw [List.length_append,HPL.out];rfl,by
       rw [HUP.out,HSTEP.out,HONE.out,Option.bind_some];simp [Option.map_map,Function.comp_def],HP7.out,HB7.out⟩
      case measure=>simp [intOf];omega
     ·have d1:decide (f≤l)=false:=decide_eq_false hfl;have hfi:=HFI.out;rw [if_neg hfl] at hfi;have HNO:Hid (segsL bs false size=none):=by
       unfold Hid;rw [HSL.out,HUP.out,HSTEP.out,hfi];rfl
      clear hfi hfl;go_wp2_with (first|(go_at_call 56;refine Row.fence ?_));refine Row.unfence ?_;have HBE:=Bas.hid (HB2.out.trans ((((HBu.out.setCell (p:=⟨T,0,none⟩) hwT (.int .i64 f)).setCell (p:=⟨T,1,none⟩) hwT (.int .i64 l)).setCell (p:=⟨T,2,none⟩) hwT (.slice none 0 0)).mono HB2.out.size));refine (need_nob _ _ (by first|rfl|(simp;done)|(simp;omega))).mono ?_
      rintro e w' ⟨rfl,rfl⟩;exact ⟨rfl,HBE.out,by rw [HNO.out]⟩
   ·have him2:i=m:=by omega
    have e1:decide ((i:Int)<(m:Int))=false:=by simp;omega
    have hdone:segsL bs false size=some ps:=by
     rw [HSL.out,HUP.out,him2,Nat.sub_self,partsUp];simp
    have HD:=Bas.hid hdone;clear hdone;go_wp2_with (fail);go_ret;exact ⟨HB3.out,by rw [HD.out];exact ⟨_,vs,rfl,pRow_base HPR.out hw2⟩⟩
 ·rw [if_neg hok] at h2;subst h2;have HSL:Hid (segsL bs false size=none):=by unfold Hid segsL;rw [if_neg (by exact hok)]
  go_wp2_with (fail);exact ⟨rfl,HB2.out,by rw [HSL.out]⟩
end Lk
end Go.Proofs.YtceihjjjmcgmaaaGreat
