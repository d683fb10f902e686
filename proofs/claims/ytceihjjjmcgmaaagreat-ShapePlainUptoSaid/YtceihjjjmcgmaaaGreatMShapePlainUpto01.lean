/- Parts of a proof: texts RegV, Own, Mod, LnD, ShPlain, ShTop, ShFeat, RefOpen, ShSpeak, ShPlainL, ShPlainW. -/
import Derived.Test.YtceihjjjmcgmaaaGreatMP09
import Derived.Laws.AppendOwnNone
import Derived.Deep.Cut
import Derived.Great.BuildSlice
import Derived.Great.Walk
import Derived.Laws.CopyOwn
set_option maxHeartbeats 16000000
set_option maxRecDepth 100000
namespace Go.Proofs.YtceihjjjmcgmaaaGreat
open Go.RowKit
namespace Pl
section
variable {P:Program} {ops:Array Oper} {Q:Exit→Act→World→Prop} {B:Nat} {W:World}
theorem Fam.bel{w:World}{I:Type}{F:I→World}(hF:Fam w F)(i:I):Below w.heap.size w (F i):=hF.2 i
end
end Pl
namespace Vw
theorem VB.nil{w:World}{bs:List Int}(h:VB w none bs):bs=[]:=by
 cases bs with
 |nil=>rfl
 |cons x l=>obtain ⟨b,o,hb,_⟩:=h.cell 0 (by simp);cases hb
theorem VB.block{w:World}{b o:Nat}{bs:List Int}{u:World}(h:VB w (some ⟨b,o,none⟩) bs)(hh:u.heap[b]? =w.heap[b]?):VB u (some ⟨b,o,none⟩) bs:=
 ⟨h.len, h.byte, fun i hi => by
  obtain ⟨b',o',hab,hc⟩:=h.cell i hi;simp only [Option.some.injEq,Addr.mk.injEq,and_true] at hab;obtain ⟨rfl,rfl⟩:=hab;exact ⟨b,o,rfl,(World.cell?_of_block (w:=w) hh).trans hc⟩⟩
theorem OwnB.block{w u:World}{g n:Nat}(h:OwnB w g n)(hh:u.heap[g]? =w.heap[g]?):OwnB u g n:=by
 obtain ⟨cur,h1,h2⟩:=h;exact ⟨cur,hh.trans h1,h2⟩
end Vw
namespace Mod
theorem mono{S T:Nat→Prop}{a b:World}(h:Mod S a b)(hT:∀i,S i→i<a.heap.size→T i):Mod T a b:=⟨h.os,h.tape,h.output,h.size,fun i hi hs=>h.block i hi (fun h'=>hs (hT i h' hi))⟩
end Mod
namespace Ln
open Ch
theorem LineAt.base{w:World}{base base' g:Nat}{sv:Value}{xs:List Gl}(h:LineAt w base g sv xs)(hb:base'≤base):LineAt w base' g sv xs:=
 ⟨h.head,Row.owned_base h.own hb,Nat.le_trans hb h.low⟩
end Ln
namespace Sh
open Fo Vw Wr Ln Pc
def SetP(v:Value)(u:World):Prop:=∃ons:List (Int×Int),ons.length≤100000∧ons.Pairwise (fun x y=>Pk.ltP x y=true)∧Row.Leads u v ons.length (ons.flatMap Pk.setC)
theorem cleanL_le(xs:List Gl):(cleanL xs).length≤xs.length:=by unfold cleanL;exact List.length_filter_le _ _
theorem lnNew_len(ids:List Int):(lnNew ids).length=ids.length:=by unfold lnNew;exact lnPre_len _ _
theorem fshape_plain(gf gw g m:Nat)(dd:List Int)(s1:Option Addr)(s2 s3:Nat)(d z:Int)(a:Option Addr)(n cap:Nat)(ids:List Int)(l:List (Int×Int))(dn:Bool)(W w:World)
  (hO:OpenP W gf gw g m dd w) (hd:dd.length=4*m+2*(g - m)) (hm1:1≤m) (hmg:m≤g) (hgb:g≤65535)
  (hl:Row.Leads w (.slice a n cap) n (ids.map (Value.int .i64))) (hn:ids.length=n) (hck:checkN d ids=0) (hn2:n≤65536) (hdn:(d==2)=dn) (hd2:0≤d∧d≤2) (hz:-2147483648≤z∧z≤2147483647)
  (hs:Row.Leads w (.slice s1 s2 s3) s2 (l.flatMap Pk.setC)) (hsn:l.length=s2) (hs2:s2≤100000) (hwf:∀s∈l,Pk.wf64 s):
  Calls Tryz.prog 29 #[.pointer (some ⟨gf,0,none⟩),.agg #[.slice s1 s2 s3,.int .i64 d,.int .i32 z,.slice a n cap]] w fun e w'=>∃v,e=.returned (.tuple #[v,zeroV])∧Below w.heap.size w w'∧
   w'.ownsRow w.heap.size 82 5 v (cleanL (lnNew ids)).length (((cleanL (lnNew ids)).zip (alongN 0 (cleanL (lnNew ids)).length (plNew (advsOf g m dd dn (cleanL (lnNew ids)))))).flatMap outC):=by
 obtain ⟨gm,gk,ga,gt,h1,h2,h3,h4,h5,hw⟩:=hO;have hle:(cleanL (lnNew ids)).length≤n:=by have:=cleanL_le (lnNew ids);rw [lnNew_len,hn] at this;exact this
 refine shape_ok gf gw (.slice none 0 0) (.pointer (some ⟨gm,0,none⟩)) (.pointer (some ⟨gk,0,none⟩)) (.pointer (some ⟨ga,0,none⟩)) (.pointer (some ⟨gt,0,none⟩)) W.heap.size g m dd s1 s2 s3 d z a n cap ids (cleanL (lnNew ids)) (plNew (advsOf g m dd dn (cleanL (lnNew ids)))) 0 dn SetP w
  h1 hw hd hm1 hmg hgb hl hn hck hn2 hdn (by omega) (by rw [plNew_len];simp [advsOf]) ?_ ?_ ?_ ?_ ?_
 ·rintro sv u u' ⟨ons,q1,q2,q3⟩ hb;exact ⟨ons,q1,q2,Row.leads_below q3 hb⟩
 ·intro u hb;refine (Pk.settle_any s1 s2 s3 l (.slice none 0 0) [] [] 0 u (Row.leads_below hs hb) hsn hs2 (Ft.fRow_nil _ _) (by simp) hwf).mono ?_
  rintro e u' ⟨v,ys,rfl,hy,ho,hb2⟩;have hlen:=Pk.isSet_len hy;exact ⟨v,rfl,⟨ys,by omega,hy.1,Row.leads_owned ho⟩,hb2⟩
 ·rintro u B lg lsv stv hb hB hL ⟨ons,q1,q2,q3⟩;exact morx_none gm stv ons d _ B lg lsv (lnNew ids) w u h2 q3 q2 q1 hb hB hL (by rw [lnNew_len,hn];omega)
 ·intro u B lg lsv B2 pg psv hb hB hB2 hL hP;refine (krun_none gk _ _ _ _ u ((hb.block _ (heap_lt h3)).trans h3)).mono ?_;rintro e u' ⟨rfl,hb2⟩;exact ⟨rfl,hL.below hb2,hP.below hb2,Mod.of_below hb2⟩
 ·intro u hb;exact trak_none gt d z u ((hb.block _ (heap_lt h5)).trans h5) hz (by omega)
theorem shape_plain(x:Option Addr)(len xcap:Nat)(bs:List Int)(g m:Nat)(dd:List Int)(s1:Option Addr)(s2 s3:Nat)(d z:Int)(a:Option Addr)(n cap:Nat)(ids:List Int)(l:List (Int×Int))(dn:Bool)(w:World)
  (hxl:len≤xcap) (hxc:xcap≤maxLen) (hv:VB w x bs) (hbl:bs.length=len) (hxn:x=none→xcap=0) (hF:IsFont bs (widthP (g:Nat) (m:Nat) dd)) (hd:dd.length=4*m+2*(g - m)) (hm1:1≤m) (hmg:m≤g) (hgb:g≤65535)
  (hl:Row.Leads w (.slice a n cap) n (ids.map (Value.int .i64))) (hn:ids.length=n) (hck:checkN d ids=0) (hn2:n≤65536) (hdn:(d==2)=dn) (hd2:0≤d∧d≤2) (hz:-2147483648≤z∧z≤2147483647)
  (hs:Row.Leads w (.slice s1 s2 s3) s2 (l.flatMap Pk.setC)) (hsn:l.length=s2) (hs2:s2≤100000) (hwf:∀s∈l,Pk.wf64 s):
  Calls Tryz.prog 12 #[.slice x len xcap,.agg #[.slice s1 s2 s3,.int .i64 d,.int .i32 z,.slice a n cap]] w fun e w'=>∃v,e=.returned (.tuple #[v,zeroV])∧Below w.heap.size w w'∧
   w'.ownsRow w.heap.size 82 5 v (cleanL (lnNew ids)).length (((cleanL (lnNew ids)).zip (alongN 0 (cleanL (lnNew ids)).length (plNew (advsOf g m dd dn (cleanL (lnNew ids)))))).flatMap outC):=by
 obtain ⟨T,hT0⟩:∃T,w.heap.size=T:=⟨_,rfl⟩;have hbx:Bx w ((w.alloc (jobO s1 s2 s3 d z a n cap)).alloc fltO) T (jobO s1 s2 s3 d z a n cap) fltO:=by
  have hb1:=((Below.refl w.heap.size w).alloc (Nat.le_refl _) (jobO s1 s2 s3 d z a n cap));have hb2:=hb1.alloc hb1.size fltO;refine ⟨hT0▸hb2, ?_, ?_⟩
  ·rw [←hT0];exact (Below.heap_alloc _ _ _ (by rw [World.size_alloc];omega)).trans (Bas.heap_new _ _)
  ·rw [←hT0,←World.size_alloc w (jobO s1 s2 s3 d z a n cap)];exact Bas.heap_new _ _
 have HT0:=Bas.hid hT0;have HCH:=Bas.hid (fun u (hb:Below w.heap.size w u)=>check_any s1 s2 s3 d z a n cap ids u (Row.leads_below hl hb) hn)
 rw [hck] at HCH;have HOP:=Bas.hid (fun u (hb:Below w.heap.size w u)=>open_any x len xcap bs g m dd u hxl hxc (hv.below hb) hbl hxn hF hd hm1 hmg hgb)
 have HSH:=Bas.hid (fun gf gw W u (hb:Below w.heap.size w u) (hO:OpenP W gf gw g m dd u)=>fshape_plain gf gw g m dd s1 s2 s3 d z a n cap ids l dn W u hO hd hm1 hmg hgb (Row.leads_below hl hb) hn hck hn2 hdn hd2 hz (Row.leads_below hs hb) hsn hs2 hwf)
 obtain ⟨R,hR⟩:∃R,(cleanL (lnNew ids)).length=R:=⟨_,rfl⟩;obtain ⟨O,hO⟩:∃O,(((cleanL (lnNew ids)).zip (alongN 0 (cleanL (lnNew ids)).length (plNew (advsOf g m dd dn (cleanL (lnNew ids)))))).flatMap outC)=O:=⟨_,rfl⟩;rw [hO,hR] at HSH ⊢;rw [hT0] at HCH HOP HSH ⊢;have HBX:=Bas.hid hbx;clear hv hF hd hl hn hck hdn hs hsn hwf hbx hT0 hO hR hbl hxn hz hd2;go_enter Tryz.func12,Tryz.ntmps12
 go_wp2_with (fail);rw [HT0.out];generalize (w.alloc (jobO s1 s2 s3 d z a n cap)).alloc fltO=W2 at*;have j0:=cell_of_heap (i:=0) (v:=.slice s1 s2 s3) HBX.out.job rfl;have j1:=cell_of_heap (i:=1) (v:=.int .i64 d) HBX.out.job rfl;have j2:=cell_of_heap (i:=2) (v:=.int .i32 z) HBX.out.job rfl;have j3:=cell_of_heap (i:=3) (v:=.slice a n cap) HBX.out.job rfl;have lT:=heap_lt HBX.out.job;go_wp2_with (fail);refine (HCH.out W2 HBX.out.bel).mono ?_;rintro e w3 ⟨rfl,hb3⟩;have HB3:=Bas.hid (HBX.out.on hb3);clear hb3 j0 j1 j2 j3 lT HCH HBX;go_wp2_with (fail);refine (HOP.out w3 HB3.out.bel).mono ?_;rintro e w4 ⟨hb4,gf,gw,rfl,ho4⟩;have HB4:=Bas.hid (HB3.out.on hb4);have HO4:=Bas.hid ho4;have j0:=cell_of_heap (i:=0) (v:=.slice s1 s2 s3) HB4.out.job rfl;have j1:=cell_of_heap (i:=1) (v:=.int .i64 d) HB4.out.job rfl;have j2:=cell_of_heap (i:=2) (v:=.int .i32 z) HB4.out.job rfl;have j3:=cell_of_heap (i:=3) (v:=.slice a n cap) HB4.out.job rfl;have lT:=heap_lt HB4.out.job;clear hb4 ho4 HB3 HOP;go_wp2_with (fail);refine (HSH.out gf gw w3 w4 HB4.out.bel HO4.out).mono ?_;rintro e w5 ⟨v,rfl,hb5,ho5⟩;have HB5:=Bas.hid (HB4.out.on hb5);obtain ⟨aB,cB,rfl⟩:=own_slice ho5;have HO5:=Bas.hid (Row.owned_base ho5 HB4.out.lt);have y0:=free_of_heap (i:=0) HB5.out.flt;have y1:=free_of_heap (i:=1) HB5.out.flt;have y2:=free_of_heap (i:=2) HB5.out.flt;have z0:=cell_of_heap (i:=0) (v:=.int .i64 0) HB5.out.flt rfl;have z1:=cell_of_heap (i:=1) (v:=.int .i64 0) HB5.out.flt rfl;have z2:=cell_of_heap (i:=2) (v:=.int .i64 0) HB5.out.flt rfl;have lb:=heap_lt HB5.out.flt;clear hb5 ho5 j0 j1 j2 j3 lT HSH HB4 HO4;go_wp2_with (fail);have hfs:=flt_set HB5.out.flt;have hbl:Below T w _:=hfs.2.below HB5.out.bel (fun k hk=>by subst hk;omega) (by have:=HB5.out.lt;omega)
 have hrw:=hfs.2.owned HO5.out (fun k hk e=>by have:=(Row.own_block HO5.out hk).1;omega)
 have k0:=cell_of_heap (i:=0) (v:=.int .i64 0) hfs.1 rfl;have k1:=cell_of_heap (i:=1) (v:=.int .i64 0) hfs.1 rfl;have k2:=cell_of_heap (i:=2) (v:=.int .i64 0) hfs.1 rfl;generalize ((w5.setCell ⟨T+1,0,none⟩ (.int .i64 0)).setCell ⟨T+1,1,none⟩ (.int .i64 0)).setCell ⟨T+1,2,none⟩ (.int .i64 0)=WE at*;refine bodyPost_ret (v:=.tuple #[.slice aB R cB,zeroV]) (by simp [results,Tryz.results12,go_sem,k0,k1,k2]) rfl ⟨_,rfl,hbl,Row.owned_base hrw (by omega)⟩
def OpenN(B gf gw g m:Nat)(d:List Int)(fs:List Ft.FeatD)(u:World):Prop:=
 ∃x0 gm gk va gt base ss,u.heap[gf]? =some (.cells #[.pointer (some ⟨gw,0,none⟩),slV x0,.pointer (some ⟨gm,0,none⟩),.pointer (some ⟨gk,0,none⟩),.pointer va,.pointer (some ⟨gt,0,none⟩)] 204 (0,0))∧u.heap[gm]? =some zM∧u.heap[gk]? =some zK∧u.heap[gt]? =some zT∧Ft.FRow u base (slV x0) fs ss∧IsW u B gw g m d
def readsN(D:TabsD):Reads:=⟨(Ft.parseFs D.f).isSome,true,true,true,true,fun b=>FeatsAt b (Ft.parseFs D.f),fun _ _ _=>True,fun _ _ _=>True,fun _ _ _=>True,fun _ _ _=>True⟩
def ShapeN(T:Nat)(w:World)(o:Option (List Ft.FeatD))(R:Nat)(O:List Value)(e:Ending)(w':World):Prop:=
 Below T w w'∧match o with
  |some _=>∃v,e=.returned (.tuple #[v,zeroV])∧w'.ownsRow T 82 5 v R O
  |none=>e=.returned (.tuple #[.slice none 0 0,.agg #[.int .i64 2,.int .i64 0,.int .i64 0]])
def featsN(h:HasD)(D:TabsD):Option (List Ft.FeatD):=if h.f then Ft.parseFs D.f else some []
theorem readsN_ok(h:HasD)(D:TabsD)(l:List (List (Int×Int)))(g:Nat)(hm:h.m=false)(hk:h.k=false)(ht:h.t=false)(hD:D.f.length≤1000000)(hA:D.a=ankrW l)(hl:l.length≤30)(hok:∀s∈l,s.length≤30)(hg1:1≤g)(hg2:g≤65535):(readsN D).Ok h D g where
 f:=fun _ bG X base u hv hX _ hb=>rdFeat_any X D.f.length D.f base u hv rfl hD hX hb
 m:=fun h'=>by rw [hm] at h';cases h'
 k:=fun h'=>by rw [hk] at h';cases h'
 a:=fun _=>by rw [hA];exact rdAnkr_any l hl hok g hg1 hg2
 t:=fun h'=>by rw [ht] at h';cases h'
theorem readsN_good(h:HasD)(D:TabsD)(hm:h.m=false)(hk:h.k=false)(ht:h.t=false):(readsN D).good h=(featsN h D).isSome:=by
 obtain ⟨f,m,k,a,t⟩:=h;simp only at hm hk ht;subst hm hk ht;cases f<;>cases a<;>simp [Reads.good,readsN,featsN]
theorem openN_of{w w':World}{g m:Nat}{d:List Int}{h:HasD}{D:TabsD}{e:Ending}(hO:OpenR w g m d (readsN D) h e w')(hm:h.m=false)(hk:h.k=false)(ht:h.t=false):
  Below w.heap.size w w'∧match featsN h D with
   |some fs=>∃gf gw,e=.returned (.tuple #[.pointer (some ⟨gf,0,none⟩),.int .i64 0])∧OpenN w.heap.size gf gw g m d fs w'
   |none=>e=.returned (.tuple #[.pointer none,.int .i64 2]):=by
 obtain ⟨hb,h1,h2⟩:=hO;rw [readsN_good h D hm hk ht] at h1 h2;refine ⟨hb, ?_⟩;cases hf:featsN h D with
 |none=>exact h2 (by rw [hf];rfl)
 |some fs=>
  obtain ⟨gf,gw,base,x0,x1,x2,x3,x4,rfl,_,_,_,_,q1,q2,q3⟩:=h1 (by rw [hf];rfl)
  obtain ⟨a0,a1,a2,a3,a4⟩:=q3 w' (fun _ _ _=>rfl)
  obtain ⟨gm,_,rfl,z1⟩:=a1.2 hm;obtain ⟨gk,_,rfl,z2⟩:=a2.2 hk;obtain ⟨gt,_,rfl,z4⟩:=a4.2 ht;have hfr:∃base ss,Ft.FRow w' base (slV x0) fs ss:=by
   cases hh:h.f with
   |true=>
    obtain ⟨l,ss,e1,e2⟩:=a0.1 hh;unfold featsN at hf;rw [hh,if_pos rfl] at hf;have e1:Ft.parseFs D.f=some l:=e1;rw [hf] at e1;cases e1;exact ⟨_,ss,e2⟩
   |false=>
    have e0:x0=(none,0,0):=a0.2 hh;unfold featsN at hf;rw [hh] at hf;simp only [Bool.false_eq_true,if_false,Option.some.injEq] at hf;subst e0 hf;exact ⟨0,[],Ft.fRow_nil _ _⟩
  obtain ⟨b,ss,hfr⟩:=hfr;exact ⟨gf,gw,rfl,x0,gm,gk,x3,gt,b,ss,q1,z1,z2,z4,hfr,q2⟩
theorem fshape_feat(gf gw g m:Nat)(dd:List Int)(s1:Option Addr)(s2 s3:Nat)(d z:Int)(a:Option Addr)(n cap:Nat)(ids:List Int)(l:List (Int×Int))(dn:Bool)(B:Nat)(fs:List Ft.FeatD)(w:World)
  (hO:OpenN B gf gw g m dd fs w) (hd:dd.length=4*m+2*(g - m)) (hm1:1≤m) (hmg:m≤g) (hgb:g≤65535)
  (hl:Row.Leads w (.slice a n cap) n (ids.map (Value.int .i64))) (hn:ids.length=n) (hck:checkN d ids=0) (hn2:n≤65536) (hdn:(d==2)=dn) (hd2:0≤d∧d≤2) (hz:-2147483648≤z∧z≤2147483647)
  (hs:Row.Leads w (.slice s1 s2 s3) s2 (l.flatMap Pk.setC)) (hsn:l.length=s2) (hs2:s2≤100000) (hfs:fs.length≤1000000000) (hwf:∀s∈l,Pk.wf64 s):
  Calls Tryz.prog 29 #[.pointer (some ⟨gf,0,none⟩),.agg #[.slice s1 s2 s3,.int .i64 d,.int .i32 z,.slice a n cap]] w fun e w'=>∃v,e=.returned (.tuple #[v,zeroV])∧Below w.heap.size w w'∧
   w'.ownsRow w.heap.size 82 5 v (cleanL (lnNew ids)).length (((cleanL (lnNew ids)).zip (alongN 0 (cleanL (lnNew ids)).length (plNew (advsOf g m dd dn (cleanL (lnNew ids)))))).flatMap outC):=by
 obtain ⟨x0,gm,gk,va,gt,fb,ss,h1,h2,h3,h5,hfr,hw⟩:=hO;have hle:(cleanL (lnNew ids)).length≤n:=by have:=cleanL_le (lnNew ids);rw [lnNew_len,hn] at this;exact this
 refine shape_ok gf gw (slV x0) (.pointer (some ⟨gm,0,none⟩)) (.pointer (some ⟨gk,0,none⟩)) (.pointer va) (.pointer (some ⟨gt,0,none⟩)) B g m dd s1 s2 s3 d z a n cap ids (cleanL (lnNew ids)) (plNew (advsOf g m dd dn (cleanL (lnNew ids)))) 0 dn SetP w
  h1 hw hd hm1 hmg hgb hl hn hck hn2 hdn (by omega) (by rw [plNew_len];simp [advsOf]) ?_ ?_ ?_ ?_ ?_
 ·rintro sv u u' ⟨ons,q1,q2,q3⟩ hb;exact ⟨ons,q1,q2,Row.leads_below q3 hb⟩
 ·intro u hb;refine (Pk.settle_any s1 s2 s3 l (slV x0) fs ss fb u (Row.leads_below hs hb) hsn hs2 (Ft.fRow_below hfr hb) hfs hwf).mono ?_;rintro e u' ⟨v,ys,rfl,hy,ho,hb2⟩;have hlen:=Pk.isSet_len hy;exact ⟨v,rfl,⟨ys,by omega,hy.1,Row.leads_owned ho⟩,hb2⟩
 ·rintro u B lg lsv stv hb hB hL ⟨ons,q1,q2,q3⟩;exact morx_none gm stv ons d _ B lg lsv (lnNew ids) w u h2 q3 q2 q1 hb hB hL (by rw [lnNew_len,hn];omega)
 ·intro u B lg lsv B2 pg psv hb hB hB2 hL hP;refine (krun_none gk _ _ _ _ u ((hb.block _ (heap_lt h3)).trans h3)).mono ?_;rintro e u' ⟨rfl,hb2⟩;exact ⟨rfl,hL.below hb2,hP.below hb2,Mod.of_below hb2⟩
 ·intro u hb;exact trak_none gt d z u ((hb.block _ (heap_lt h5)).trans h5) hz (by omega)
theorem shape_feat(x:Option Addr)(len xcap:Nat)(bs:List Int)(g m:Nat)(dd:List Int)(s1:Option Addr)(s2 s3:Nat)(d z:Int)(a:Option Addr)(n cap:Nat)(ids:List Int)(l:List (Int×Int))(dn:Bool)(w:World)
  (hxl:len≤xcap) (hxc:xcap≤maxLen) (hv:VB w x bs) (hbl:bs.length=len) (hxn:x=none→xcap=0) (h:HasD) (D:TabsD) (al:List (List (Int×Int))) (hmf:h.m=false) (hkf:h.k=false) (htf:h.t=false) (hD:D.f.length≤1000000) (hA:D.a=ankrW al) (hal:al.length≤30) (hok:∀s∈al,s.length≤30) (hfl:∀fs,featsN h D=some fs→fs.length≤1000000000) (hF:IsFont bs (fontP h D (g:Nat) (m:Nat) dd)) (hd:dd.length=4*m+2*(g - m)) (hm1:1≤m) (hmg:m≤g) (hgb:g≤65535)
  (hl:Row.Leads w (.slice a n cap) n (ids.map (Value.int .i64))) (hn:ids.length=n) (hck:checkN d ids=0) (hn2:n≤65536) (hdn:(d==2)=dn) (hd2:0≤d∧d≤2) (hz:-2147483648≤z∧z≤2147483647)
  (hs:Row.Leads w (.slice s1 s2 s3) s2 (l.flatMap Pk.setC)) (hsn:l.length=s2) (hs2:s2≤100000) (hwf:∀s∈l,Pk.wf64 s):
  Calls Tryz.prog 12 #[.slice x len xcap,.agg #[.slice s1 s2 s3,.int .i64 d,.int .i32 z,.slice a n cap]] w (ShapeN w.heap.size w (featsN h D) (cleanL (lnNew ids)).length (((cleanL (lnNew ids)).zip (alongN 0 (cleanL (lnNew ids)).length (plNew (advsOf g m dd dn (cleanL (lnNew ids)))))).flatMap outC)):=by
 obtain ⟨T,hT0⟩:∃T,w.heap.size=T:=⟨_,rfl⟩;have hbx:Bx w ((w.alloc (jobO s1 s2 s3 d z a n cap)).alloc fltO) T (jobO s1 s2 s3 d z a n cap) fltO:=by
  have hb1:=((Below.refl w.heap.size w).alloc (Nat.le_refl _) (jobO s1 s2 s3 d z a n cap));have hb2:=hb1.alloc hb1.size fltO;refine ⟨hT0▸hb2, ?_, ?_⟩
  ·rw [←hT0];exact (Below.heap_alloc _ _ _ (by rw [World.size_alloc];omega)).trans (Bas.heap_new _ _)
  ·rw [←hT0,←World.size_alloc w (jobO s1 s2 s3 d z a n cap)];exact Bas.heap_new _ _
 have HT0:=Bas.hid hT0;have HCH:=Bas.hid (fun u (hb:Below w.heap.size w u)=>check_any s1 s2 s3 d z a n cap ids u (Row.leads_below hl hb) hn)
 rw [hck] at HCH;have HOP:=Bas.hid (fun u (hb:Below w.heap.size w u)=>(open_gen (readsN D) h D x len xcap bs g m dd u (readsN_ok h D al g hmf hkf htf hD hA hal hok (by omega) hgb) hxl hxc (hv.below hb) hbl hxn hF hd hm1 hmg hgb).mono (fun e u2 hO=>openN_of hO hmf hkf htf))
 have HSH:=Bas.hid (fun gf gw B fs u (hb:Below w.heap.size w u) (hfe:featsN h D=some fs) (hO:OpenN B gf gw g m dd fs u)=>fshape_feat gf gw g m dd s1 s2 s3 d z a n cap ids l dn B fs u hO hd hm1 hmg hgb (Row.leads_below hl hb) hn hck hn2 hdn hd2 hz (Row.leads_below hs hb) hsn hs2 (hfl fs hfe) hwf)
 obtain ⟨R,hR⟩:∃R,(cleanL (lnNew ids)).length=R:=⟨_,rfl⟩;obtain ⟨O,hO⟩:∃O,(((cleanL (lnNew ids)).zip (alongN 0 (cleanL (lnNew ids)).length (plNew (advsOf g m dd dn (cleanL (lnNew ids)))))).flatMap outC)=O:=⟨_,rfl⟩;rw [hO,hR] at HSH ⊢;rw [hT0] at HCH HOP HSH ⊢;have HBX:=Bas.hid hbx;clear hv hF hd hl hn hck hdn hs hsn hwf hbx hT0 hO hR hbl hxn hz hd2;go_enter Tryz.func12,Tryz.ntmps12
 go_wp2_with (fail);rw [HT0.out];generalize (w.alloc (jobO s1 s2 s3 d z a n cap)).alloc fltO=W2 at*;have j0:=cell_of_heap (i:=0) (v:=.slice s1 s2 s3) HBX.out.job rfl;have j1:=cell_of_heap (i:=1) (v:=.int .i64 d) HBX.out.job rfl;have j2:=cell_of_heap (i:=2) (v:=.int .i32 z) HBX.out.job rfl;have j3:=cell_of_heap (i:=3) (v:=.slice a n cap) HBX.out.job rfl;have lT:=heap_lt HBX.out.job;go_wp2_with (fail);refine (HCH.out W2 HBX.out.bel).mono ?_;rintro e w3 ⟨rfl,hb3⟩;have HB3:=Bas.hid (HBX.out.on hb3);clear hb3 j0 j1 j2 j3 lT HCH HBX;go_wp2_with (fail);refine (HOP.out w3 HB3.out.bel).mono ?_;rintro e w4 ⟨hb4,ho4⟩;cases hfe:featsN h D with
 |none=>
  rw [hfe] at ho4;simp only at ho4;subst ho4;have HFE:=Bas.hid hfe;clear hfe;have HB4:=Bas.hid (HB3.out.on hb4);have y0:=free_of_heap (i:=0) HB4.out.flt;have y1:=free_of_heap (i:=1) HB4.out.flt;have y2:=free_of_heap (i:=2) HB4.out.flt;have z0:=cell_of_heap (i:=0) (v:=.int .i64 0) HB4.out.flt rfl;have z1:=cell_of_heap (i:=1) (v:=.int .i64 0) HB4.out.flt rfl;have z2:=cell_of_heap (i:=2) (v:=.int .i64 0) HB4.out.flt rfl;have lb:=heap_lt HB4.out.flt;clear hb4 HB3 HOP HSH;go_wp2_with (fail);have q:=heap_set (i:=2) (heap_set (i:=1) (heap_set (i:=0) HB4.out.flt (.int .i64 2)) (.int .i64 0)) (.int .i64 0);have hbl:Below T w _:=((HB4.out.bel.setCell (p:=⟨T+1,0,none⟩) (Nat.le_succ _) (.int .i64 2)).setCell (p:=⟨T+1,1,none⟩) (Nat.le_succ _) (.int .i64 0)).setCell (p:=⟨T+1,2,none⟩) (Nat.le_succ _) (.int .i64 0);generalize ((w4.setCell ⟨T+1,0,none⟩ (.int .i64 2)).setCell ⟨T+1,1,none⟩ (.int .i64 0)).setCell ⟨T+1,2,none⟩ (.int .i64 0)=W8 at*;have k8:W8.heap[T+1]? =some (.cells #[.int .i64 2,.int .i64 0,.int .i64 0] 74 (0,0)):=q;have k0:=cell_of_heap (i:=0) k8 rfl;have k1:=cell_of_heap (i:=1) k8 rfl;have k2:=cell_of_heap (i:=2) k8 rfl;clear y0 y1 y2 z0 z1 z2 q;refine bodyPost_ret (v:=.tuple #[.slice none 0 0,.agg #[.int .i64 2,.int .i64 0,.int .i64 0]]) (by simp [results,Tryz.results12,go_sem,k0,k1,k2]) rfl (by unfold ShapeN;rw [HFE.out];exact ⟨hbl,rfl⟩)
 |some fs=>
  rw [hfe] at ho4;simp only at ho4;obtain ⟨gf,gw,rfl,ho4⟩:=ho4;have HFE:=Bas.hid hfe;clear hfe;have HB4:=Bas.hid (HB3.out.on hb4);have HO4:=Bas.hid ho4;have j0:=cell_of_heap (i:=0) (v:=.slice s1 s2 s3) HB4.out.job rfl;have j1:=cell_of_heap (i:=1) (v:=.int .i64 d) HB4.out.job rfl;have j2:=cell_of_heap (i:=2) (v:=.int .i32 z) HB4.out.job rfl;have j3:=cell_of_heap (i:=3) (v:=.slice a n cap) HB4.out.job rfl;have lT:=heap_lt HB4.out.job;clear hb4 ho4 HB3 HOP;go_wp2_with (fail);refine (HSH.out gf gw _ fs w4 HB4.out.bel HFE.out HO4.out).mono ?_;rintro e w5 ⟨v,rfl,hb5,ho5⟩;have HB5:=Bas.hid (HB4.out.on hb5);obtain ⟨aB,cB,rfl⟩:=own_slice ho5;have HO5:=Bas.hid (Row.owned_base ho5 HB4.out.lt);have y0:=free_of_heap (i:=0) HB5.out.flt;have y1:=free_of_heap (i:=1) HB5.out.flt;have y2:=free_of_heap (i:=2) HB5.out.flt;have z0:=cell_of_heap (i:=0) (v:=.int .i64 0) HB5.out.flt rfl;have z1:=cell_of_heap (i:=1) (v:=.int .i64 0) HB5.out.flt rfl;have z2:=cell_of_heap (i:=2) (v:=.int .i64 0) HB5.out.flt rfl;have lb:=heap_lt HB5.out.flt;clear hb5 ho5 j0 j1 j2 j3 lT HSH HB4 HO4;go_wp2_with (fail);have hfs:=flt_set HB5.out.flt;have hbl:Below T w _:=hfs.2.below HB5.out.bel (fun k hk=>by subst hk;omega) (by have:=HB5.out.lt;omega)
  have hrw:=hfs.2.owned HO5.out (fun k hk e=>by have:=(Row.own_block HO5.out hk).1;omega)
  have k0:=cell_of_heap (i:=0) (v:=.int .i64 0) hfs.1 rfl;have k1:=cell_of_heap (i:=1) (v:=.int .i64 0) hfs.1 rfl;have k2:=cell_of_heap (i:=2) (v:=.int .i64 0) hfs.1 rfl;generalize ((w5.setCell ⟨T+1,0,none⟩ (.int .i64 0)).setCell ⟨T+1,1,none⟩ (.int .i64 0)).setCell ⟨T+1,2,none⟩ (.int .i64 0)=WE at*;refine bodyPost_ret (v:=.tuple #[.slice aB R cB,zeroV]) (by simp [results,Tryz.results12,go_sem,k0,k1,k2]) rfl (by unfold ShapeN;rw [HFE.out];exact ⟨hbl,_,rfl,Row.owned_base hrw (by omega)⟩)
end Sh
namespace Sh
open Fo Vw Wr Ln Pc Ref01
theorem rfind_has{h:HasD}{D:TabsD}{g m:Nat}{dd:List Int}{p:PartD}(hp:p∈opts h D∨p∈four (g:Nat) (m:Nat) dd)(a:Option Addr)(len cap:Nat)(bs:List Int)(w:World)(hl:len≤cap)(hc:cap≤maxLen)(hv:VB w a bs)(hbl:bs.length=len)(hF:IsFont bs (fontP h D (g:Nat) (m:Nat) dd)):
  ∃A C,∀w',Below w.heap.size w w'→Calls Tryz.prog 22 #[.slice a len cap,.string p.tag] w' fun e w''=>e=.returned (.tuple #[.slice A p.data.length C,.bool true])∧Below w'.heap.size w' w''∧VB w' A p.data∧p.data.length≤C:=by
 obtain ⟨i,hi⟩:=fontP_at_mem hp;exact ⟨_,_,fun w' hb=>rfind_yes a len cap bs _ p.tag i p hi rfl w' hl hc (hv.below hb) hbl hF⟩
theorem rfind_not{h:HasD}{D:TabsD}{g m:Nat}{dd:List Int}{s:ByteArray}(h1:∀p∈opts h D,p.tag≠s)(h2:s≠sMaxp∧s≠sHead∧s≠sHhea∧s≠sHmtx)(a:Option Addr)(len cap:Nat)(bs:List Int)(w:World)(hl:len≤cap)(hc:cap≤maxLen)(hv:VB w a bs)(hbl:bs.length=len)(hF:IsFont bs (fontP h D (g:Nat) (m:Nat) dd)):
  ∀w',Below w.heap.size w w'→Calls Tryz.prog 22 #[.slice a len cap,.string s] w' fun e w''=>e=.returned (.tuple #[.slice none 0 0,.bool false])∧Below w'.heap.size w' w'':=
 fun w' hb=>rfind_no a len cap bs _ s (fontP_no h1 h2) w' hl hc (hv.below hb) hbl hF
def ROpenR(w:World)(g m:Nat)(dd:List Int)(o:Bool)(e:Ending)(w':World):Prop:=
 Below w.heap.size w w'∧∃a1 c1 a2 c2 a3 n3 c3 b4 a5 n5 c5 a6 n6 c6 a7 n7 c7,e=.returned (.tuple #[.agg #[.int .i64 (g:Int),.int .i64 1000,.int .i64 (m:Int),.slice a1 g c1,.slice a2 g c2,.slice a3 n3 c3,.slice none 0 0,.slice none 0 0,.slice none 0 0,.bool b4,.slice a5 n5 c5,.slice a6 n6 c6,.slice a7 n7 c7,.slice none 0 0,.slice none 0 0,.slice none 0 0,.slice none 0 0],.bool o])∧
  w'.ownsRow w.heap.size 3 1 (.slice a1 g c1) g ((advR g m dd).map (Value.int .i64))
abbrev fntC(g m:Nat)(a1 a2:Value)(xf:Value)(b4:Bool)(y1 y2 y3:Value):Array Value:=#[.int .i64 (g:Int),.int .i64 1000,.int .i64 (m:Int),a1,a2,xf,.slice none 0 0,.slice none 0 0,.slice none 0 0,.bool b4,y1,y2,y3,.slice none 0 0,.slice none 0 0,.slice none 0 0,.slice none 0 0]
structure FSt (w u:World) (T8 g m:Nat) (dd:List Int) (a1 a2:Value) (xf:Value) (b4:Bool) (y1 y2 y3:Value):Prop where
 bel:Below w.heap.size w u
 box:u.heap[w.heap.size]? =some (.cells #[.int .i64 0,.int .i64 0,.int .i64 0,.slice none 0 0,.slice none 0 0,.slice none 0 0,.slice none 0 0,.slice none 0 0,.slice none 0 0,.bool false,.slice none 0 0,.slice none 0 0,.slice none 0 0,.slice none 0 0,.slice none 0 0,.slice none 0 0,.slice none 0 0] 69 (0,0))
 cel:u.heap[T8]? =some (.cells (fntC g m a1 a2 xf b4 y1 y2 y3) 69 (0,0))
 own:u.ownsRow w.heap.size 3 1 a1 g ((advR g m dd).map (Value.int .i64))
 lt:w.heap.size<T8
theorem FSt.below{w u u':World}{T8 g m:Nat}{dd:List Int}{a1 a2 xf y1 y2 y3:Value}{b4:Bool}(h:FSt w u T8 g m dd a1 a2 xf b4 y1 y2 y3)(hb:Below u.heap.size u u'):FSt w u' T8 g m dd a1 a2 xf b4 y1 y2 y3:=
 ⟨h.bel.trans (hb.mono h.bel.size),(hb.block _ (heap_lt h.box)).trans h.box,(hb.block _ (heap_lt h.cel)).trans h.cel,Row.owned_below h.own hb,h.lt⟩
theorem FSt.setF{w u:World}{T8 g m:Nat}{dd:List Int}{a1 a2 xf y1 y2 y3:Value}{b4:Bool}(h:FSt w u T8 g m dd a1 a2 xf b4 y1 y2 y3)(x:Value):FSt w (u.setCell ⟨T8,5,none⟩ x) T8 g m dd a1 a2 x b4 y1 y2 y3:=
 ⟨h.bel.setCell (p:=⟨T8,5,none⟩) (Nat.le_of_lt h.lt) x,(Below.heap_setCell _ _ _ _ (by have:=h.lt;show w.heap.size≠T8;omega)).trans h.box,heap_set (i:=5) h.cel x,Row.owned_keep h.own fun b hb=>Below.heap_setCell _ _ _ _ (fun e=>own_ty h.own h.cel (by decide) (by rw [hb,e])),h.lt⟩
theorem FSt.setA{w u:World}{T8 g m:Nat}{dd:List Int}{a1 a2 xf y1 y2 y3:Value}{b4:Bool}(h:FSt w u T8 g m dd a1 a2 xf b4 y1 y2 y3)(b:Bool)(z1 z2 z3:Value):FSt w ((((u.setCell ⟨T8,9,none⟩ (.bool b)).setCell ⟨T8,10,none⟩ z1).setCell ⟨T8,11,none⟩ z2).setCell ⟨T8,12,none⟩ z3) T8 g m dd a1 a2 xf b z1 z2 z3:=by
 have hl:=Nat.le_of_lt h.lt;have hk:∀b',b'≠T8→((((u.setCell ⟨T8,9,none⟩ (.bool b)).setCell ⟨T8,10,none⟩ z1).setCell ⟨T8,11,none⟩ z2).setCell ⟨T8,12,none⟩ z3).heap[b']? =u.heap[b']? :=fun b' hne=>
  (Below.heap_setCell _ _ _ _ hne).trans ((Below.heap_setCell _ _ _ _ hne).trans ((Below.heap_setCell _ _ _ _ hne).trans (Below.heap_setCell _ _ _ _ hne)))
 exact ⟨(((h.bel.setCell (p:=⟨T8,9,none⟩) hl _).setCell (p:=⟨T8,10,none⟩) hl _).setCell (p:=⟨T8,11,none⟩) hl _).setCell (p:=⟨T8,12,none⟩) hl _,(hk _ (by have:=h.lt;omega)).trans h.box,heap_set (i:=12) (heap_set (i:=11) (heap_set (i:=10) (heap_set (i:=9) h.cel _) _) _) _,Row.owned_keep h.own fun b' hb=>hk b' (fun e=>own_ty h.own h.cel (by decide) (by rw [hb,e])),h.lt⟩
theorem ropen_ok(a:Option Addr)(len cap:Nat)(bs:List Int)(h:HasD)(D:TabsD)(al:List (List (Int×Int)))(g m:Nat)(dd:List Int)(w:World)(hl:len≤cap)(hc:cap≤maxLen)(hv:VB w a bs)(hbl:bs.length=len)(hmf:h.m=false)(hkf:h.k=false)(htf:h.t=false)(hA:D.a=ankrW al)(hal:al.length≤30)(hok:∀s∈al,s.length≤30)(hfl:D.f.length≤1000000)(hall:D.a.length≤1000000)
  (hF:IsFont bs (fontP h D (g:Nat) (m:Nat) dd)) (hd:dd.length=4*m+2*(g - m)) (hm1:1≤m) (hmg:m≤g) (hgb:g≤65535):
  Calls Tryz.prog 11 #[.slice a len cap] w (ROpenR w g m dd (featsN h D).isSome):=by
 obtain ⟨j0,hj0⟩:=fontP_at_mem (h:=h) (D:=D) (g:=(g:Nat)) (m:=(m:Nat)) (d:=dd) (p:=⟨sMaxp,maxpL (g:Nat)⟩) (.inr (by simp [four]))
 obtain ⟨j1,hj1⟩:=fontP_at_mem (h:=h) (D:=D) (g:=(g:Nat)) (m:=(m:Nat)) (d:=dd) (p:=⟨sHead,headL 1000⟩) (.inr (by simp [four]))
 obtain ⟨j2,hj2⟩:=fontP_at_mem (h:=h) (D:=D) (g:=(g:Nat)) (m:=(m:Nat)) (d:=dd) (p:=⟨sHhea,hheaL (m:Nat)⟩) (.inr (by simp [four]))
 obtain ⟨j3,hj3⟩:=fontP_at_mem (h:=h) (D:=D) (g:=(g:Nat)) (m:=(m:Nat)) (d:=dd) (p:=⟨sHmtx,dd⟩) (.inr (by simp [four]))
 have HFA:=Bas.hid (fun w' (hb:Below w.heap.size w w')=>rface_ok a len cap bs _ j0 j1 j2 g m w' hl hc (hv.below hb) hbl hF hj0 hj1 hj2 hm1 hmg hgb)
 have HWI:=Bas.hid (fun w' (hb:Below w.heap.size w w')=>rwidth_ok a len cap bs _ j0 j1 j2 j3 g m dd w' hl hc (hv.below hb) hbl hF hj0 hj1 hj2 hj3 hm1 hmg hgb hd)
 have HNM:=Bas.hid (rfind_not (s:=sMorx) (fun p hp=>by
  rcases opts_mem h D p hp with ⟨h1,rfl⟩|⟨h1,rfl⟩|⟨h1,rfl⟩|⟨h1,rfl⟩|⟨h1,rfl⟩<;>first|(exact absurd (hmf.symm.trans h1) (by decide))|(simp only;decide)) (by decide) a len cap bs w hl hc hv hbl hF)
 have HNK:=Bas.hid (rfind_not (s:=sKerx) (fun p hp=>by
  rcases opts_mem h D p hp with ⟨h1,rfl⟩|⟨h1,rfl⟩|⟨h1,rfl⟩|⟨h1,rfl⟩|⟨h1,rfl⟩<;>first|(exact absurd (hkf.symm.trans h1) (by decide))|(simp only;decide)) (by decide) a len cap bs w hl hc hv hbl hF)
 have HNT:=Bas.hid (rfind_not (s:=sTrak) (fun p hp=>by
  rcases opts_mem h D p hp with ⟨h1,rfl⟩|⟨h1,rfl⟩|⟨h1,rfl⟩|⟨h1,rfl⟩|⟨h1,rfl⟩<;>first|(exact absurd (htf.symm.trans h1) (by decide))|(simp only;decide)) (by decide) a len cap bs w hl hc hv hbl hF)
 have HFN:=Bas.hid (fun hf:h.f=false=>rfind_not (s:=sFeat) (fun p hp=>by
  rcases opts_mem h D p hp with ⟨h1,rfl⟩|⟨h1,rfl⟩|⟨h1,rfl⟩|⟨h1,rfl⟩|⟨h1,rfl⟩<;>first|(exact absurd (hf.symm.trans h1) (by decide))|(simp only;decide)) (by decide) a len cap bs w hl hc hv hbl hF)
 have HAN:=Bas.hid (fun hf:h.a=false=>rfind_not (s:=sAnkr) (fun p hp=>by
  rcases opts_mem h D p hp with ⟨h1,rfl⟩|⟨h1,rfl⟩|⟨h1,rfl⟩|⟨h1,rfl⟩|⟨h1,rfl⟩<;>first|(exact absurd (hf.symm.trans h1) (by decide))|(simp only;decide)) (by decide) a len cap bs w hl hc hv hbl hF)
 have HFY:=Bas.hid (fun hf:h.f=true=>rfind_has (p:=⟨sFeat,D.f⟩) (.inl (by simp [opts,optL,hf])) a len cap bs w hl hc hv hbl hF)
 have HAY:=Bas.hid (fun hf:h.a=true=>rfind_has (p:=⟨sAnkr,D.a⟩) (.inl (by simp [opts,optL,hf])) a len cap bs w hl hc hv hbl hF)
 have HAR:=Bas.hid (fun A L C w' (hC:L≤C) (hL:L≤1000000) (hx:VB w' A D.a) (hxl:D.a.length=L)=>rankr_ok A L C al.length (g:Int) D.a _ _ w' hC hL hx hxl (by rw [hA];exact a8_of al hal hok))
 have HFR:=Bas.hid (fun A L C w' (hL:L≤1000000000) (hx:VB w' A D.f) (hxl:D.f.length=L)=>Ft.fref_any A L C D.f w' hL hx hxl)
 have HON:Hid (h.f=false→(featsN h D).isSome=true):=fun hf=>by unfold featsN;rw [hf];rfl
 have HOY:Hid (h.f=true→(featsN h D).isSome=(Ft.parseFs D.f).isSome):=fun hf=>by unfold featsN;rw [hf];rfl
 obtain ⟨dA,hdA⟩:∃l,D.a=l:=⟨_,rfl⟩;obtain ⟨dF,hdF⟩:∃l,D.f=l:=⟨_,rfl⟩;rw [hdA] at HAY HAR hall;rw [hdF] at HFY HFR HOY hfl;generalize h.f=hf at*;generalize h.a=ha at*;generalize (featsN h D).isSome=O at*;have hb1:=(Below.refl w.heap.size w).alloc (Nat.le_refl _) (.cells #[.int .i64 0,.int .i64 0,.int .i64 0,.slice none 0 0,.slice none 0 0,.slice none 0 0,.slice none 0 0,.slice none 0 0,.slice none 0 0,.bool false,.slice none 0 0,.slice none 0 0,.slice none 0 0,.slice none 0 0,.slice none 0 0,.slice none 0 0,.slice none 0 0] 69);have k1:=Bas.heap_new w (.cells #[.int .i64 0,.int .i64 0,.int .i64 0,.slice none 0 0,.slice none 0 0,.slice none 0 0,.slice none 0 0,.slice none 0 0,.slice none 0 0,.bool false,.slice none 0 0,.slice none 0 0,.slice none 0 0,.slice none 0 0,.slice none 0 0,.slice none 0 0,.slice none 0 0] 69);have HB1:=Bas.hid hb1;clear hv hbl hF hj0 hj1 hj2 hj3 hmf hkf htf hA hal hok hdA hdF hb1 hd;go_enter Tryz.func11,Tryz.ntmps11
 go_wp2_with (fail);generalize w.alloc (.cells #[.int .i64 0,.int .i64 0,.int .i64 0,.slice none 0 0,.slice none 0 0,.slice none 0 0,.slice none 0 0,.slice none 0 0,.slice none 0 0,.bool false,.slice none 0 0,.slice none 0 0,.slice none 0 0,.slice none 0 0,.slice none 0 0,.slice none 0 0,.slice none 0 0] 69)=w1 at*;refine (HFA.out _ HB1.out).mono ?_;rintro e w2 ⟨rfl,hb2⟩;have HB2:=Bas.hid (HB1.out.trans (hb2.mono HB1.out.size));have k2:=(hb2.block _ (heap_lt k1)).trans k1;clear hb2 k1 HFA HB1;have hb3:=(Below.refl w2.heap.size w2).alloc (Nat.le_refl _) (.cells #[.int .i64 (g:Int),.int .i64 1000,.int .i64 (m:Int)] 50);have n3:=Bas.heap_new w2 (.cells #[.int .i64 (g:Int),.int .i64 1000,.int .i64 (m:Int)] 50);have HB3:=Bas.hid (HB2.out.trans (hb3.mono HB2.out.size));have k3:=(hb3.block _ (heap_lt k2)).trans k2;clear hb3 k2 HB2;go_wp2_with (fail);generalize w2.alloc (.cells #[.int .i64 (g:Int),.int .i64 1000,.int .i64 (m:Int)] 50)=w3 at*;generalize w2.heap.size=T4 at*;refine (HWI.out _ HB3.out).mono ?_;rintro e w4 ⟨a1,c1,a2,c2,rfl,hb4,ho4⟩;have HB4:=Bas.hid (HB3.out.trans (hb4.mono HB3.out.size));have k4:=(hb4.block _ (heap_lt k3)).trans k3;have n4:=(hb4.block _ (heap_lt n3)).trans n3;have HO4:=Bas.hid (Row.owned_base ho4 HB3.out.size);clear hb4 k3 n3 ho4 HWI HB3;have hb5:=(Below.refl w4.heap.size w4).alloc (Nat.le_refl _) (.cells #[.slice a1 g c1,.slice a2 g c2] 52);have s5:=Bas.heap_new w4 (.cells #[.slice a1 g c1,.slice a2 g c2] 52);have HB5:=Bas.hid (HB4.out.trans (hb5.mono HB4.out.size));have k5:=(hb5.block _ (heap_lt k4)).trans k4;have n5:=(hb5.block _ (heap_lt n4)).trans n4;have HO5:=Bas.hid (Row.owned_below HO4.out hb5);have h5s:(w4.alloc (.cells #[.slice a1 g c1,.slice a2 g c2] 52)).heap.size=w4.heap.size+1:=World.size_alloc _ _;have hlt4:=heap_lt k4;clear hb5 k4 n4 HB4 HO4;have y0:=cell_of_heap (i:=0) (v:=.slice a1 g c1) s5 rfl;have y1:=cell_of_heap (i:=1) (v:=.slice a2 g c2) s5 rfl;have x0:=cell_of_heap (i:=0) (v:=.int .i64 (g:Int)) n5 rfl;have x1:=cell_of_heap (i:=1) (v:=.int .i64 1000) n5 rfl;have x2:=cell_of_heap (i:=2) (v:=.int .i64 (m:Int)) n5 rfl;have ly:=heap_lt s5;have lx:=heap_lt n5;have hb6:=(Below.refl (w4.alloc (.cells #[.slice a1 g c1,.slice a2 g c2] 52)).heap.size (w4.alloc (.cells #[.slice a1 g c1,.slice a2 g c2] 52))).alloc (Nat.le_refl _) (.cells #[.int .i64 (g:Int),.int .i64 1000,.int .i64 (m:Int),.slice a1 g c1,.slice a2 g c2,.slice none 0 0,.slice none 0 0,.slice none 0 0,.slice none 0 0,.bool false,.slice none 0 0,.slice none 0 0,.slice none 0 0,.slice none 0 0,.slice none 0 0,.slice none 0 0,.slice none 0 0] 69);have z6:=Bas.heap_new (w4.alloc (.cells #[.slice a1 g c1,.slice a2 g c2] 52)) (.cells #[.int .i64 (g:Int),.int .i64 1000,.int .i64 (m:Int),.slice a1 g c1,.slice a2 g c2,.slice none 0 0,.slice none 0 0,.slice none 0 0,.slice none 0 0,.bool false,.slice none 0 0,.slice none 0 0,.slice none 0 0,.slice none 0 0,.slice none 0 0,.slice none 0 0,.slice none 0 0] 69);have HB6:=Bas.hid (HB5.out.trans (hb6.mono HB5.out.size));have HK6:=Bas.hid ((hb6.block _ (heap_lt k5)).trans k5);have HN6:=Bas.hid ((hb6.block _ lx).trans n5);have HO6:=Bas.hid (Row.owned_below HO5.out hb6);have t0:=(hb6.cell (p:=⟨T4,0,none⟩) lx).trans x0;rw [h5s] at z6;have HZ6:=Bas.hid z6;clear hb6 z6 k5 n5 s5 HB5 HO5 h5s;go_wp2_with (fail);generalize (w4.alloc (.cells #[.slice a1 g c1,.slice a2 g c2] 52)).alloc (.cells #[.int .i64 (g:Int),.int .i64 1000,.int .i64 (m:Int),.slice a1 g c1,.slice a2 g c2,.slice none 0 0,.slice none 0 0,.slice none 0 0,.slice none 0 0,.bool false,.slice none 0 0,.slice none 0 0,.slice none 0 0,.slice none 0 0,.slice none 0 0,.slice none 0 0,.slice none 0 0] 69)=w6 at*;have HK4S:Hid (w.heap.size<w4.heap.size):=hlt4;clear y0 y1 x0 x1 x2 ly lx t0 hlt4;have HSI:Hid (FSt w w6 (w4.heap.size+1) g m dd (.slice a1 g c1) (.slice a2 g c2) (.slice none 0 0) false (.slice none 0 0) (.slice none 0 0) (.slice none 0 0)):=⟨HB6.out,HK6.out,HZ6.out,HO6.out,by have:=HK4S.out;omega⟩
 obtain ⟨T8,hT8⟩:∃T8,w4.heap.size+1=T8:=⟨_,rfl⟩;rw [hT8] at HSI ⊢;clear hT8 HB6 HK6 HZ6 HO6 HN6 HK4S;have HS:=HSI;clear HSI;cases hf with
 |false=>
  have HO2:Hid (O=true):=HON.out rfl;clear HFY HFR HON HOY;refine (HFN.out rfl _ HS.out.bel).mono ?_;rintro e u ⟨rfl,hb⟩;have HS':=Bas.hid (HS.out.below hb);clear hb HS;have HS:=HS';clear HS';go_wp2_with (fail);refine (HNM.out _ HS.out.bel).mono ?_;rintro e u ⟨rfl,hb⟩;have HS':=Bas.hid (HS.out.below hb);clear hb HS;have HS:=HS';clear HS';go_wp2_with (fail);refine (HNK.out _ HS.out.bel).mono ?_;rintro e u ⟨rfl,hb⟩;have HS':=Bas.hid (HS.out.below hb);clear hb HS;have HS:=HS';clear HS';go_wp2_with (fail);cases ha with
  |false=>
   refine (HAN.out rfl _ HS.out.bel).mono ?_;rintro e u ⟨rfl,hb⟩;have HS':=Bas.hid (HS.out.below hb);clear hb HS;have HS:=HS';clear HS';go_wp2_with (fail);refine (HNT.out _ HS.out.bel).mono ?_;rintro e u ⟨rfl,hb⟩;have HS':=Bas.hid (HS.out.below hb);clear hb HS;have HS:=HS';clear HS';have HBX:=Bas.hid (Go.below_setRow HS.out.bel (Nat.le_refl _) (fntC g m (.slice a1 g c1) (.slice a2 g c2) (.slice none 0 0) false (.slice none 0 0) (.slice none 0 0) (.slice none 0 0)));have HKX:=Bas.hid (setRow_heap u w.heap.size _ (fntC g m (.slice a1 g c1) (.slice a2 g c2) (.slice none 0 0) false (.slice none 0 0) (.slice none 0 0) (.slice none 0 0)) _ _ HS.out.box);have HOX:=Bas.hid (Row.owned_keep HS.out.own (w':=u.setRow w.heap.size (fntC g m (.slice a1 g c1) (.slice a2 g c2) (.slice none 0 0) false (.slice none 0 0) (.slice none 0 0) (.slice none 0 0))) fun b hb=>setRow_other _ _ _ _ (fun e=>own_ty HS.out.own HS.out.box (by decide) (by rw [hb,e])))
   go_upto_region 22 with (fail)
   refine wp_region_lit ?_;refine wpList_load_row rfl 69 (.tmp 8) rfl T8 rfl 69 _ (0,0) _ HS.out.cel Tryz.underlying69 rfl (by kernel_rfl) ?_
   simp only [Act.put,List.setIfInBounds_toArray,List.set_cons_zero,List.set_cons_succ];refine Go.Great.wpList_runTo rfl (some 114) rfl (.bool true) u (by simp [execOp,go_sem]) ?_
   simp only [Act.put,List.setIfInBounds_toArray,List.set_cons_zero,List.set_cons_succ];refine wpList_store_rowTo rfl 69 (.tmp 2) (.tmp 113) rfl rfl w.heap.size (fntC g m (.slice a1 g c1) (.slice a2 g c2) (.slice none 0 0) false (.slice none 0 0) (.slice none 0 0) (.slice none 0 0)) rfl rfl 69 _ HS.out.box (by kernel_rfl) rfl (by kernel_rfl) ?_
   generalize u.setRow w.heap.size (fntC g m (.slice a1 g c1) (.slice a2 g c2) (.slice none 0 0) false (.slice none 0 0) (.slice none 0 0) (.slice none 0 0))=W8 at*;clear HS;go_wp2_with (fail);refine bodyPost_ret (v:=.tuple #[.agg (fntC g m (.slice a1 g c1) (.slice a2 g c2) (.slice none 0 0) false (.slice none 0 0) (.slice none 0 0) (.slice none 0 0)),.bool true]) ?_ rfl (by rw [HO2.out];exact ⟨HBX.out,_,_,_,_,_,_,_,_,_,_,_,_,_,_,_,_,_,rfl,HOX.out⟩)
   rw [results_cell_tmp rfl];have hrl:=run_loadVar_row (P:=Tryz.prog) W8 w.heap.size 69 69 (fntC g m (.slice a1 g c1) (.slice a2 g c2) (.slice none 0 0) false (.slice none 0 0) (.slice none 0 0) (.slice none 0 0)) (0,0) _ HKX.out Tryz.underlying69 rfl (by kernel_rfl)
   simp [asAddr,Result.andThen,hrl]
  |true=>
   obtain ⟨A,C,HY⟩:=HAY.out rfl;refine (HY _ HS.out.bel).mono ?_;rintro e u ⟨rfl,hb,hvA,hC⟩;have HS':=Bas.hid (HS.out.below hb);have HR:=Bas.hid (HAR.out A dA.length C u hC hall (hvA.below hb) rfl);clear hb HS hvA;have HS:=HS';clear HS';go_wp2_with (fail);refine HR.out.mono ?_;rintro e u ⟨b1,n1,d1,b2,n2,d2,b3,n3,d3,rfl,hb⟩;have HS':=Bas.hid (HS.out.below hb);clear hb HS HR;have HS:=HS';clear HS';have q9:=cell_of_heap (i:=9) HS.out.cel rfl;have q10:=cell_of_heap (i:=10) HS.out.cel rfl;have q11:=cell_of_heap (i:=11) HS.out.cel rfl;have q12:=cell_of_heap (i:=12) HS.out.cel rfl;have f9:=free_of_heap (i:=9) HS.out.cel;have f10:=free_of_heap (i:=10) HS.out.cel;have f11:=free_of_heap (i:=11) HS.out.cel;have f12:=free_of_heap (i:=12) HS.out.cel;have lq:=heap_lt HS.out.cel;go_wp2_with (fail);have HS':=Bas.hid (HS.out.setA true (.slice b1 n1 d1) (.slice b2 n2 d2) (.slice b3 n3 d3));clear HS q9 q10 q11 q12 f9 f10 f11 f12 lq;have HS:=HS';clear HS';generalize (((u.setCell ⟨T8,9,none⟩ (.bool true)).setCell ⟨T8,10,none⟩ (.slice b1 n1 d1)).setCell ⟨T8,11,none⟩ (.slice b2 n2 d2)).setCell ⟨T8,12,none⟩ (.slice b3 n3 d3)=uu at*;refine (HNT.out _ HS.out.bel).mono ?_;rintro e u ⟨rfl,hb⟩;have HS':=Bas.hid (HS.out.below hb);clear hb HS;have HS:=HS';clear HS';have HBX:=Bas.hid (Go.below_setRow HS.out.bel (Nat.le_refl _) (fntC g m (.slice a1 g c1) (.slice a2 g c2) (.slice none 0 0) true (.slice b1 n1 d1) (.slice b2 n2 d2) (.slice b3 n3 d3)));have HKX:=Bas.hid (setRow_heap u w.heap.size _ (fntC g m (.slice a1 g c1) (.slice a2 g c2) (.slice none 0 0) true (.slice b1 n1 d1) (.slice b2 n2 d2) (.slice b3 n3 d3)) _ _ HS.out.box);have HOX:=Bas.hid (Row.owned_keep HS.out.own (w':=u.setRow w.heap.size (fntC g m (.slice a1 g c1) (.slice a2 g c2) (.slice none 0 0) true (.slice b1 n1 d1) (.slice b2 n2 d2) (.slice b3 n3 d3))) fun b hb=>setRow_other _ _ _ _ (fun e=>own_ty HS.out.own HS.out.box (by decide) (by rw [hb,e])))
   go_upto_region 22 with (fail)
   refine wp_region_lit ?_;refine wpList_load_row rfl 69 (.tmp 8) rfl T8 rfl 69 _ (0,0) _ HS.out.cel Tryz.underlying69 rfl (by kernel_rfl) ?_
   simp only [Act.put,List.setIfInBounds_toArray,List.set_cons_zero,List.set_cons_succ];refine Go.Great.wpList_runTo rfl (some 114) rfl (.bool true) u (by simp [execOp,go_sem]) ?_
   simp only [Act.put,List.setIfInBounds_toArray,List.set_cons_zero,List.set_cons_succ];refine wpList_store_rowTo rfl 69 (.tmp 2) (.tmp 113) rfl rfl w.heap.size (fntC g m (.slice a1 g c1) (.slice a2 g c2) (.slice none 0 0) true (.slice b1 n1 d1) (.slice b2 n2 d2) (.slice b3 n3 d3)) rfl rfl 69 _ HS.out.box (by kernel_rfl) rfl (by kernel_rfl) ?_
   generalize u.setRow w.heap.size (fntC g m (.slice a1 g c1) (.slice a2 g c2) (.slice none 0 0) true (.slice b1 n1 d1) (.slice b2 n2 d2) (.slice b3 n3 d3))=W8 at*;clear HS;go_wp2_with (fail);refine bodyPost_ret (v:=.tuple #[.agg (fntC g m (.slice a1 g c1) (.slice a2 g c2) (.slice none 0 0) true (.slice b1 n1 d1) (.slice b2 n2 d2) (.slice b3 n3 d3)),.bool true]) ?_ rfl (by rw [HO2.out];exact ⟨HBX.out,_,_,_,_,_,_,_,_,_,_,_,_,_,_,_,_,_,rfl,HOX.out⟩)
   rw [results_cell_tmp rfl];have hrl:=run_loadVar_row (P:=Tryz.prog) W8 w.heap.size 69 69 (fntC g m (.slice a1 g c1) (.slice a2 g c2) (.slice none 0 0) true (.slice b1 n1 d1) (.slice b2 n2 d2) (.slice b3 n3 d3)) (0,0) _ HKX.out Tryz.underlying69 rfl (by kernel_rfl)
   simp [asAddr,Result.andThen,hrl]
 |true=>
  obtain ⟨A,C,HY⟩:=HFY.out rfl;refine (HY _ HS.out.bel).mono ?_;rintro e u ⟨rfl,hb,hvA,hC⟩;have HS':=Bas.hid (HS.out.below hb);have HR:=Bas.hid (HFR.out A dF.length C u (by omega) (hvA.below hb) rfl)
  have HO1:=HOY.out rfl;clear hb HS hvA HY HFN HON HOY HFY HFR;have HS:=HS';clear HS';go_wp2_with (fail);refine HR.out.mono ?_;rintro e u ⟨hb,hpf⟩;have HS':=Bas.hid (HS.out.below hb);clear hb HS HR;have HS:=HS';clear HS';have q5:=cell_of_heap (i:=5) HS.out.cel rfl;have f5:=free_of_heap (i:=5) HS.out.cel;have lq:=heap_lt HS.out.cel;cases hp:Ft.parseFs dF with
  |none=>
   rw [hp] at hpf HO1;simp only at hpf;subst hpf;have HO2:Hid (O=false):=HO1;clear HO1 hp;go_wp2_with (fail);have HS':=Bas.hid (HS.out.setF (.slice none 0 0));clear HS q5 f5 lq;have HS:=HS';clear HS';generalize u.setCell ⟨T8,5,none⟩ (.slice none 0 0)=uu at*;refine (HNM.out _ HS.out.bel).mono ?_;rintro e u ⟨rfl,hb⟩;have HS':=Bas.hid (HS.out.below hb);clear hb HS;have HS:=HS';clear HS';go_wp2_with (fail);refine (HNK.out _ HS.out.bel).mono ?_;rintro e u ⟨rfl,hb⟩;have HS':=Bas.hid (HS.out.below hb);clear hb HS;have HS:=HS';clear HS';go_wp2_with (fail);cases ha with
   |false=>
    refine (HAN.out rfl _ HS.out.bel).mono ?_;rintro e u ⟨rfl,hb⟩;have HS':=Bas.hid (HS.out.below hb);clear hb HS;have HS:=HS';clear HS';go_wp2_with (fail);refine (HNT.out _ HS.out.bel).mono ?_;rintro e u ⟨rfl,hb⟩;have HS':=Bas.hid (HS.out.below hb);clear hb HS;have HS:=HS';clear HS';have HBX:=Bas.hid (Go.below_setRow HS.out.bel (Nat.le_refl _) (fntC g m (.slice a1 g c1) (.slice a2 g c2) (.slice none 0 0) false (.slice none 0 0) (.slice none 0 0) (.slice none 0 0)));have HKX:=Bas.hid (setRow_heap u w.heap.size _ (fntC g m (.slice a1 g c1) (.slice a2 g c2) (.slice none 0 0) false (.slice none 0 0) (.slice none 0 0) (.slice none 0 0)) _ _ HS.out.box);have HOX:=Bas.hid (Row.owned_keep HS.out.own (w':=u.setRow w.heap.size (fntC g m (.slice a1 g c1) (.slice a2 g c2) (.slice none 0 0) false (.slice none 0 0) (.slice none 0 0) (.slice none 0 0))) fun b hb=>setRow_other _ _ _ _ (fun e=>own_ty HS.out.own HS.out.box (by decide) (by rw [hb,e])))
    go_upto_region 22 with (fail)
    refine wp_region_lit ?_;refine wpList_load_row rfl 69 (.tmp 8) rfl T8 rfl 69 _ (0,0) _ HS.out.cel Tryz.underlying69 rfl (by kernel_rfl) ?_
    simp only [Act.put,List.setIfInBounds_toArray,List.set_cons_zero,List.set_cons_succ];refine Go.Great.wpList_runTo rfl (some 114) rfl (.bool false) u (by simp [execOp,go_sem]) ?_
    simp only [Act.put,List.setIfInBounds_toArray,List.set_cons_zero,List.set_cons_succ];refine wpList_store_rowTo rfl 69 (.tmp 2) (.tmp 113) rfl rfl w.heap.size (fntC g m (.slice a1 g c1) (.slice a2 g c2) (.slice none 0 0) false (.slice none 0 0) (.slice none 0 0) (.slice none 0 0)) rfl rfl 69 _ HS.out.box (by kernel_rfl) rfl (by kernel_rfl) ?_
    generalize u.setRow w.heap.size (fntC g m (.slice a1 g c1) (.slice a2 g c2) (.slice none 0 0) false (.slice none 0 0) (.slice none 0 0) (.slice none 0 0))=W8 at*;clear HS;go_wp2_with (fail);refine bodyPost_ret (v:=.tuple #[.agg (fntC g m (.slice a1 g c1) (.slice a2 g c2) (.slice none 0 0) false (.slice none 0 0) (.slice none 0 0) (.slice none 0 0)),.bool false]) ?_ rfl (by rw [HO2.out];exact ⟨HBX.out,_,_,_,_,_,_,_,_,_,_,_,_,_,_,_,_,_,rfl,HOX.out⟩)
    rw [results_cell_tmp rfl];have hrl:=run_loadVar_row (P:=Tryz.prog) W8 w.heap.size 69 69 (fntC g m (.slice a1 g c1) (.slice a2 g c2) (.slice none 0 0) false (.slice none 0 0) (.slice none 0 0) (.slice none 0 0)) (0,0) _ HKX.out Tryz.underlying69 rfl (by kernel_rfl)
    simp [asAddr,Result.andThen,hrl]
   |true=>
    obtain ⟨A,C,HY⟩:=HAY.out rfl;refine (HY _ HS.out.bel).mono ?_;rintro e u ⟨rfl,hb,hvA,hC⟩;have HS':=Bas.hid (HS.out.below hb);clear hb HS hvA;have HS:=HS';clear HS';go_wp2_with (fail);refine (HNT.out _ HS.out.bel).mono ?_;rintro e u ⟨rfl,hb⟩;have HS':=Bas.hid (HS.out.below hb);clear hb HS;have HS:=HS';clear HS';have HBX:=Bas.hid (Go.below_setRow HS.out.bel (Nat.le_refl _) (fntC g m (.slice a1 g c1) (.slice a2 g c2) (.slice none 0 0) false (.slice none 0 0) (.slice none 0 0) (.slice none 0 0)));have HKX:=Bas.hid (setRow_heap u w.heap.size _ (fntC g m (.slice a1 g c1) (.slice a2 g c2) (.slice none 0 0) false (.slice none 0 0) (.slice none 0 0) (.slice none 0 0)) _ _ HS.out.box);have HOX:=Bas.hid (Row.owned_keep HS.out.own (w':=u.setRow w.heap.size (fntC g m (.slice a1 g c1) (.slice a2 g c2) (.slice none 0 0) false (.slice none 0 0) (.slice none 0 0) (.slice none 0 0))) fun b hb=>setRow_other _ _ _ _ (fun e=>own_ty HS.out.own HS.out.box (by decide) (by rw [hb,e])))
    go_upto_region 22 with (fail)
    refine wp_region_lit ?_;refine wpList_load_row rfl 69 (.tmp 8) rfl T8 rfl 69 _ (0,0) _ HS.out.cel Tryz.underlying69 rfl (by kernel_rfl) ?_
    simp only [Act.put,List.setIfInBounds_toArray,List.set_cons_zero,List.set_cons_succ];refine Go.Great.wpList_runTo rfl (some 114) rfl (.bool false) u (by simp [execOp,go_sem]) ?_
    simp only [Act.put,List.setIfInBounds_toArray,List.set_cons_zero,List.set_cons_succ];refine wpList_store_rowTo rfl 69 (.tmp 2) (.tmp 113) rfl rfl w.heap.size (fntC g m (.slice a1 g c1) (.slice a2 g c2) (.slice none 0 0) false (.slice none 0 0) (.slice none 0 0) (.slice none 0 0)) rfl rfl 69 _ HS.out.box (by kernel_rfl) rfl (by kernel_rfl) ?_
    generalize u.setRow w.heap.size (fntC g m (.slice a1 g c1) (.slice a2 g c2) (.slice none 0 0) false (.slice none 0 0) (.slice none 0 0) (.slice none 0 0))=W8 at*;clear HS;go_wp2_with (fail);refine bodyPost_ret (v:=.tuple #[.agg (fntC g m (.slice a1 g c1) (.slice a2 g c2) (.slice none 0 0) false (.slice none 0 0) (.slice none 0 0) (.slice none 0 0)),.bool false]) ?_ rfl (by rw [HO2.out];exact ⟨HBX.out,_,_,_,_,_,_,_,_,_,_,_,_,_,_,_,_,_,rfl,HOX.out⟩)
    rw [results_cell_tmp rfl];have hrl:=run_loadVar_row (P:=Tryz.prog) W8 w.heap.size 69 69 (fntC g m (.slice a1 g c1) (.slice a2 g c2) (.slice none 0 0) false (.slice none 0 0) (.slice none 0 0) (.slice none 0 0)) (0,0) _ HKX.out Tryz.underlying69 rfl (by kernel_rfl)
    simp [asAddr,Result.andThen,hrl]
  |some fs=>
   rw [hp] at hpf HO1;simp only at hpf;obtain ⟨v,ss,rfl,hrr⟩:=hpf;obtain ⟨fa,fc,rfl⟩:=own_slice hrr.2;have HO2:Hid (O=true):=HO1;clear HO1 hp hrr;go_wp2_with (fail);have HS':=Bas.hid (HS.out.setF (.slice fa fs.length fc));clear HS q5 f5 lq;have HS:=HS';clear HS';generalize u.setCell ⟨T8,5,none⟩ (.slice fa fs.length fc)=uu at*;refine (HNM.out _ HS.out.bel).mono ?_;rintro e u ⟨rfl,hb⟩;have HS':=Bas.hid (HS.out.below hb);clear hb HS;have HS:=HS';clear HS';go_wp2_with (fail);refine (HNK.out _ HS.out.bel).mono ?_;rintro e u ⟨rfl,hb⟩;have HS':=Bas.hid (HS.out.below hb);clear hb HS;have HS:=HS';clear HS';go_wp2_with (fail);cases ha with
   |false=>
    refine (HAN.out rfl _ HS.out.bel).mono ?_;rintro e u ⟨rfl,hb⟩;have HS':=Bas.hid (HS.out.below hb);clear hb HS;have HS:=HS';clear HS';go_wp2_with (fail);refine (HNT.out _ HS.out.bel).mono ?_;rintro e u ⟨rfl,hb⟩;have HS':=Bas.hid (HS.out.below hb);clear hb HS;have HS:=HS';clear HS';have HBX:=Bas.hid (Go.below_setRow HS.out.bel (Nat.le_refl _) (fntC g m (.slice a1 g c1) (.slice a2 g c2) (.slice fa fs.length fc) false (.slice none 0 0) (.slice none 0 0) (.slice none 0 0)));have HKX:=Bas.hid (setRow_heap u w.heap.size _ (fntC g m (.slice a1 g c1) (.slice a2 g c2) (.slice fa fs.length fc) false (.slice none 0 0) (.slice none 0 0) (.slice none 0 0)) _ _ HS.out.box);have HOX:=Bas.hid (Row.owned_keep HS.out.own (w':=u.setRow w.heap.size (fntC g m (.slice a1 g c1) (.slice a2 g c2) (.slice fa fs.length fc) false (.slice none 0 0) (.slice none 0 0) (.slice none 0 0))) fun b hb=>setRow_other _ _ _ _ (fun e=>own_ty HS.out.own HS.out.box (by decide) (by rw [hb,e])))
    go_upto_region 22 with (fail)
    refine wp_region_lit ?_;refine wpList_load_row rfl 69 (.tmp 8) rfl T8 rfl 69 _ (0,0) _ HS.out.cel Tryz.underlying69 rfl (by kernel_rfl) ?_
    simp only [Act.put,List.setIfInBounds_toArray,List.set_cons_zero,List.set_cons_succ];refine Go.Great.wpList_runTo rfl (some 114) rfl (.bool true) u (by simp [execOp,go_sem]) ?_
    simp only [Act.put,List.setIfInBounds_toArray,List.set_cons_zero,List.set_cons_succ];refine wpList_store_rowTo rfl 69 (.tmp 2) (.tmp 113) rfl rfl w.heap.size (fntC g m (.slice a1 g c1) (.slice a2 g c2) (.slice fa fs.length fc) false (.slice none 0 0) (.slice none 0 0) (.slice none 0 0)) rfl rfl 69 _ HS.out.box (by kernel_rfl) rfl (by kernel_rfl) ?_
    generalize u.setRow w.heap.size (fntC g m (.slice a1 g c1) (.slice a2 g c2) (.slice fa fs.length fc) false (.slice none 0 0) (.slice none 0 0) (.slice none 0 0))=W8 at*;clear HS;go_wp2_with (fail);refine bodyPost_ret (v:=.tuple #[.agg (fntC g m (.slice a1 g c1) (.slice a2 g c2) (.slice fa fs.length fc) false (.slice none 0 0) (.slice none 0 0) (.slice none 0 0)),.bool true]) ?_ rfl (by rw [HO2.out];exact ⟨HBX.out,_,_,_,_,_,_,_,_,_,_,_,_,_,_,_,_,_,rfl,HOX.out⟩)
    rw [results_cell_tmp rfl];have hrl:=run_loadVar_row (P:=Tryz.prog) W8 w.heap.size 69 69 (fntC g m (.slice a1 g c1) (.slice a2 g c2) (.slice fa fs.length fc) false (.slice none 0 0) (.slice none 0 0) (.slice none 0 0)) (0,0) _ HKX.out Tryz.underlying69 rfl (by kernel_rfl)
    simp [asAddr,Result.andThen,hrl]
   |true=>
    obtain ⟨A,C,HY⟩:=HAY.out rfl;refine (HY _ HS.out.bel).mono ?_;rintro e u ⟨rfl,hb,hvA,hC⟩;have HS':=Bas.hid (HS.out.below hb);have HR:=Bas.hid (HAR.out A dA.length C u hC hall (hvA.below hb) rfl);clear hb HS hvA;have HS:=HS';clear HS';go_wp2_with (fail);refine HR.out.mono ?_;rintro e u ⟨b1,n1,d1,b2,n2,d2,b3,n3,d3,rfl,hb⟩;have HS':=Bas.hid (HS.out.below hb);clear hb HS HR;have HS:=HS';clear HS';have q9:=cell_of_heap (i:=9) HS.out.cel rfl;have q10:=cell_of_heap (i:=10) HS.out.cel rfl;have q11:=cell_of_heap (i:=11) HS.out.cel rfl;have q12:=cell_of_heap (i:=12) HS.out.cel rfl;have f9:=free_of_heap (i:=9) HS.out.cel;have f10:=free_of_heap (i:=10) HS.out.cel;have f11:=free_of_heap (i:=11) HS.out.cel;have f12:=free_of_heap (i:=12) HS.out.cel;have lq:=heap_lt HS.out.cel;go_wp2_with (fail);have HS':=Bas.hid (HS.out.setA true (.slice b1 n1 d1) (.slice b2 n2 d2) (.slice b3 n3 d3));clear HS q9 q10 q11 q12 f9 f10 f11 f12 lq;have HS:=HS';clear HS';generalize (((u.setCell ⟨T8,9,none⟩ (.bool true)).setCell ⟨T8,10,none⟩ (.slice b1 n1 d1)).setCell ⟨T8,11,none⟩ (.slice b2 n2 d2)).setCell ⟨T8,12,none⟩ (.slice b3 n3 d3)=uu at*;refine (HNT.out _ HS.out.bel).mono ?_;rintro e u ⟨rfl,hb⟩;have HS':=Bas.hid (HS.out.below hb);clear hb HS;have HS:=HS';clear HS';have HBX:=Bas.hid (Go.below_setRow HS.out.bel (Nat.le_refl _) (fntC g m (.slice a1 g c1) (.slice a2 g c2) (.slice fa fs.length fc) true (.slice b1 n1 d1) (.slice b2 n2 d2) (.slice b3 n3 d3)));have HKX:=Bas.hid (setRow_heap u w.heap.size _ (fntC g m (.slice a1 g c1) (.slice a2 g c2) (.slice fa fs.length fc) true (.slice b1 n1 d1) (.slice b2 n2 d2) (.slice b3 n3 d3)) _ _ HS.out.box);have HOX:=Bas.hid (Row.owned_keep HS.out.own (w':=u.setRow w.heap.size (fntC g m (.slice a1 g c1) (.slice a2 g c2) (.slice fa fs.length fc) true (.slice b1 n1 d1) (.slice b2 n2 d2) (.slice b3 n3 d3))) fun b hb=>setRow_other _ _ _ _ (fun e=>own_ty HS.out.own HS.out.box (by decide) (by rw [hb,e])))
    go_upto_region 22 with (fail)
    refine wp_region_lit ?_;refine wpList_load_row rfl 69 (.tmp 8) rfl T8 rfl 69 _ (0,0) _ HS.out.cel Tryz.underlying69 rfl (by kernel_rfl) ?_
    simp only [Act.put,List.setIfInBounds_toArray,List.set_cons_zero,List.set_cons_succ];refine Go.Great.wpList_runTo rfl (some 114) rfl (.bool true) u (by simp [execOp,go_sem]) ?_
    simp only [Act.put,List.setIfInBounds_toArray,List.set_cons_zero,List.set_cons_succ];refine wpList_store_rowTo rfl 69 (.tmp 2) (.tmp 113) rfl rfl w.heap.size (fntC g m (.slice a1 g c1) (.slice a2 g c2) (.slice fa fs.length fc) true (.slice b1 n1 d1) (.slice b2 n2 d2) (.slice b3 n3 d3)) rfl rfl 69 _ HS.out.box (by kernel_rfl) rfl (by kernel_rfl) ?_
    generalize u.setRow w.heap.size (fntC g m (.slice a1 g c1) (.slice a2 g c2) (.slice fa fs.length fc) true (.slice b1 n1 d1) (.slice b2 n2 d2) (.slice b3 n3 d3))=W8 at*;clear HS;go_wp2_with (fail);refine bodyPost_ret (v:=.tuple #[.agg (fntC g m (.slice a1 g c1) (.slice a2 g c2) (.slice fa fs.length fc) true (.slice b1 n1 d1) (.slice b2 n2 d2) (.slice b3 n3 d3)),.bool true]) ?_ rfl (by rw [HO2.out];exact ⟨HBX.out,_,_,_,_,_,_,_,_,_,_,_,_,_,_,_,_,_,rfl,HOX.out⟩)
    rw [results_cell_tmp rfl];have hrl:=run_loadVar_row (P:=Tryz.prog) W8 w.heap.size 69 69 (fntC g m (.slice a1 g c1) (.slice a2 g c2) (.slice fa fs.length fc) true (.slice b1 n1 d1) (.slice b2 n2 d2) (.slice b3 n3 d3)) (0,0) _ HKX.out Tryz.underlying69 rfl (by kernel_rfl)
    simp [asAddr,Result.andThen,hrl]
end Sh
namespace Sh
open Fo Vw Wr Ln Pc
theorem outs_known:((cleanL (lnNew [1,0])).zip (alongN 0 (cleanL (lnNew [1,0])).length (plNew (advsOf 2 2 (hmtxL [500,600] 0) false (cleanL (lnNew [1,0])))))).flatMap outC=[.int .i64 1,.int .i64 0,.int .i32 600,.int .i32 0,.int .i32 0,.int .i64 0,.int .i64 1,.int .i32 500,.int .i32 0,.int .i32 0]:=by kernel_rfl
theorem len_known:(cleanL (lnNew [1,0])).length=2:=by kernel_rfl
theorem hmtx_known:(hmtxL [500,600] 0).length=4*2+2*(2 - 2):=by kernel_rfl
theorem speaks_any(w:World):Calls Tryz.prog 5 #[] w fun e w'=>e=.returned (.bool true)∧Below w.heap.size w w':=by
 have hb1:=(Below.refl w.heap.size w).alloc (Nat.le_refl _) (.cells #[.int .u16 500,.int .u16 600] 84);have HB1:=Bas.hid hb1;have HL1:=Bas.hid (leads_heap (n:=2) (c:=2) (Bas.heap_new w (.cells #[.int .u16 500,.int .u16 600] 84)));clear hb1;go_enter Tryz.func5,Tryz.ntmps5
 go_wp2_with (fail);generalize w.alloc (.cells #[.int .u16 500,.int .u16 600] 84)=w1 at*;refine write_bare (some ⟨w.heap.size,0,none⟩) 2 2 0 [500,600] w1 HL1.out (by decide) rfl (by omega) (by omega) (by omega) _ ?_
 intro g' cap bs w2 q1 q2 q3 q4 hb2;have HB2:=Bas.hid (HB1.out.trans (hb2.mono HB1.out.size));have hb3:=(Below.refl w2.heap.size w2).alloc (Nat.le_refl _) (.cells #[.int .i64 1,.int .i64 0] 3);have HB3:=Bas.hid (HB2.out.trans (hb3.mono HB2.out.size));have hsh:=shape_plain (some ⟨g',0,none⟩) bs.length cap bs 2 2 (hmtxL [500,600] 0) none 0 0 0 0 (some ⟨w2.heap.size,0,none⟩) 2 2 [1,0] [] false (w2.alloc (.cells #[.int .i64 1,.int .i64 0] 3)) q1 q2 (q3.below hb3) rfl (fun h=>by cases h) q4 hmtx_known (by omega) (by omega) (by omega) (leads_heap (Bas.heap_new w2 (.cells #[.int .i64 1,.int .i64 0] 3))) rfl (by decide) (by omega) rfl (by omega) (by omega) (.inl ⟨rfl,rfl,rfl⟩) rfl (by omega) (fun _ h=>by cases h)
 rw [outs_known,len_known] at hsh;have HSH:=Bas.hid hsh;clear hsh q1 q2 q3 q4 hb2 hb3 HB1 HL1;go_wp2_with (fail);generalize w2.alloc (.cells #[.int .i64 1,.int .i64 0] 3)=w3 at*;refine HSH.out.mono ?_;rintro e w4 ⟨v,rfl,hb4,ho4⟩;have HB4:=Bas.hid (HB3.out.trans (hb4.mono HB3.out.size));have hle:=Row.leads_owned ho4;obtain ⟨aB,cB,rfl⟩:=own_slice ho4;have hcell:∀j u,[Value.int .i64 1,.int .i64 0,.int .i32 600,.int .i32 0,.int .i32 0,.int .i64 0,.int .i64 1,.int .i32 500,.int .i32 0,.int .i32 0][j]? =some u→∃b o,aB=some ⟨b,o,none⟩∧w4.cell? ⟨b,o+j,none⟩=some u:=fun j u hu=>by
  obtain ⟨b,o,c,hv,hc⟩:=St.leads_at hle hu;cases hv;exact ⟨b,o,rfl,hc⟩
 obtain ⟨b,o,rfl,d0⟩:=hcell 0 _ rfl;have lb:b<w4.heap.size:=World.block_lt_of_cell? _ _ d0;have hb5:=(Below.refl w4.heap.size w4).alloc (Nat.le_refl _) fltO;have kF:=Bas.heap_new w4 fltO;have k0:=cell_of_heap (i:=0) (v:=.int .i64 0) kF rfl;have HB5:=Bas.hid (HB4.out.trans (hb5.mono HB4.out.size));have x0:=(hb5.cell (World.block_lt_of_cell? _ _ d0)).trans d0;obtain ⟨b1,o1,h1,d1⟩:=hcell 1 _ rfl;cases h1;have x1:=(hb5.cell (World.block_lt_of_cell? _ _ d1)).trans d1;obtain ⟨b2,o2,h2,d2⟩:=hcell 2 _ rfl;cases h2;have x2:=(hb5.cell (World.block_lt_of_cell? _ _ d2)).trans d2;obtain ⟨b3,o3,h3,d3⟩:=hcell 3 _ rfl;cases h3;have x3:=(hb5.cell (World.block_lt_of_cell? _ _ d3)).trans d3;obtain ⟨b4,o4,h4,d4⟩:=hcell 4 _ rfl;cases h4;have x4:=(hb5.cell (World.block_lt_of_cell? _ _ d4)).trans d4;obtain ⟨b5,o5,h5,d5⟩:=hcell 5 _ rfl;cases h5;have x5:=(hb5.cell (World.block_lt_of_cell? _ _ d5)).trans d5;obtain ⟨b6,o6,h6,d6⟩:=hcell 6 _ rfl;cases h6;have x6:=(hb5.cell (World.block_lt_of_cell? _ _ d6)).trans d6;obtain ⟨b7,o7,h7,d7⟩:=hcell 7 _ rfl;cases h7;have x7:=(hb5.cell (World.block_lt_of_cell? _ _ d7)).trans d7;obtain ⟨b8,o8,h8,d8⟩:=hcell 8 _ rfl;cases h8;have x8:=(hb5.cell (World.block_lt_of_cell? _ _ d8)).trans d8;obtain ⟨b9,o9,h9,d9⟩:=hcell 9 _ rfl;cases h9;have x9:=(hb5.cell (World.block_lt_of_cell? _ _ d9)).trans d9;have lb5:=Nat.lt_of_lt_of_le lb hb5.size;simp only [Nat.add_zero] at x0;clear lb d0 d1 d2 d3 d4 d5 d6 d7 d8 d9 hcell hle hb4 ho4 hb5 kF HSH HB3 HB2;go_wp2_with (fail);go_ret;exact ⟨rfl,HB5.out⟩
theorem modify_same{α:Type}(ps:List α)(k:Nat)(f:α→α)(h:∀p∈ps,f p=p):ps.modify k f=ps:=by
 apply List.ext_getElem?;intro i;rw [List.getElem?_modify];cases hi:ps[i]? with
 |none=>rfl
 |some p=>
  have:=h p (List.mem_of_getElem? hi);simp only [Option.map_eq_map,Option.map_some];split<;>simp [this]
theorem along_zero(ps:List Pl)(i:Int)(h:∀p∈ps,plWf p):along ps i 0=ps:=by
 unfold along upd;split
 ·refine modify_same _ _ _ fun p hp=> ?_
  have hw:=(h p hp).1;have e:addI p.a 0=p.a:=by unfold addI clampI;omega
  rw [e]
 ·rfl
theorem alongN_zero(k:Nat)(ps:List Pl)(h:∀p∈ps,plWf p):alongN 0 k ps=ps:=by
 induction k with
 |zero=>rfl
 |succ k ih=>rw [alongN_succ,ih,along_zero _ _ h]
theorem bad_of_check{d:Int}{ids:List Int}(h:checkN d ids=0):(0≤d∧d≤2)∧ids.length≤65536∧∀x∈ids,0≤x∧x≤65534:=by
 unfold checkN at h;split at h
 ·rename_i hd
  split at h
  ·simp at h
  ·rename_i hl
   split at h
   ·simp at h
   ·rename_i ha
    refine ⟨hd,by omega,fun x hx=> ?_⟩
    have hb:badId x=false:=by
     cases hb:badId x with
     |false=>rfl
     |true=>exact absurd (List.any_eq_true.2 ⟨x,hx,hb⟩) ha
    unfold badId at hb;simp at hb;omega
 ·simp at h
theorem clean_new{ids:List Int}(h:∀x∈ids,0≤x∧x≤65534):cleanL (lnNew ids)=lnNew ids:=by
 unfold cleanL;rw [List.filter_eq_self];intro g hg;unfold lnNew lnPre at hg;obtain ⟨k,hk,rfl⟩:=List.mem_map.1 hg;have hk:k<ids.length:=by simpa using hk
 have:=h (ids.getD k 0) (by rw [List.getD_eq_getElem?_getD,List.getElem?_eq_getElem hk];exact List.getElem_mem hk)
 simp only [decide_eq_true_eq];omega
theorem advL_bd(g m:Nat)(dd:List Int)(hb:∀x∈dd,0≤x∧x≤255)(id:Int):0≤advL g m dd id∧advL g m dd id≤65535:=by
 unfold advL;split
 ·have h:=Ref01.num_bd ((dd.drop (4*(if (m:Int) - 1<id then (m:Int) - 1 else id)).toNat).take 2) (fun x hx=>hb x (List.mem_of_mem_drop (List.mem_of_mem_take hx)))
  have hl:((dd.drop (4*(if (m:Int) - 1<id then (m:Int) - 1 else id)).toNat).take 2).length≤2:=by rw [List.length_take];omega
  have h2:(256:Int)^((dd.drop (4*(if (m:Int) - 1<id then (m:Int) - 1 else id)).toNat).take 2).length≤65536:=by
   generalize ((dd.drop (4*(if (m:Int) - 1<id then (m:Int) - 1 else id)).toNat).take 2).length=q at hl
   match q,hl with
   |0,_=>decide
   |1,_=>decide
   |2,_=>decide
  unfold be;omega
 ·omega
def plainOuts(g m:Nat)(dd ids:List Int):List (Gl×Pl):=(List.range ids.length).map fun i=>((ids.getD i 0,(i:Int)),⟨advL g m dd (ids.getD i 0),0,0⟩)
theorem plainOuts_len(g m:Nat)(dd ids:List Int):(plainOuts g m dd ids).length=ids.length:=by simp [plainOuts]
theorem outs_plain(g m:Nat)(dd:List Int)(d:Int)(ids:List Int)(hb:∀x∈dd,0≤x∧x≤255)(h:checkN d ids=0):
  (cleanL (lnNew ids)).length=ids.length∧(cleanL (lnNew ids)).zip (alongN 0 (cleanL (lnNew ids)).length (plNew (advsOf g m dd false (cleanL (lnNew ids)))))=plainOuts g m dd ids:=by
 obtain ⟨_,hl,hi⟩:=bad_of_check h;rw [clean_new hi,alongN_zero _ _ (plNew_wf _)];refine ⟨lnNew_len ids, ?_⟩;unfold plNew advsOf lnNew lnPre plainOuts;rw [List.map_map,List.map_map,List.zip_map',List.map_congr_left];intro i _;have:=advL_bd g m dd hb (ids.getD i 0);simp only [Function.comp,Bool.false_eq_true,if_false,Prod.mk.injEq,Pl.mk.injEq,true_and,and_true];unfold clampI;omega
end Sh
namespace Sh
open Fo Vw Wr Ln Pc Ref01
theorem short_any(s1:Option Addr)(s2 s3:Nat)(d z:Int)(a:Option Addr)(n cap:Nat)(w:World):
  Calls Tryz.prog 9 #[.agg #[.slice s1 s2 s3,.int .i64 d,.int .i32 z,.slice a n cap]] w fun e w'=>e=.returned (.bool (decide (n≤30)&&decide (s2≤40)))∧Below w.heap.size w w':=by
 have HB:=Bas.hid ((Below.refl w.heap.size w).alloc (Nat.le_refl _) (.cells #[.slice s1 s2 s3,.int .i64 d,.int .i32 z,.slice a n cap] 26));by_cases hn:n≤30
 ·have d1:decide ((n:Int)≤30)=true:=by simp;omega
  by_cases hs:s2≤40
  ·have d2:decide ((s2:Int)≤40)=true:=by simp;omega
   have HR:Hid ((decide (n≤30)&&decide (s2≤40))=true):=by unfold Hid;simp [hn,hs]
   rw [HR.out];clear hn hs HR;go_enter Tryz.func9,Tryz.ntmps9
   go_wp2_with (fail);go_ret;exact ⟨rfl,HB.out⟩
  ·have d2:decide ((s2:Int)≤40)=false:=by simp;omega
   have HR:Hid ((decide (n≤30)&&decide (s2≤40))=false):=by unfold Hid;simp [hs]
   rw [HR.out];clear hn hs HR;go_enter Tryz.func9,Tryz.ntmps9
   go_wp2_with (fail);go_ret;exact ⟨rfl,HB.out⟩
 ·have d1:decide ((n:Int)≤30)=false:=by simp;omega
  have HR:Hid ((decide (n≤30)&&decide (s2≤40))=false):=by unfold Hid;simp [hn]
  rw [HR.out];clear hn HR;go_enter Tryz.func9,Tryz.ntmps9
  go_wp2_with (fail);go_ret;exact ⟨rfl,HB.out⟩
def noMKT(p:PlanD):PlanD:={ p with has:=⟨p.has.f,false,false,p.has.a,false⟩ }
theorem hmtx_at(p:PlanD):(hmtxL (advA p.adv) (p.more%40).toNat).length=4*(advA p.adv).length+2*(p.glyphs - (advA p.adv).length):=by
 rw [hmtxL_len];unfold PlanD.glyphs;omega
theorem feats_few{p:PlanD}(hok:p.Ok)(hf:p.Few)(h:HasD):∀fs,featsN h p.tabs=some fs→fs.length≤1000000000:=by
 intro fs hfs;unfold featsN at hfs;split at hfs
 ·have hfs:Ft.parseFs (Ft.featW p.feat)=some fs:=hfs;have h19:=hf.1.2.1;rw [Ft.fall_back p.feat (by omega) (PlanD.okF hok hf)] at hfs
  split at hfs
  ·cases hfs;rw [List.length_map];omega
  ·cases hfs
 ·cases hfs;simp
theorem plain_walk(pv:PlanV)(p:PlanD)(s1:Option Addr)(s3:Nat)(d z:Int)(a:Option Addr)(cap:Nat)(l:List (Int×Int))(ids:List Int)(w:World)(hin:PlanAt w pv p)(hok:p.Ok)(hbd:Bk.PBd 1048576 p)(hs:Row.Leads w (.slice s1 l.length s3) l.length (l.flatMap Pk.setC))(hwf:∀s∈l,Pk.wf64 s)
  (hz:-2147483648≤z∧z≤2147483647) (hl:Row.Leads w (.slice a ids.length cap) ids.length (ids.map (Value.int .i64))):
  Calls Tryz.prog 4 #[.agg (planC p.adv.length p.more p.has pv),.agg #[.slice s1 l.length s3,.int .i64 d,.int .i32 z,.slice a ids.length cap]] w fun e w'=>e=.returned (.bool true)∧Below w.heap.size w w':=by
 obtain ⟨n,hn⟩:∃n,ids.length=n:=⟨_,rfl⟩;obtain ⟨s2,hs2⟩:∃s2,l.length=s2:=⟨_,rfl⟩;rw [hn,hs2];rw [hn] at hl;rw [hs2] at hs;have hb1:=((Below.refl w.heap.size w).alloc (Nat.le_refl _) (.cells (planC p.adv.length p.more p.has pv) 44)).alloc (by simp) (jobO s1 s2 s3 d z a n cap)
 have kp:=(Below.heap_alloc (w.alloc (.cells (planC p.adv.length p.more p.has pv) 44)) (jobO s1 s2 s3 d z a n cap) w.heap.size (by simp)).trans (Bas.heap_new w _)
 have kj:=Bas.heap_new2 w (.cells (planC p.adv.length p.more p.has pv) 44) (jobO s1 s2 s3 d z a n cap);have HSM:=Bas.hid (fun w' (hb:Below w.heap.size w w')=>small_any pv p w' (hin.below hb) hbd)
 have HSH:=Bas.hid (fun w'=>short_any s1 s2 s3 d z a n cap w')
 have HCK:=Bas.hid (fun w' (hb:Below w.heap.size w w')=>rcheck_any s1 s2 s3 d z a n cap ids w' (Row.leads_below hl hb) hn)
 have HB1:=Bas.hid hb1;have HIN:=Bas.hid hin;have HL:=Bas.hid hl;have HS:=Bas.hid hs;have HN:=Bas.hid hn;have HS2:=Bas.hid hs2;have HOK:=Bas.hid hok;have HWF:=Bas.hid hwf;clear hb1 hin hl hs hn hs2 hbd hok hwf;go_enter Tryz.func4,Tryz.ntmps4
 go_wp2_with (fail);generalize (w.alloc (.cells (planC p.adv.length p.more p.has pv) 44)).alloc (jobO s1 s2 s3 d z a n cap)=w1 at*;refine (speaks_any w1).mono ?_;rintro e w2 ⟨rfl,hb2⟩;have HB2:=Bas.hid (HB1.out.trans (hb2.mono HB1.out.size));have kp2:=(hb2.block _ (heap_lt kp)).trans kp;have kj2:=(hb2.block _ (heap_lt kj)).trans kj;clear hb2 kp kj HB1
 go_upto_region 3 with (fail)
 refine wp_region_lit ?_;refine wpList_load_row rfl 44 (.tmp 2) rfl w.heap.size rfl 44 _ (0,0) _ kp2 Tryz.underlying44 rfl (by kernel_rfl) ?_
 simp only [Act.put,List.setIfInBounds_toArray,List.set_cons_zero,List.set_cons_succ];go_wp2_with (fail);refine (HSM.out _ HB2.out).mono ?_;rintro e w3 ⟨rfl,hb3⟩;have HB3:=Bas.hid (HB2.out.trans (hb3.mono HB2.out.size));have kp3:=(hb3.block _ (heap_lt kp2)).trans kp2;have kj3:=(hb3.block _ (heap_lt kj2)).trans kj2;clear hb3 kp2 kj2 HB2 HSM;by_cases hsm:smallN p=0
 case neg=>
  rw [if_neg hsm];go_wp2_with (fail);go_ret;exact ⟨rfl,HB3.out⟩
 case pos=>
  rw [if_pos hsm];have HFEW:=Bas.hid ((few_iff p).1 hsm);have j0:=cell_of_heap (i:=0) (v:=.slice s1 s2 s3) kj3 rfl;have j1:=cell_of_heap (i:=1) (v:=.int .i64 d) kj3 rfl;have j2:=cell_of_heap (i:=2) (v:=.int .i32 z) kj3 rfl;have j3:=cell_of_heap (i:=3) (v:=.slice a n cap) kj3 rfl;have lj:=heap_lt kj3;clear hsm;go_wp2_with (fail);refine (HSH.out _).mono ?_;rintro e w4 ⟨rfl,hb4⟩;have HB4:=Bas.hid (HB3.out.trans (hb4.mono HB3.out.size));have kp4:=(hb4.block _ (heap_lt kp3)).trans kp3;have kj4:=(hb4.block _ (heap_lt kj3)).trans kj3;clear hb4 kp3 kj3 HB3 HSH j0 j1 j2 j3 lj;cases hsh:(decide (n≤30)&&decide (s2≤40)) with
  |false=>
   clear hsh;go_wp2_with (fail);go_ret;exact ⟨rfl,HB4.out⟩
  |true=>
   have hn30:n≤30∧s2≤40:=by simpa using hsh
   obtain ⟨hn30,hs40⟩:=hn30;have j0:=cell_of_heap (i:=0) (v:=.slice s1 s2 s3) kj4 rfl;have j1:=cell_of_heap (i:=1) (v:=.int .i64 d) kj4 rfl;have j2:=cell_of_heap (i:=2) (v:=.int .i32 z) kj4 rfl;have j3:=cell_of_heap (i:=3) (v:=.slice a n cap) kj4 rfl;have lj:=heap_lt kj4;clear hsh;go_wp2_with (fail);refine (HCK.out _ HB4.out).mono ?_;rintro e w5 ⟨rfl,hb5⟩;have HB5:=Bas.hid (HB4.out.trans (hb5.mono HB4.out.size));have kp5:=(hb5.block _ (heap_lt kp4)).trans kp4;have kj5:=(hb5.block _ (heap_lt kj4)).trans kj4;clear hb5 kp4 kj4 HB4 HCK j0 j1 j2 j3 lj;have j1:=cell_of_heap (i:=1) (v:=.int .i64 d) kj5 rfl;have lj:=heap_lt kj5;by_cases hck:checkN d ids=0
   case neg=>
    have e1:(checkN d ids==0)=false:=by simpa using hck
    have e2:(checkN d ids !=0)=true:=by simpa using hck
    have HCN:=Bas.hid hck;clear hck;generalize checkN d ids=ck at*;go_wp2_with (fail);go_ret;exact ⟨rfl,HB5.out⟩
   case pos=>
    have HCN:=Bas.hid hck;rw [hck];clear hck;by_cases hd2:d=2
    ·subst hd2;go_wp2_with (fail);go_ret;exact ⟨rfl,HB5.out⟩
    ·have e1:(d==2)=false:=by simpa using hd2
     have HD2:=Bas.hid e1;clear hd2;have y3:=cell_of_heap (i:=3) (v:=.bool p.has.m) kp5 rfl;have y4:=cell_of_heap (i:=4) (v:=.bool p.has.k) kp5 rfl;have y6:=cell_of_heap (i:=6) (v:=.bool p.has.t) kp5 rfl;have f3:=free_of_heap (i:=3) kp5;have f4:=free_of_heap (i:=4) kp5;have f6:=free_of_heap (i:=6) kp5;have lp:=heap_lt kp5;have q3:=heap_set (i:=6) (heap_set (i:=4) (heap_set (i:=3) kp5 (.bool false)) (.bool false)) (.bool false);have HB6:=Bas.hid (((HB5.out.setCell (p:=⟨w.heap.size,3,none⟩) (Nat.le_refl _) (.bool false)).setCell (p:=⟨w.heap.size,4,none⟩) (Nat.le_refl _) (.bool false)).setCell (p:=⟨w.heap.size,6,none⟩) (Nat.le_refl _) (.bool false));have kj6:(((w5.setCell ⟨w.heap.size,3,none⟩ (.bool false)).setCell ⟨w.heap.size,4,none⟩ (.bool false)).setCell ⟨w.heap.size,6,none⟩ (.bool false)).heap[w.heap.size+1]? =some (jobO s1 s2 s3 d z a n cap):=
      (Below.heap_setCell _ _ _ _ (Nat.succ_ne_self _)).trans ((Below.heap_setCell _ _ _ _ (Nat.succ_ne_self _)).trans ((Below.heap_setCell _ _ _ _ (Nat.succ_ne_self _)).trans kj5))
     have kp6:(((w5.setCell ⟨w.heap.size,3,none⟩ (.bool false)).setCell ⟨w.heap.size,4,none⟩ (.bool false)).setCell ⟨w.heap.size,6,none⟩ (.bool false)).heap[w.heap.size]? =some (.cells (planC (noMKT p).adv.length (noMKT p).more (noMKT p).has pv) 44 (0,0)):=q3;have HKP6:=Bas.hid kp6;have HKJ6:=Bas.hid kj6;clear kp5 kj5 kp6 kj6 q3 HB5
     go_upto_region 6 with (fail)
     refine wp_region_lit ?_;refine wpList_load_row rfl 44 (.tmp 2) rfl w.heap.size rfl 44 _ (0,0) _ HKP6.out Tryz.underlying44 rfl (by kernel_rfl) ?_
     simp only [Act.put,List.setIfInBounds_toArray,List.set_cons_zero,List.set_cons_succ];generalize ((w5.setCell ⟨w.heap.size,3,none⟩ (.bool false)).setCell ⟨w.heap.size,4,none⟩ (.bool false)).setCell ⟨w.heap.size,6,none⟩ (.bool false)=w6 at*;clear y3 y4 y6 f3 f4 f6 lp j1 lj;have HWG:=Bas.hid (write_gen pv (noMKT p) w6 HOK.out HFEW.out (HIN.out.below HB6.out));go_wp2_with (fail);refine HWG.out.mono ?_;rintro e w7 ⟨g',cp,bs,rfl,x1,x2,x3,x4,x5,hb7⟩;have HB7:=Bas.hid (HB6.out.trans (hb7.mono HB6.out.size));have kj7:=(hb7.block _ (heap_lt HKJ6.out)).trans HKJ6.out;have HV7:=Bas.hid x3;have HF7:=Bas.hid x4;clear x3 x4 x5 hb7 HB6 HKJ6 HKP6 HWG;obtain ⟨ab,am,am2⟩:=advA_ok HOK.out HFEW.out;obtain ⟨-,tf,-,-,ta,-⟩:=PlanD.tabsOk HOK.out HFEW.out;have hgl:p.glyphs=(advA p.adv).length+(p.more%40).toNat:=rfl;have hmo:(p.more%40).toNat≤39:=by omega
     have hdd:=hmtx_at p;have hal:p.ankr.length≤30:=by have:=HFEW.out.1.2.2.2.2;omega
     have hap:∀s∈p.ankr,s.length≤30:=fun s hs=>by have:=HFEW.out.2.2.2.2.1 s hs;omega
     have HRO:=Bas.hid (ropen_ok (some ⟨g',0,none⟩) bs.length cp bs (noMKT p).has (noMKT p).tabs p.ankr p.glyphs (advA p.adv).length (hmtxL (advA p.adv) (p.more%40).toNat) w7 x1 x2 HV7.out rfl rfl rfl rfl rfl hal hap (Nat.le_trans tf (by omega)) (Nat.le_trans ta (by omega)) HF7.out hdd am (by omega) (by omega))
     have HSP:=Bas.hid (fun w' (hb:Below w.heap.size w w') (hb7:Below w7.heap.size w7 w')=>shape_feat (some ⟨g',0,none⟩) bs.length cp bs p.glyphs (advA p.adv).length (hmtxL (advA p.adv) (p.more%40).toNat) s1 s2 s3 d z a n cap ids l false w' x1 x2 (HV7.out.below hb7) rfl (fun h=>by cases h) (noMKT p).has (noMKT p).tabs p.ankr rfl rfl rfl (Nat.le_trans tf (by omega)) rfl hal hap (feats_few HOK.out HFEW.out _) HF7.out hdd am (by omega) (by omega)
      (Row.leads_below HL.out hb) HN.out HCN.out (by omega) HD2.out (bad_of_check HCN.out).1 hz (Row.leads_below HS.out hb) HS2.out (by omega) HWF.out)
     obtain ⟨hcl,hou⟩:=outs_plain p.glyphs (advA p.adv).length (hmtxL (advA p.adv) (p.more%40).toNat) d ids (hmtxL_byte _ _) HCN.out;rw [hou,hcl,HN.out] at HSP;have HBD:=Bas.hid (bad_of_check HCN.out).2.2;have HABD:=Bas.hid (advL_bd p.glyphs (advA p.adv).length (hmtxL (advA p.adv) (p.more%40).toNat) (hmtxL_byte _ _));generalize hmtxL (advA p.adv) (p.more%40).toNat=dd at*;generalize p.glyphs=g at*;generalize (advA p.adv).length=m at*;generalize featsN (noMKT p).has (noMKT p).tabs=fo at*;clear hcl hou tf ta ab hal hap hdd hgl hmo HIN HCN HV7 HF7;go_wp2_with (fail);refine HRO.out.mono ?_;rintro e w8 ⟨hb8,a1,c1,a2,c2,a3,n3,c3,b4,a5,n5,c5,a6,n6,c6,a7,n7,c7,rfl,ho8⟩;have HB8:=Bas.hid (HB7.out.trans (hb8.mono HB7.out.size));have H78:=Bas.hid hb8;have kj8:=(hb8.block _ (heap_lt kj7)).trans kj7;have HO8:=Bas.hid ho8;clear hb8 ho8 HRO kj7;have hb9:=(Below.refl w8.heap.size w8).alloc (Nat.le_refl _) (.cells (fntC g m (.slice a1 g c1) (.slice a2 g c2) (.slice a3 n3 c3) b4 (.slice a5 n5 c5) (.slice a6 n6 c6) (.slice a7 n7 c7)) 69);have kf:=Bas.heap_new w8 (.cells (fntC g m (.slice a1 g c1) (.slice a2 g c2) (.slice a3 n3 c3) b4 (.slice a5 n5 c5) (.slice a6 n6 c6) (.slice a7 n7 c7)) 69);have HB9:=Bas.hid (HB8.out.trans (hb9.mono HB8.out.size));have H79:=Bas.hid (H78.out.trans (hb9.mono H78.out.size));have kj9:=(hb9.block _ (heap_lt kj8)).trans kj8;have HO9:=Bas.hid (Row.owned_below HO8.out hb9);have j0:=cell_of_heap (i:=0) (v:=.slice s1 s2 s3) kj9 rfl;have j1:=cell_of_heap (i:=1) (v:=.int .i64 d) kj9 rfl;have j2:=cell_of_heap (i:=2) (v:=.int .i32 z) kj9 rfl;have j3:=cell_of_heap (i:=3) (v:=.slice a n cap) kj9 rfl;have lj:=heap_lt kj9;clear hb9 kj8 HB8 H78 HO8
     go_upto_region 8 with (fail)
     generalize w8.alloc (.cells #[.int .i64 (g:Int),.int .i64 1000,.int .i64 (m:Int),.slice a1 g c1,.slice a2 g c2,.slice a3 n3 c3,.slice none 0 0,.slice none 0 0,.slice none 0 0,.bool b4,.slice a5 n5 c5,.slice a6 n6 c6,.slice a7 n7 c7,.slice none 0 0,.slice none 0 0,.slice none 0 0,.slice none 0 0] 69)=w9 at*;generalize w8.heap.size=T6 at*;go_wp2_with (fail);refine (HSP.out w9 HB9.out H79.out).mono ?_;rintro e w10 ⟨hb10,hres⟩;have HB10:=Bas.hid (HB9.out.trans (hb10.mono HB9.out.size));have kf10:=(hb10.block _ (heap_lt kf)).trans kf;have kj10:=(hb10.block _ (heap_lt kj9)).trans kj9;have HO10:=Bas.hid (Row.owned_below HO9.out hb10);clear hb10 kf kj9 HO9 HSP HB9 H79 HB7 j0 j1 j2 j3 lj;cases fo with
     |none=>
      simp only at hres;subst hres;have HB11:=Bas.hid (HB10.out.alloc HB10.out.size (.cells #[.int .i64 2,.int .i64 0,.int .i64 0] 74));go_wp2_with (fail);go_ret;exact ⟨rfl,HB11.out⟩
     |some fs=>
      simp only at hres;obtain ⟨v,rfl,hov⟩:=hres;obtain ⟨va,vc,rfl⟩:=own_slice hov;have hb11:=(Below.refl w10.heap.size w10).alloc (Nat.le_refl _) fltO;have HB11:=Bas.hid (HB10.out.trans (hb11.mono HB10.out.size));have HV11:=Bas.hid (Row.owned_below hov hb11);have HO11:=Bas.hid (Row.owned_below HO10.out hb11);have kf11:=(hb11.block _ (heap_lt kf10)).trans kf10;have kj11:=(hb11.block _ (heap_lt kj10)).trans kj10;have HL11:=Bas.hid (Row.leads_below HL.out HB11.out);have g0:=cell_of_heap (i:=0) (v:=.int .i64 (g:Int)) kf11 rfl;have g3:=cell_of_heap (i:=3) (v:=.slice a1 g c1) kf11 rfl;have lf:=heap_lt kf11;have j3:=cell_of_heap (i:=3) (v:=.slice a n cap) kj11 rfl;have lj:=heap_lt kj11;clear hov hb11 kf10 kj10 HB10 HO10 kf11 kj11;go_wp2_with (fail);generalize w10.alloc fltO=w11 at*;clear j3 lj;go_loop [71] (fun vi=>∃k:Nat,k≤n∧vi=.int .i64 k) (fun vi=>n - (intOf vi).toNat)
      case atStart=>exact ⟨0,Nat.zero_le _,rfl⟩
      case round=>
       obtain ⟨k,hk,rfl⟩:=hrel;by_cases hkn:k<n
       ·have d1:decide ((k:Int)<(n:Int))=true:=by simp;omega
        have d2:decide (k<n)=true:=by simp;omega
        obtain ⟨x,hx⟩:∃x,ids[k]? =some x:=⟨_,List.getElem?_eq_getElem (by rw [HN.out];exact hkn)⟩
        obtain ⟨x0,x1⟩:=HBD.out x (List.mem_of_getElem? hx);obtain ⟨i,rfl⟩:=Int.eq_ofNat_of_zero_le x0;obtain ⟨bi,oi,ci,hvi,ei⟩:=St.leads_at HL11.out (i:=k) (u:=.int .i64 (i:Int)) (by rw [List.getElem?_map,hx];rfl)
        cases hvi;have li:=World.block_lt_of_cell? _ _ ei;have hpo:(plainOuts g m dd ids)[k]? =some (((i:Int),(k:Int)),⟨advL g m dd (i:Int),0,0⟩):=by
         unfold plainOuts;rw [List.getElem?_map,List.getElem?_range (by rw [HN.out];exact hkn),Option.map_some,List.getD_eq_getElem?_getD,hx];rfl
        obtain ⟨GV,CV,hvv,-,lV,-,hcl⟩:=Row.elem_cells outC_len HV11.out hpo (by omega) (by rw [plainOuts_len];exact HN.out)
        cases hvv;have v0:=hcl 0 _ rfl;have v1:=hcl 1 _ rfl;have v2:=hcl 2 _ rfl;have v3:=hcl 3 _ rfl;have v4:=hcl 4 _ rfl;simp only [Nat.add_zero] at v0;obtain ⟨ad0,ad1⟩:=HABD.out (i:Int);clear hcl hpo hx x0;by_cases hig:i<g
        ·have e1:decide ((i:Int)<(g:Int))=true:=by simp;omega
         have e2:decide (i<g)=true:=by simp;omega
         obtain ⟨br,orr,cr,hvr,er⟩:=St.leads_at (Row.leads_owned HO11.out) (i:=i) (u:=.int .i64 (advL g m dd (i:Int))) (by rw [List.getElem?_map,advR_get g m dd i hig];rfl)
         cases hvr;have lr:=World.block_lt_of_cell? _ _ er;generalize advL g m dd (i:Int)=q at*;go_wp2_with (fail);exact ⟨⟨k+1,by omega,by go_num⟩,by simp [intOf];omega⟩
        ·have e1:decide ((i:Int)<(g:Int))=false:=by simp;omega
         have e2:decide (i<g)=false:=by simp;omega
         have hq:advL g m dd (i:Int)=0:=by unfold advL;rw [if_neg (by omega)]
         rw [hq] at v2;clear hq ad0 ad1;go_wp2_with (fail);exact ⟨⟨k+1,by omega,by go_num⟩,by simp [intOf];omega⟩
       ·have hk2:k=n:=by omega
        subst hk2;have d1:decide ((k:Int)<(k:Int))=false:=by simp
        clear hkn;go_wp2_with (fail);go_ret;exact ⟨rfl,HB11.out⟩
theorem shapePlain_walk{H:Type}{enc:TypeId×Value→H}(v0:Value)(d0:DataW H)(p0:List MemPlace)(v1:Value)(d1:DataW H)(p1:List MemPlace)(W:World){base:Nat}
  (hv0:Value.okWide Tryz.prog W .any base 44 v0) (ht0:DataW.Trod enc Tryz.prog W 0 (fun _=>true) true 44 v0 d0 p0) (hv1:Value.okWide Tryz.prog W .any base 26 v1) (ht1:DataW.Trod enc Tryz.prog W 0 (fun _=>true) true 26 v1 d1 p1)
  (hb0:Rows.uptoBulk d0≤1048576) (hb1:Rows.uptoBulk d1≤1048576):
  Calls Tryz.prog 4 #[v0,v1] W fun e w'=>e=.returned (.bool true)∧Below W.heap.size W w':=by
 obtain ⟨pv,q,rfl,h1,h2,h3⟩:=Bk.plan (N:=1048576) v0 d0 p0 W (by decide) hv0 ht0 hb0
 obtain ⟨s1,s3,dir,z,a,cap,l,ids,rfl,k1,k2,_,_,k4,k5,_,_⟩:=Bk.job v1 d1 p1 W hv1 ht1 hb1;exact plain_walk pv q s1 s3 dir z a cap l ids W h1 h2 h3 k1 k2 k4 k5
end Sh
end Go.Proofs.YtceihjjjmcgmaaaGreat
