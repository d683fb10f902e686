/- Parts of a proof: texts PickSettle, PickOn, PickFlags, MxFlags, MxSub, MxSubT, MxRunD, MxRun, ShNone. -/
import Derived.Test.YtceihjjjmcgmaaaGreatMP08
import Derived.Shelf.SlSortCmp.NoneTotal
import Derived.Laws.EntriesVeiled
import Derived.Laws.ResultCell
set_option maxHeartbeats 16000000
set_option maxRecDepth 100000
namespace Go.Proofs.YtceihjjjmcgmaaaGreat
open Go.RowKit
namespace Pk
open Ch Ft Go.Maps
theorem right_any(t v:Int)(w:World):Calls Tryz.prog 112 #[.agg #[.int .i64 t,.int .i64 v]] w fun e w'=>e=.returned (.bool (rightB (t,v)))∧Below w.heap.size w w':=by
 have HB:=Bas.hid ((Below.refl w.heap.size w).alloc (Nat.le_refl _) (.cells #[.int .i64 t,.int .i64 v] 325));by_cases h1:0≤t
 ·have a1:decide (t≥0)=true:=decide_eq_true h1;have b1:decide (0≤t)=true:=decide_eq_true h1;by_cases h2:t≤65535
  ·have a2:decide (t≤65535)=true:=decide_eq_true h2;by_cases h3:0≤v
   ·have a3:decide (v≥0)=true:=decide_eq_true h3;have b3:decide (0≤v)=true:=decide_eq_true h3;by_cases h4:v≤65535
    ·have a4:decide (v≤65535)=true:=decide_eq_true h4;have hr:rightB (t,v)=true:=decide_eq_true ⟨h1,h2,h3,h4⟩;rw [hr];clear h1 h2 h3 h4 hr;go_enter Tryz.func112,Tryz.ntmps112
     go_wp2_with (fail);go_ret;exact ⟨rfl,HB.out⟩
    ·have a4:decide (v≤65535)=false:=decide_eq_false h4;have hr:rightB (t,v)=false:=decide_eq_false (fun h=>h4 h.2.2.2)
     rw [hr];clear h1 h2 h3 h4 hr;go_enter Tryz.func112,Tryz.ntmps112
     go_wp2_with (fail);go_ret;exact ⟨rfl,HB.out⟩
   ·have a3:decide (v≥0)=false:=decide_eq_false h3;have b3:decide (0≤v)=false:=decide_eq_false h3;have hr:rightB (t,v)=false:=decide_eq_false (fun h=>h3 h.2.2.1)
    rw [hr];clear h1 h2 h3 hr;go_enter Tryz.func112,Tryz.ntmps112
    go_wp2_with (fail);go_ret;exact ⟨rfl,HB.out⟩
  ·have a2:decide (t≤65535)=false:=decide_eq_false h2;have hr:rightB (t,v)=false:=decide_eq_false (fun h=>h2 h.2.1)
   rw [hr];clear h1 h2 hr;go_enter Tryz.func112,Tryz.ntmps112
   go_wp2_with (fail);go_ret;exact ⟨rfl,HB.out⟩
 ·have a1:decide (t≥0)=false:=decide_eq_false h1;have b1:decide (0≤t)=false:=decide_eq_false h1;have hr:rightB (t,v)=false:=decide_eq_false (fun h=>h1 h.1)
  rw [hr];clear h1 hr;go_enter Tryz.func112,Tryz.ntmps112
  go_wp2_with (fail);go_ret;exact ⟨rfl,HB.out⟩
theorem sort_none(w:World):Calls Tryz.prog 114 #[.slice none 0 0,.func (.func 115) #[] #[]] w fun e w'=>e=.returned (.tuple #[])∧w'=w:=
 AnyF.slices_SortFunc_none sortSt none 0 _ w
theorem map_below{w w':World}{b n:Nat}{D:DataW Unit}(h:w.ownsMap Tryz.prog 325 readS b n D)(hb:Below w.heap.size w w'):w'.ownsMap Tryz.prog 325 readS b n D:=
 h.kept (Bas.gbelow (Bas.grefl w none) hb) (by simp)
theorem infoS:(Tryz.prog.info? 325).map (fun i=>(i.zero,i.size,i.bytes))=some (some (.agg #[.int .i64 0,.int .i64 0]),2,16):=by kernel_rfl
theorem own_map{w:World}{base size n m b:Nat}{e:TypeId}{v:Value}{xs:List Value}{D:DataW Unit}(h:w.ownsRow base e size v n xs)(hm:w.ownsMap Tryz.prog 325 readS b m D):some b≠v.ownBlock:=by
 intro he;obtain ⟨_,⟨rfl,_⟩|⟨g',cp,cur,rfl,_,hh,_⟩⟩:=h
 ·cases he
 ·cases he;obtain ⟨es,clock,hb,_⟩:=hm;rw [hh] at hb;cases hb
theorem own_iter{w:World}{base size n m b r cnt:Nat}{e:TypeId}{v:Value}{xs:List Value}{D:DataW Unit}{left:Lit→Bool}(h:w.ownsRow base e size v n xs)(hm:w.ranges Tryz.prog 325 readS b r m D left cnt):some r≠v.ownBlock:=by
 intro he;obtain ⟨_,⟨rfl,_⟩|⟨g',cp,cur,rfl,_,hh,_⟩⟩:=h
 ·cases he
 ·cases he;obtain ⟨es,clock,since,seen,c0,_,_,_,_,hr,_⟩:=hm;rw [hh] at hr;cases hr
theorem settle_any(a:Option Addr)(len cap:Nat)(l:List (Int×Int))(fv:Value)(fs:List FeatD)(ss:List Value)(fb:Nat)(w:World)(hl:Row.Leads w (.slice a len cap) len (l.flatMap setC))(hn:l.length=len)(hlen:len≤100000)(hf:FRow w fb fv fs ss)(hfl:fs.length≤1000000000)(hwf:∀s∈l,wf64 s):
  Calls Tryz.prog 69 #[.slice a len cap,fv] w fun e w'=>∃v ys,e=.returned v∧IsSet fs l ys∧w'.ownsRow w.heap.size 325 2 v ys.length (ys.flatMap setC)∧Below w.heap.size w w':=by
 have hmm:= @run_makeMap Tryz.prog;have HL:=Bas.hid hl;have HN:=Bas.hid hn;have HF:=Bas.hid hf;have HWF:=Bas.hid hwf;have HFL:=Bas.hid hfl;obtain ⟨fa,fc,rfl⟩:=own_slice hf.own;clear hl hn hf hwf hfl;go_enter Tryz.func69,Tryz.ntmps69
 go_wp2_with (fail);go_loopw [14] (fun vi wr=>∃i:Nat,i≤len∧vi=.int .i64 i∧wr.ownsMap Tryz.prog 325 readS w.heap.size i (Dm fs (l.take i))∧Below w.heap.size w wr) (fun vi _=>len - (intOf vi).toNat)
 case atStart=>exact ⟨0,Nat.zero_le _,rfl,World.ownsMap_made _ _ _ _,(Below.refl _ _).alloc (Nat.le_refl _) _⟩
 case round=>
  obtain ⟨i,hi,rfl,hown,hb⟩:=hrel;have HO:=Bas.hid hown;have HB:=Bas.hid hb;clear hown hb;by_cases hin:i<len
  ·have e1:decide ((i:Int)<(len:Int))=true:=by simp;omega
   have e2:decide (i<len)=true:=by simp;omega
   obtain ⟨s,hs⟩:∃s,l[i]? =some s:=⟨_,List.getElem?_eq_getElem (by rw [HN.out];exact hin)⟩
   obtain ⟨t,v⟩:=s;obtain ⟨B,Of,cp0,hv0,hcl⟩:=Row.leads_elem setC_len HL.out hs (by omega)
   cases hv0;have h0:=hcl 0 _ rfl;have h1:=hcl 1 _ rfl;simp only [Nat.add_zero] at h0;have c0:=(HB.out.cell (p:=⟨B,Of+i*2,none⟩) (World.block_lt_of_cell? _ _ h0)).trans h0;have c1:=(HB.out.cell (p:=⟨B,Of+i*2+1,none⟩) (World.block_lt_of_cell? _ _ h1)).trans h1;have HW:=Bas.hid (HWF.out _ (List.mem_of_getElem? hs));have hTK:l.take (i+1)=l.take i++[(t,v)]:=by rw [List.take_add_one,hs];rfl
   have hTKE:=Bas.hid hTK;clear hs hcl h0 h1 hTK;go_wp2_with (fail);have k7:=Bas.heap_new wr (.cells #[.int .i64 t,.int .i64 v] 325);have HB1:=Bas.hid (HB.out.alloc HB.out.size (.cells #[.int .i64 t,.int .i64 v] 325));have HO1:=Bas.hid (HO.out.alloc (.cells #[.int .i64 t,.int .i64 v] 325));generalize wr.alloc (.cells #[.int .i64 t,.int .i64 v] 325)=W1 at*;generalize wr.heap.size=T7 at*;clear c0 c1 HB HO;refine (right_any t v W1).mono ?_;rintro e w2 ⟨rfl,hb2⟩;have k72:=(hb2.block _ (heap_lt k7)).trans k7;have HB2:=Bas.hid (HB1.out.trans (hb2.mono HB1.out.size));have HO2:=Bas.hid (map_below HO1.out hb2);clear hb2 HB1 HO1 k7;have hsn:=Dm_snoc fs (l.take i) (t,v);rw [←hTKE.out] at hsn;obtain ⟨rb,hrb⟩:∃rb,rightB (t,v)=rb:=⟨_,rfl⟩;have HRB:=Bas.hid hrb;rw [hrb] at hsn ⊢;clear hrb;cases rb with
   |false=>
    simp only [if_false,Bool.false_eq_true] at hsn;have HSN:=Bas.hid hsn;clear hsn;go_wp2_with (fail);go_roundw
    case rel=>exact ⟨i+1,by omega,by go_num,by rw [HSN.out];exact HO2.out.mono (by omega),HB2.out⟩
    case measure=>simp [intOf];omega
   |true=>
    simp only [if_true] at hsn;have HSN:=Bas.hid hsn;clear hsn;have q0:=cell_of_heap (i:=0) (v:=.int .i64 t) k72 rfl;have q1:=cell_of_heap (i:=1) (v:=.int .i64 v) k72 rfl;go_wp2_with (fail);have hrt:=of_decide_eq_true HRB.out;obtain ⟨rt0,rt1,rv0,rv1⟩:=hrt;simp only at rt0 rt1 rv0 rv1;refine (excl_any (.slice fa fs.length fc) fs ss fb t w2 (fRow_below HF.out HB2.out) HFL.out).mono ?_;rintro e w3 ⟨rfl,hb3⟩;have k73:=(hb3.block _ (heap_lt k72)).trans k72;have HB3:=Bas.hid (HB2.out.trans (hb3.mono HB2.out.size));have HO3:=Bas.hid (map_below HO2.out hb3);clear hb3 HB2 HO2 k72 q0 q1;have p0:=cell_of_heap (i:=0) (v:=.int .i64 t) k73 rfl;have p1:=cell_of_heap (i:=1) (v:=.int .i64 v) k73 rfl;have hck:ck fs (t,v)=if exclL fs t then (t,-1) else (t,v / 2):=rfl
    have hcw:=ck_wf fs (t,v) HRB.out;obtain ⟨x,hx⟩:∃x,exclL fs t=x:=⟨_,rfl⟩;rw [hx] at hck ⊢;clear hx;cases x with
    |true=>
     simp only [if_true] at hck;rw [hck] at HSN hcw;have HKEY:=Bas.hid (keyOf_set _ hcw);clear hck hcw;go_wp2_with (at_mapUpdate;refine Row.fence ?_);refine Row.unfence ?_;refine wpList_mapUpdate_own _ rfl _ _ _ 323 rfl 325 325 keyed Tryz.underlying323 _ w.heap.size i _ rfl HO3.out (by unfold maxLen;omega) _ _ _ rfl rfl HKEY.out _ [] (readS_mk (t,v)) ?_
     intro w4 hown4 hgrow4;have HB4:=Bas.hid (HB3.out.grown hgrow4 HB3.out.size (fun j hj=>by cases hj;exact Nat.le_refl _))
     have HO4:=Bas.hid hown4;clear hown4 hgrow4 HB3 HO3 HKEY p0 p1 k73;go_wp2_with (fail);go_roundw
     case rel=>exact ⟨i+1,by omega,by go_num,by rw [HSN.out];exact HO4.out,HB4.out⟩
     case measure=>simp [intOf];omega
    |false=>
     simp only [if_false,Bool.false_eq_true] at hck;rw [hck] at HSN hcw;have HKEY:=Bas.hid (keyOf_set _ hcw);have hdv:v.tdiv 2=v / 2:=Int.tdiv_eq_ediv_of_nonneg rv0;clear hck hcw;go_wp2_with (at_mapUpdate;refine Row.fence ?_);refine Row.unfence ?_;refine wpList_mapUpdate_own _ rfl _ _ _ 323 rfl 325 325 keyed Tryz.underlying323 _ w.heap.size i _ rfl HO3.out (by unfold maxLen;omega) _ _ _ rfl rfl HKEY.out _ [] (readS_mk (t,v)) ?_
     intro w4 hown4 hgrow4;have HB4:=Bas.hid (HB3.out.grown hgrow4 HB3.out.size (fun j hj=>by cases hj;exact Nat.le_refl _))
     have HO4:=Bas.hid hown4;clear hown4 hgrow4 HB3 HO3 HKEY p0 p1 k73;go_wp2_with (fail);go_roundw
     case rel=>exact ⟨i+1,by omega,by go_num,by rw [HSN.out];exact HO4.out,HB4.out⟩
     case measure=>simp [intOf];omega
  ·have hin2:i=len:=by omega
   subst hin2;have hlt:l.take i=l:=List.take_of_length_le (by rw [HN.out];exact Nat.le_refl _)
   rw [hlt] at HO;have HM0:=Bas.hid (met_start fs l);clear hlt;go_wp2_with (at_range;refine Row.fence ?_);refine Row.unfence ?_;refine wpList_range_own _ rfl _ 323 rfl 325 325 keyed Tryz.underlying323 _ w.heap.size i _ rfl HO.out ?_;intro w0 hrg0 hg0 hs0
   go_frame
   have HB0:=Bas.hid (HB.out.grown hg0 HB.out.size (fun j hj=>by cases hj))
   have hwr:w.heap.size≤wr.heap.size:=HB.out.size;obtain ⟨r,hr⟩:∃r,wr.heap.size=r:=⟨_,rfl⟩;rw [hr] at hrg0 hwr ⊢;have HR0:=Bas.hid hrg0;clear hr hrg0 hg0 hs0 HB HO;go_wp2_with (fail);go_loopw [8] (fun vb wq=>∃(left:Lit→Bool) (cnt:Nat) (xs:List (Int×Int)) (v8:Value),v8=vb∧wq.ranges Tryz.prog 325 readS w.heap.size r i (Dm fs l) left cnt∧Met fs l left xs∧wq.ownsRow w.heap.size 325 2 v8 xs.length (xs.flatMap setC)∧Below w.heap.size w wq) (fun _ wq=>wq.rangeLeft w.heap.size r)
   case atStart=>exact ⟨_,_,[],_,rfl,HR0.out,HM0.out,Row.owned_nil _ _ _ _,HB0.out⟩
   case round=>
    obtain ⟨left,cnt,xs,v8,hv8,hrg,hmet,hown,hb⟩:=hrel;rw [←hv8];clear hv8;have HRG:=Bas.hid hrg;have HME:=Bas.hid hmet;have HO:=Bas.hid hown;have HB:=Bas.hid hb;clear hrg hmet hown hb HR0 HM0 HB0;go_wp2_with (at_next;refine Row.fence ?_);refine Row.unfence ?_;refine wpList_next_ranges _ rfl _ rfl 325 keyed readS setV setV (fun key kk h=>by obtain ⟨s,_,h2,_⟩:=keyOf_set_inv h;exact ⟨s,h2⟩) (fun v y h=>by obtain ⟨s,h1,_⟩:=readS_inv h;exact ⟨s,h1⟩) w.heap.size r i _ _ _ rfl HRG.out ?_ ?_
    ·intro hc0 hl0;have HL0:=Bas.hid hl0
     go_frame
     clear hc0 hl0;go_wp2_with (fail);have hO:=HO.out;have hml:=met_len HME.out;obtain ⟨hlx,⟨h8,hx0⟩|⟨g,cp,cur,h8,hgb,hh,hnc,hmc,hcs,htk⟩⟩:=hO
     ·subst h8;have hxn:xs=[]:=List.length_eq_zero_iff.1 hx0;subst hxn;have HIS:=Bas.hid (met_end HME.out HL0.out (List.Perm.refl []) List.Pairwise.nil);clear hlx hx0 hml;refine (sort_none wr).mono ?_;rintro e w2 ⟨rfl,rfl⟩;go_wp2_with (fail);go_ret;exact ⟨_,[],rfl,HIS.out,Row.owned_nil _ _ _ _,HB.out⟩
     ·subst h8;have HST:=Bas.hid (sort_any w.heap.size g cp xs wr HO.out (by rw [HN.out] at hml;omega))
      have HGB:=Bas.hid hgb;clear hlx hgb hh hnc hmc hcs htk hml;refine HST.out.mono ?_;rintro e w2 ⟨rfl,ys,hperm,hris,hown2,hgr⟩;have HIS:=Bas.hid (met_end HME.out HL0.out hperm hris);have HO2:=Bas.hid hown2;have HB2:=Bas.hid (HB.out.grown hgr HB.out.size (fun j hj=>by cases hj;exact HGB.out))
      have HPL:=Bas.hid hperm.length_eq;clear hperm hris hown2 hgr HST HO HB;go_wp2_with (fail);go_ret;exact ⟨_,ys,rfl,HIS.out,by rw [←HPL.out];exact HO2.out,HB2.out⟩
    ·intro x c kk y w1 cnt1 hkey hlx hry hat hrg1 hlt hg1 hs1 hen;obtain ⟨x',hwx,hxe,rfl⟩:=keyOf_set_inv hkey;have hxx:x=x':=by simp [setV] at hxe;exact Prod.ext hxe.1 hxe.2
     subst hxx;rw [readS_mk] at hry;cases hry;have HME2:=Bas.hid (met_step HME.out hwx hlx hat);have HRG1:=Bas.hid hrg1;have HLT:=Bas.hid hlt;have HO1:=Bas.hid (Row.owned_keep HO.out fun g hg=>hg1.block g (Row.own_block HO.out hg).2 (fun e=>own_iter HO.out HRG.out (by rw [hg];exact e.symm)))
     have hrw:w.heap.size≤r:=hwr;have HB1:=Bas.hid (HB.out.grown hg1 HB.out.size (fun j hj=>by cases hj;exact hrw))
     clear hkey hlx hat hrg1 hlt hg1 hs1 hxe hwx HME HB HO
     go_frame
     obtain ⟨ct,cv⟩:=c;obtain ⟨xt,xv⟩:=x;simp only [setV] at hen ⊢;go_wp2_with (at_builtin;refine Row.fence ?_);refine Row.unfence ?_;have kX:=Bas.heap_new2 w1 (.cells #[.int .i64 ct,.int .i64 cv] 325) (.cells #[.int .i64 ct,.int .i64 cv] 325);have HRX:=Bas.hid ((HRG1.out.alloc (.cells #[.int .i64 ct,.int .i64 cv] 325)).alloc (.cells #[.int .i64 ct,.int .i64 cv] 325));have hbX:Below w1.heap.size w1 ((w1.alloc (.cells #[.int .i64 ct,.int .i64 cv] 325)).alloc (.cells #[.int .i64 ct,.int .i64 cv] 325)):=((Below.refl _ _).alloc (Nat.le_refl _) _).alloc (by simp) _
     have HBX:=Bas.hid (HB1.out.trans (hbX.mono HB1.out.size));have HOX:=Bas.hid (Row.owned_below HO1.out hbX);have hml:=met_len HME2.out;rw [HN.out,List.length_append] at hml;simp only [List.length_cons,List.length_nil] at hml;generalize (w1.alloc (.cells #[.int .i64 ct,.int .i64 cv] 325)).alloc (.cells #[.int .i64 ct,.int .i64 cv] 325)=X at*;generalize w1.heap.size=T1 at*;refine (Row.append_any rfl _ _ 23 325 rfl (.agg #[.int .i64 0,.int .i64 0]) 2 16 Tryz.underlying23 infoS rfl (by decide) w.heap.size v8 xs.length _ rfl HOX.out (.slice (some ⟨T1+1,0,none⟩) 1 1) 1 [.int .i64 ct,.int .i64 cv] rfl (leads_heap kX) rfl (by simp;exact ⟨rfl,rfl⟩) (by unfold maxLen;omega) (by omega) HBX.out.size ?_)
     intro v9 w9 hown9 hg9 _;have HR9:=Bas.hid (HRX.out.kept hg9 (own_map HOX.out HRX.out.owns) (own_iter HOX.out HRX.out));have HB9:=Bas.hid (HBX.out.grown hg9 HBX.out.size (fun j hj=>(Row.own_block HOX.out hj).1))
     have ho9:w9.ownsRow w.heap.size 325 2 v9 (xs++[(ct,cv)]).length ((xs++[(ct,cv)]).flatMap setC):=by
      rw [List.length_append,List.flatMap_append];exact hown9
     have HO9:=Bas.hid ho9;clear hown9 hg9 ho9 HOX HBX HRX HB1 HO1 HRG1 kX hbX hen;go_wp2_with (fail);go_roundw
     case rel=>exact ⟨_,cnt1,xs++[(ct,cv)],v9,rfl,HR9.out,HME2.out,HO9.out,HB9.out⟩
     case measure=>rw [HR9.out.left_eq,HRG.out.left_eq];exact HLT.out
theorem below_grow(w:World)(q:Nat)(os:Array Obj):Below w.heap.size w (Go.Sort.grow (w.drewN q) os):=
 ⟨rfl,rfl,rfl,by rw [Go.Sort.size_grow];exact Nat.le_add_right _ _,fun k hk=>Go.Sort.heap_grow_old (w.drewN q) os hk⟩
theorem compare_b(a b c d:Int)(w:World):Calls Tryz.prog 115 #[.agg #[.int .i64 a,.int .i64 b],.agg #[.int .i64 c,.int .i64 d]] w fun e w'=>e=.returned (.int .i64 (cmpP (a,b) (c,d)))∧Below w.heap.size w w':=
 (compare_any (a,b) (c,d) w).mono fun _ _ ⟨h,q,os,hw⟩=>⟨h,by rw [hw];exact below_grow w q os⟩
theorem cmpP_neg(x y:Int×Int):cmpP x y<0↔ltP x y=true:=by
 have h:=ltOf_eq x y;unfold ltOf at h;rw [←h];simp
theorem cmpP_zero(x y:Int×Int):cmpP x y=0↔x=y:=by
 unfold cmpP;by_cases h:cmpI x.1 y.1=0
 ·rw [if_pos h,cmpI_zero];have:=(cmpI_zero _ _).1 h;exact ⟨fun e=>Prod.ext this e,fun e=>by rw [e]⟩
 ·rw [if_neg h];refine ⟨fun e=>absurd e h,fun e=>absurd ((cmpI_zero _ _).2 (by rw [e])) h⟩
theorem ltP_trans{x y z:Int×Int}(h1:ltP x y=true)(h2:ltP y z=true):ltP x z=true:=by
 simp [ltP] at*;omega
def BsP(w:World)(T:Nat→Int×Int)(t:Int×Int)(n:Nat)(e:Ending)(w':World):Prop:=
 ∃k,k≤n∧(∀j,j<k→ltP (T j) t=true)∧(∀j,k≤j→j<n→ltP (T j) t=false)∧e=.returned (.tuple #[.int .i64 (k:Nat),.bool (decide (k<n)&&(cmpP (T k) t==0))])∧Below w.heap.size w w'
theorem bs_any(v:Value)(n:Nat)(T:Nat→Int×Int)(tt tv:Int)(w:World)(hn:n≤100000)(hv:∃a c,v=.slice a n c)(hc:∀j,j<n→∃b o c,v=.slice (some ⟨b,o,none⟩) n c∧w.cell? ⟨b,o+j*2,none⟩=some (.int .i64 (T j).1)∧w.cell? ⟨b,o+j*2+1,none⟩=some (.int .i64 (T j).2))
  (hr:∀i j,i<j→j<n→ltP (T i) (T j)=true):
  Calls Tryz.prog 251 #[v,.agg #[.int .i64 tt,.int .i64 tv],.func (.func 115) #[] #[]] w (BsP w T (tt,tv) n):=by
 have hcf:∀args w,(callFunc 115 args).run Tryz.prog w=.ok (.enter 115 args) w:=fun args w=>by simp [go_sem]
 have HC:=Bas.hid hc;have HR:=Bas.hid hr;obtain ⟨va,vc,rfl⟩:=hv;clear hc hr;go_enter Tryz.func251,Tryz.ntmps251
 go_wp2_with (fail);have k4:=Bas.heap_new w (.cells #[.int .i64 tt,.int .i64 tv] 325);have HB0:=Bas.hid ((Below.refl w.heap.size w).alloc (Nat.le_refl _) (.cells #[.int .i64 tt,.int .i64 tv] 325));generalize w.alloc (.cells #[.int .i64 tt,.int .i64 tv] 325)=W at*;obtain ⟨T4,hT4⟩:∃T4,w.heap.size=T4:=⟨_,rfl⟩;have HT4:=Bas.hid hT4;rw [hT4] at k4 ⊢;clear hT4;go_loopw [9,10] (fun va vb wr=>∃lo hi:Nat,lo≤hi∧hi≤n∧va=.int .i64 lo∧vb=.int .i64 hi∧(∀j,j<lo→ltP (T j) (tt,tv)=true)∧(∀j,hi≤j→j<n→ltP (T j) (tt,tv)=false)∧Below w.heap.size w wr∧wr.heap[T4]? =some (.cells #[.int .i64 tt,.int .i64 tv] 325 (0,0))) (fun va vb _=>(intOf vb).toNat - (intOf va).toNat)
 case atStart=>exact ⟨0,n,by omega,by omega,rfl,rfl,fun j h=>by omega,fun j h h'=>by omega,HB0.out,k4⟩
 case round=>
  obtain ⟨lo,hi,hlh,hhn,rfl,rfl,hA,hB,hb,k5⟩:=hrel;have HA:=Bas.hid hA;have HBB:=Bas.hid hB;have HB:=Bas.hid hb;clear hA hB hb k4 HB0;have l5:=heap_lt k5;have d0:=cell_of_heap (i:=0) (v:=.int .i64 tt) k5 rfl;have d1:=cell_of_heap (i:=1) (v:=.int .i64 tv) k5 rfl;by_cases hlt:lo<hi
  ·have e1:decide ((lo:Int)<(hi:Int))=true:=by simp;omega
   have e2:decide (lo<hi)=true:=by simp;omega
   obtain ⟨m,hm⟩:∃m:Nat,(lo+hi) / 2=m:=⟨_,rfl⟩;obtain ⟨b,o,c,hve,h0,h1⟩:=HC.out m (by omega)
   cases hve;have lb:=World.block_lt_of_cell? _ _ h0;have c0:=(HB.out.cell (p:=⟨b,o+m*2,none⟩) lb).trans h0;have c1:=(HB.out.cell (p:=⟨b,o+m*2+1,none⟩) lb).trans h1;have lbr:b<wr.heap.size:=Nat.lt_of_lt_of_le lb HB.out.size;have hmm:((lo:Int)+(hi:Int)) / 2=(m:Int):=by omega
   obtain ⟨cv,hcv⟩:∃cv,cmpP (T m) (tt,tv)=cv:=⟨_,rfl⟩;have hneg:=cmpP_neg (T m) (tt,tv);rw [hcv] at hneg;have HNEG:=Bas.hid hneg;obtain ⟨p0,hp0⟩:∃p0,(T m).1=p0:=⟨_,rfl⟩;obtain ⟨p1,hp1⟩:∃p1,(T m).2=p1:=⟨_,rfl⟩;rw [hp0] at c0;rw [hp1] at c1;have hTm:T m=(p0,p1):=Prod.ext hp0 hp1;have HCMP:=Bas.hid (fun w'=>(show cmpP (p0,p1) (tt,tv)=cv by rw [←hTm];exact hcv)▸compare_b p0 p1 tt tv w')
   clear h0 h1 hneg hcv hp0 hp1 hTm;go_wp2_with (fail);refine' Pl.region_v0 49 [] [0,1,2,3,4,5,6,7] [] _ (by kernel_rfl) (by kernel_rfl) (by simp) (fun _ _ _ _ e h=>⟨e▸h.1,h.2⟩) ?_ ?_
   rotate_left
   ·intro I F hI hF;simp only [Pl.selN,List.nil_append,List.drop_succ_cons,List.drop_zero];have x0:=fun q=>hF.cell lbr c0 q
    have x1:=fun q=>hF.cell lbr c1 q
    have y0:=fun q=>hF.cell l5 d0 q
    have y1:=fun q=>hF.cell l5 d1 q
    repeat (go_big_quiet_step ((go_at_call 115;with_reducible exact hF.call (HCMP.out _))))
    refine wpQuiet_nil ?_;rfl
   intro u hu;simp only [Pl.selN];have HB2:=Bas.hid (HB.out.trans (hu.mono HB.out.size));have k6:=(hu.block _ l5).trans k5;clear hu c0 c1 d0 d1 HB k5 HCMP;by_cases hl:cv<0
   ·have f1:decide (cv<0)=true:=by simpa using hl
    rw [f1];have hlm:=HNEG.out.1 hl;have HA2:Hid (∀j,j<m+1→ltP (T j) (tt,tv)=true):=fun j hj=>by
     by_cases hjm:j=m
     ·subst hjm;exact hlm
     ·exact ltP_trans (HR.out j m (by omega) (by omega)) hlm
    clear hl hlm;go_wp2_with (fail);go_roundw
    case rel=>exact ⟨m+1,hi,by omega,hhn,by go_num,rfl,HA2.out,HBB.out,HB2.out,k6⟩
    case measure=>simp [intOf];omega
   ·have f1:decide (cv<0)=false:=by simpa using hl
    rw [f1];have hlm:ltP (T m) (tt,tv)=false:=by
     cases h:ltP (T m) (tt,tv) with
     |false=>rfl
     |true=>exact absurd (HNEG.out.2 h) hl
    have HB3:Hid (∀j,m≤j→j<n→ltP (T j) (tt,tv)=false):=fun j h1 h2=>by
     cases h:ltP (T j) (tt,tv) with
     |false=>rfl
     |true=>
      by_cases hjm:m=j
      ·subst hjm;rw [h] at hlm;cases hlm
      ·have:=ltP_trans (HR.out m j (by omega) h2) h
       rw [this] at hlm;cases hlm
    clear hl hlm;go_wp2_with (fail);go_roundw
    case rel=>exact ⟨lo,m,by omega,by omega,rfl,by go_num,HA.out,HB3.out,HB2.out,k6⟩
    case measure=>simp [intOf];omega
  ·have hlh2:lo=hi:=by omega
   subst hlh2;clear hlt;by_cases hkn:lo<n
   ·have e1:decide ((lo:Int)<(n:Int))=true:=by simp;omega
    have e2:decide (lo<n)=true:=by simp;omega
    obtain ⟨b,o,c,hve,h0,h1⟩:=HC.out lo hkn;cases hve;have lb:=World.block_lt_of_cell? _ _ h0;have c0:=(HB.out.cell (p:=⟨b,o+lo*2,none⟩) lb).trans h0;have c1:=(HB.out.cell (p:=⟨b,o+lo*2+1,none⟩) lb).trans h1;have lbr:b<wr.heap.size:=Nat.lt_of_lt_of_le lb HB.out.size;obtain ⟨cv,hcv⟩:∃cv,cmpP (T lo) (tt,tv)=cv:=⟨_,rfl⟩;have HCV:=Bas.hid hcv;obtain ⟨p0,hp0⟩:∃p0,(T lo).1=p0:=⟨_,rfl⟩;obtain ⟨p1,hp1⟩:∃p1,(T lo).2=p1:=⟨_,rfl⟩;rw [hp0] at c0;rw [hp1] at c1;have hTm:T lo=(p0,p1):=Prod.ext hp0 hp1;have HCMP:=Bas.hid (fun w'=>(show cmpP (p0,p1) (tt,tv)=cv by rw [←hTm];exact hcv)▸compare_b p0 p1 tt tv w')
    clear h0 h1 hcv hp0 hp1 hTm;go_wp2_with (fail);refine' Pl.region_v0 49 [] [0,1,2,3,4,5,6,7,8,9,10,11,12,13,14] [15] _ (by kernel_rfl) (by kernel_rfl) (by simp) (fun _ _ _ _ e h=>⟨e▸h.1,h.2⟩) ?_ ?_
    rotate_left
    ·intro I F hI hF;simp only [Pl.selN,List.nil_append,List.drop_succ_cons,List.drop_zero];have x0:=fun q=>hF.cell lbr c0 q
     have x1:=fun q=>hF.cell lbr c1 q
     have y0:=fun q=>hF.cell l5 d0 q
     have y1:=fun q=>hF.cell l5 d1 q
     repeat (go_big_quiet_step ((go_at_call 115;with_reducible exact hF.call (HCMP.out _))))
     refine wpQuiet_nil ?_;rfl
    intro u hu;simp only [Pl.selN,List.drop_succ_cons,List.drop_zero];have HB2:=Bas.hid (HB.out.trans (hu.mono HB.out.size));have E2:=Bas.hid e2;clear hu c0 c1 d0 d1 HB k5 HCMP e1 e2;go_wp2_with (fail);refine bodyPost_ret (v:=.tuple #[.int .i64 (lo:Nat),.bool (cv==0)]) (by simp [results,Tryz.results251,go_sem]) rfl ⟨lo,hhn,HA.out,HBB.out, ?_,HB2.out⟩
    rw [E2.out,HCV.out];rfl
   ·have e1:decide ((lo:Int)<(n:Int))=false:=by simp;omega
    have e2:decide (lo<n)=false:=by simp;omega
    have E2:=Bas.hid e2;go_wp2_with (fail);refine' Pl.region_v0 49 [] [0,1,2,3,4,5,6,7,8,9,10,11,12,13,14] [15] _ (by kernel_rfl) (by kernel_rfl) (by simp) (fun _ _ _ _ e h=>⟨e▸h.1,h.2⟩) ?_ ?_
    rotate_left
    ·intro I F hI hF;simp only [Pl.selN,List.nil_append,List.drop_succ_cons,List.drop_zero];repeat (go_big_quiet_step (fail))
     refine wpQuiet_nil ?_;rfl
    intro u hu;simp only [Pl.selN,List.drop_succ_cons,List.drop_zero];have HB2:=Bas.hid (HB.out.trans (hu.mono HB.out.size));clear hu;go_wp2_with (fail);refine bodyPost_ret (v:=.tuple #[.int .i64 (lo:Nat),.bool false]) (by simp [results,Tryz.results251,go_sem]) rfl ⟨lo,hhn,HA.out,HBB.out, ?_,HB2.out⟩
    rw [E2.out];rfl
theorem bs_mem{xs:List (Int×Int)}(hs:xs.Pairwise (fun x y=>ltP x y=true))(s:Int×Int)(k:Nat)(h1:∀j,j<k→ltP (xs.getD j (0,0)) s=true)(h2:∀j,k≤j→j<xs.length→ltP (xs.getD j (0,0)) s=false):
  (decide (k<xs.length)&&(cmpP (xs.getD k (0,0)) s==0))=decide (s∈xs):=by
 have hg:∀j,(hj:j<xs.length)→xs.getD j (0,0)=xs[j]:=fun j hj=>by rw [List.getD_eq_getElem?_getD,List.getElem?_eq_getElem hj];rfl
 have irr:ltP s s=false:=by simp [ltP]
 rw [Bool.eq_iff_iff,Bool.and_eq_true,decide_eq_true_iff,decide_eq_true_iff,beq_iff_eq,cmpP_zero];constructor
 ·rintro ⟨hk,e⟩;rw [hg k hk] at e;rw [←e];exact List.getElem_mem hk
 ·intro hm;obtain ⟨j,hj,e⟩:=List.mem_iff_getElem.1 hm;have e':=hg j hj;rw [e] at e';by_cases hjk:j<k
  ·have:=h1 j hjk;rw [e',irr] at this;cases this
  ·by_cases hkj:k=j
   ·subst hkj;exact ⟨hj,e'⟩
   ·have h3:=h2 k (Nat.le_refl _) (by omega)
    have h4:=List.pairwise_iff_getElem.1 hs k j (by omega) hj (by omega)
    rw [hg k (by omega)] at h3
    rw [e] at h4;rw [h3] at h4;cases h4
theorem on_any(v:Value)(xs:List (Int×Int))(t u:Int)(w:World)(hl:Row.Leads w v xs.length (xs.flatMap setC))(hs:xs.Pairwise (fun x y=>ltP x y=true))(hn:xs.length≤100000):
  Calls Tryz.prog 225 #[v,.agg #[.int .i64 t,.int .i64 u]] w fun e w'=>e=.returned (.bool (decide ((t,u)∈xs)))∧Below w.heap.size w w':=by
 have HB0:=Bas.hid ((Below.refl w.heap.size w).alloc (Nat.le_refl _) (.cells #[.int .i64 t,.int .i64 u] 325));have HBS:Hid (∀w',Below w.heap.size w w'→Calls Tryz.prog 251 #[v,.agg #[.int .i64 t,.int .i64 u],.func (.func 115) #[] #[]] w' fun e w''=>∃k:Nat,e=.returned (.tuple #[.int .i64 (k:Nat),.bool (decide ((t,u)∈xs))])∧Below w'.heap.size w' w''):=fun w' hb=>by
  refine (bs_any v xs.length (fun j=>xs.getD j (0,0)) t u w' hn ?_ (fun j hj=> ?_) (fun i j hij hj=> ?_)).mono fun e w'' ⟨k,_,h1,h2,he,hb2⟩=>⟨k,by rw [he,bs_mem hs (t,u) k h1 h2],hb2⟩
  ·exact Row.leads_slice hl
  ·have hx:xs[j]? =some (xs.getD j (0,0)):=by rw [List.getD_eq_getElem?_getD,List.getElem?_eq_getElem hj];rfl
   obtain ⟨b,o,c,hv,hcl⟩:=Row.leads_elem setC_len hl hx (by omega)
   have h0:=hcl 0 _ rfl;have h1:=hcl 1 _ rfl;exact ⟨b,o,c,hv,(hb.cell (p:=⟨b,o+j*2,none⟩) (World.block_lt_of_cell? _ _ h0)).trans h0,(hb.cell (p:=⟨b,o+j*2+1,none⟩) (World.block_lt_of_cell? _ _ h1)).trans h1⟩
  ·have:=List.pairwise_iff_getElem.1 hs i j (by omega) hj hij
   rw [List.getD_eq_getElem?_getD,List.getElem?_eq_getElem (by omega),List.getD_eq_getElem?_getD,List.getElem?_eq_getElem hj]
   exact this
 obtain ⟨a,c,rfl⟩:=Row.leads_slice hl;generalize decide ((t,u)∈xs)=b at*;clear hl hs;go_enter Tryz.func225,Tryz.ntmps225
 go_wp2_with (fail);refine (HBS.out _ HB0.out).mono ?_;rintro e w2 ⟨k,rfl,hb2⟩;have HB2:=Bas.hid (HB0.out.trans (hb2.mono HB0.out.size));clear hb2 HBS HB0;go_wp2_with (fail);go_ret;exact ⟨rfl,HB2.out⟩
structure RuleD where
 ty:Int
 val:Int
 en:Int
 dis:Int
def ruC(r:RuleD):List Value:=[.int .i64 r.ty,.int .i64 r.val,.int .u32 r.en,.int .u32 r.dis]
theorem ruC_len(r:RuleD):(ruC r).length=4:=rfl
def stepF(f:Int)(r:RuleD):Int:=bits .or .u32 (bits .and .u32 f r.dis) r.en
def flagsL(on:Int×Int→Bool)(f:Int)(rules:List RuleD):Int:=rules.foldl (fun f r=>if on (r.ty,r.val) then stepF f r else f) f
theorem flagsL_snoc(on:Int×Int→Bool)(f:Int)(rules:List RuleD)(r:RuleD):flagsL on f (rules++[r])=if on (r.ty,r.val) then stepF (flagsL on f rules) r else flagsL on f rules:=by
 unfold flagsL;rw [List.foldl_append];rfl
theorem flags_any(a:Option Addr)(len cap:Nat)(rules:List RuleD)(first:Int)(sv:Value)(xs:List (Int×Int))(w:World)(hl:Row.Leads w (.slice a len cap) len (rules.flatMap ruC))(hn:rules.length=len)(hlen:len≤100000)(hs:Row.Leads w sv xs.length (xs.flatMap setC))(hp:xs.Pairwise (fun x y=>ltP x y=true))(hxn:xs.length≤100000):
  Calls Tryz.prog 176 #[.int .u32 first,.slice a len cap,sv] w fun e w'=>e=.returned (.int .u32 (flagsL (fun s=>decide (s∈xs)) first rules))∧Below w.heap.size w w':=by
 have HL:=Bas.hid hl;have HN:=Bas.hid hn;have HON:=Bas.hid (fun (t u:Int) w' (hb:Below w.heap.size w w')=>on_any sv xs t u w' (Row.leads_below hs hb) hp hxn)
 obtain ⟨sa,sc,rfl⟩:=Row.leads_slice hs;obtain ⟨on,hon⟩:∃on:Int×Int→Bool,(fun s=>decide (s∈xs))=on:=⟨_,rfl⟩
 have hon2:∀s,decide (s∈xs)=on s:=fun s=>congrFun hon s
 simp only [hon2] at HON;rw [hon];obtain ⟨r,hre⟩:∃r,flagsL on first rules=r:=⟨_,rfl⟩;have HRE:=Bas.hid hre;rw [hre];clear hl hn hs hp hon hon2 hre;go_enter Tryz.func176,Tryz.ntmps176
 go_wp2_with (fail);go_loopw [0,11] (fun va vb wr=>∃(i:Nat) (f:Int),i≤len∧va=.int .u32 f∧vb=.int .i64 i∧flagsL on first (rules.take i)=f∧Below w.heap.size w wr) (fun _ vb _=>len - (intOf vb).toNat)
 case atStart=>exact ⟨0,first,Nat.zero_le _,rfl,rfl,rfl,Below.refl _ _⟩
 case round=>
  obtain ⟨i,f,hi,rfl,rfl,hf,hb⟩:=hrel;have HF:=Bas.hid hf;have HB:=Bas.hid hb;clear hf hb;by_cases hin:i<len
  ·have e1:decide ((i:Int)<(len:Int))=true:=by simp;omega
   have e2:decide (i<len)=true:=by simp;omega
   obtain ⟨s,hs⟩:∃s,rules[i]? =some s:=⟨_,List.getElem?_eq_getElem (by rw [HN.out];exact hin)⟩
   have hTK:rules.take (i+1)=rules.take i++[s]:=by rw [List.take_add_one,hs];rfl
   obtain ⟨x,y,en,dis⟩:=s;obtain ⟨B,Of,cp0,hv0,hcl⟩:=Row.leads_elem ruC_len HL.out hs (by omega)
   cases hv0;have h0:=hcl 0 _ rfl;have h1:=hcl 1 _ rfl;have h2:=hcl 2 _ rfl;have h3:=hcl 3 _ rfl;simp only [Nat.add_zero] at h0;have lb:B<w.heap.size:=World.block_lt_of_cell? _ _ h0;have c0:=(HB.out.cell (p:=⟨B,Of+i*4,none⟩) lb).trans h0;have c1:=(HB.out.cell (p:=⟨B,Of+i*4+1,none⟩) lb).trans h1;have c2:=(HB.out.cell (p:=⟨B,Of+i*4+2,none⟩) lb).trans h2;have c3:=(HB.out.cell (p:=⟨B,Of+i*4+3,none⟩) lb).trans h3;have hsn:=flagsL_snoc on first (rules.take i) ⟨x,y,en,dis⟩;rw [←hTK,HF.out] at hsn;simp only [stepF] at hsn;have HOX:=Bas.hid (fun w' hb=>HON.out x y w' hb)
   obtain ⟨ob,hob⟩:∃ob,on (x,y)=ob:=⟨_,rfl⟩;rw [hob] at hsn HOX;clear hs hcl h0 h1 h2 h3 hTK hob;have HSN:=Bas.hid hsn;clear hsn;go_wp2_with (fail);have k8:=Bas.heap_new wr (.cells #[.int .i64 x,.int .i64 y,.int .u32 en,.int .u32 dis] 419);have HB1:=Bas.hid (HB.out.alloc HB.out.size (.cells #[.int .i64 x,.int .i64 y,.int .u32 en,.int .u32 dis] 419));generalize wr.alloc (.cells #[.int .i64 x,.int .i64 y,.int .u32 en,.int .u32 dis] 419)=W1 at*;generalize wr.heap.size=T8 at*;clear c0 c1 c2 c3 HB;refine (HOX.out W1 HB1.out).mono ?_;rintro e w2 ⟨rfl,hb2⟩;have k9:=(hb2.block _ (heap_lt k8)).trans k8;have HB2:=Bas.hid (HB1.out.trans (hb2.mono HB1.out.size));clear hb2 HB1 k8;have q2:=cell_of_heap (i:=2) (v:=.int .u32 en) k9 rfl;have q3:=cell_of_heap (i:=3) (v:=.int .u32 dis) k9 rfl;cases ob with
   |false=>
    simp only [if_false,Bool.false_eq_true] at HSN;go_wp2_with (fail);go_roundw
    case rel=>exact ⟨i+1,f,by omega,rfl,by go_num,HSN.out,HB2.out⟩
    case measure=>simp [intOf];omega
   |true=>
    simp only [if_true] at HSN;go_wp2_with (fail);go_roundw
    case rel=>exact ⟨i+1,_,by omega,rfl,by go_num,HSN.out,HB2.out⟩
    case measure=>simp [intOf];omega
  ·have hin2:i=len:=by omega
   subst hin2;have hlt:rules.take i=rules:=List.take_of_length_le (by rw [HN.out];exact Nat.le_refl _)
   rw [hlt] at HF;clear hlt;go_wp2_with (fail);go_ret;exact ⟨by rw [←HRE.out,HF.out];first|done|rfl,HB.out⟩
end Pk
namespace Mx
open Vw Ch Lk St Ln Dr
def ruOf(r:Ch.RuleD):Pk.RuleD:=⟨r.type,r.value,r.enable,r.disable⟩
theorem rulesC_ru(l:List Ch.RuleD):rulesC l=(l.map ruOf).flatMap Pk.ruC:=by
 unfold rulesC;rw [List.flatMap_map];rfl
def flagsOf(T:List MChain)(xs:List (Int×Int)):List Int:=T.map fun c=>Pk.flagsL (fun s=>decide (s∈xs)) c.first (c.rules.map ruOf)
theorem infoU32:(Tryz.prog.info? 88).map (fun i=>(i.zero,i.size,i.bytes))=some (some (.int .u32 0),1,4):=by kernel_rfl
theorem mflags_any(v sv:Value)(T:List MChain)(xs:List (Int×Int))(w:World)(h:MorxAt w v T)(hr:∀c∈T,c.rules.length≤100000)(hTn:T.length≤100000)(hs:Row.Leads w sv xs.length (xs.flatMap Pk.setC))(hp:xs.Pairwise (fun x y=>Pk.ltP x y=true))(hxn:xs.length≤100000):
  Calls Tryz.prog 116 #[v,sv] w fun e w'=>Below w.heap.size w w'∧∃v',e=.returned v'∧w'.ownsRow w.heap.size 88 1 v' T.length ((flagsOf T xs).map (Value.int .u32)):=by
 obtain ⟨g,vl,rs,rfl,hg,hrl,hvl,hlk⟩:=h;obtain ⟨al,cl,rfl⟩:=Row.leads_slice hvl;obtain ⟨as',cs,rfl⟩:=Row.leads_slice hs;obtain ⟨n,hn⟩:∃n,T.length=n:=⟨_,rfl⟩;have HN:=Bas.hid hn;rw [hn] at hg hvl hTn ⊢;have HVL:=Bas.hid hvl;have HLK:=Bas.hid hlk;have HS:=Bas.hid hs;have HRL:=Bas.hid (hrl.trans hn);have g0:=cell_of_heap (i:=0) hg rfl;have lg:=heap_lt hg;obtain ⟨sn,hsn⟩:∃sn,xs.length=sn:=⟨_,rfl⟩;have HSN:=Bas.hid hsn;rw [hsn] at hxn ⊢;clear hg hvl hlk hs hrl hn hsn;go_enter Tryz.func116,Tryz.ntmps116
 go_wp2_with (fail);go_loopw [5,13] (fun v5 vi wr=>∃i:Nat,i≤n∧vi=.int .i64 i∧Below w.heap.size w wr∧wr.ownsRow w.heap.size 88 1 v5 i (((flagsOf T xs).take i).map (Value.int .u32))) (fun _ vi _=>n - (intOf vi).toNat)
 case atStart=>exact ⟨0,Nat.zero_le _,rfl,Below.refl _ _,Row.owned_nil _ _ _ _⟩
 case round=>
  obtain ⟨i,hi,rfl,hb,ho⟩:=hrel;have HB:=Bas.hid hb;have HO:=Bas.hid ho;obtain ⟨a5,c5,rfl⟩:=own_slice ho;by_cases hin:i<n
  ·have e1:decide ((i:Int)<(n:Int))=true:=by simp;omega
   have e2:decide (i<n)=true:=by simp;omega
   obtain ⟨⟨first,rules,subs⟩,hc⟩:∃c,T[i]? =some c:=⟨_,List.getElem?_eq_getElem (by rw [HN.out];exact hin)⟩
   obtain ⟨⟨vr,vs⟩,hri⟩:∃r,rs[i]? =some r:=⟨_,List.getElem?_eq_getElem (by rw [HRL.out];exact hin)⟩
   obtain ⟨b,o,cp,hv,hcl⟩:=Row.leads_elem (x:=((⟨first,rules,subs⟩:MChain),(vr,vs))) linkC_len (Row.leads_below HVL.out hb) (List.getElem?_zip_eq_some.2 ⟨hc,hri⟩) (by omega)
   cases hv;have d0:=hcl 0 _ rfl;have d1:=hcl 1 _ rfl;have d2:=hcl 2 _ rfl;simp only [Nat.add_zero] at d0 d1 d2;have lb:=World.block_lt_of_cell? _ _ d0;obtain ⟨hrul,fvs,_,hsub,_⟩:=HLK.out i _ _ hc hri;simp only at hrul hsub;obtain ⟨ar,cr,rfl⟩:=Row.leads_slice hrul;obtain ⟨ab,cb,rfl⟩:=Row.leads_slice hsub;have hrb:=hr _ (List.mem_of_getElem? hc);simp only at hrb;have HRU:=Bas.hid hrul;obtain ⟨rl,hrl⟩:∃rl,rules.length=rl:=⟨_,rfl⟩;have HRN:=Bas.hid hrl;obtain ⟨sl,hsl⟩:∃sl,subs.length=sl:=⟨_,rfl⟩;rw [hrl] at d1 hrb;rw [hsl] at d2;have HFX:Hid ((flagsOf T xs).take (i+1)=(flagsOf T xs).take i++[Pk.flagsL (fun s=>decide (s∈xs)) first (rules.map ruOf)]):=by
    unfold Hid flagsOf;rw [List.take_add_one,List.getElem?_map,hc];rfl
   have hFL:∀w',Below wr.heap.size wr w'→Calls Tryz.prog 176 #[.int .u32 first,.slice ar rl cr,.slice as' sn cs] w' fun e w''=>e=.returned (.int .u32 (Pk.flagsL (fun s=>decide (s∈xs)) first (rules.map ruOf)))∧Below w'.heap.size w' w'':=fun w' hw=>by
    have h1:=Row.leads_below (Row.leads_below HRU.out HB.out) (hw.mono (Nat.le_refl _));have h2:=Row.leads_below (Row.leads_below HS.out HB.out) (hw.mono (Nat.le_refl _));rw [rulesC_ru,hrl] at h1;have hq:=Pk.flags_any ar rl cr (rules.map ruOf) first (.slice as' xs.length cs) xs w' h1 (by rw [List.length_map];exact hrl) hrb h2 hp (by rw [HSN.out];exact hxn)
    rw [HSN.out] at hq;exact hq
   have HFLC:=Bas.hid hFL;generalize Pk.flagsL (fun s=>decide (s∈xs)) first (rules.map ruOf)=F at*
   have k7:=Bas.heap_new wr (.cells #[.int .u32 first,.slice ar rl cr,.slice ab sl cb] 291);have hb7:=(Below.refl wr.heap.size wr).alloc (Nat.le_refl _) (.cells #[.int .u32 first,.slice ar rl cr,.slice ab sl cb] 291);have HB7:=Bas.hid hb7;have q0:=cell_of_heap (i:=0) k7 rfl;have q1:=cell_of_heap (i:=1) k7 rfl;have l7:=heap_lt k7;clear hb ho hc hri hcl hrul hsub hrl hsl hFL hb7 k7;go_wp2_with (fail);generalize (wr.alloc (.cells #[.int .u32 first,.slice ar rl cr,.slice ab sl cb] 291))=W7 at*;refine (HFLC.out W7 HB7.out).mono ?_;rintro e w8 ⟨rfl,hb8⟩;have HB8:=Bas.hid (HB7.out.trans (hb8.mono HB7.out.size));clear hb8 q0 q1 l7 d0 d1 d2 lb;go_wp2_with (at_builtin;refine Row.fence ?_);refine Row.unfence ?_;have HLD:=Bas.hid (Row.leads_one w8 (.int .u32 F) 88);have hb9:=(Below.refl w8.heap.size w8).alloc (Nat.le_refl _) (.cells #[.int .u32 F] 88);have HB9:=Bas.hid (HB8.out.trans (hb9.mono HB8.out.size));have HO9:=Bas.hid (Row.owned_below HO.out HB9.out);have HW9:=Bas.hid (HB.out.trans (HB9.out.mono HB.out.size));clear hb9;generalize (w8.alloc (.cells #[.int .u32 F] 88))=W9 at*;refine Row.append_any rfl _ _ 330 88 rfl (.int .u32 0) 1 4 Tryz.underlying330 infoU32 rfl (by decide) w.heap.size _ i _ rfl HO9.out (.slice (some ⟨w8.heap.size,0,none⟩) 1 1) 1 [.int .u32 F] rfl HLD.out rfl (by simp;rfl) (by unfold maxLen;omega) (by omega) HW9.out.size ?_
   intro v10 w10 ho10 hg10 _;have HO10:Hid (w10.ownsRow w.heap.size 88 1 v10 (i+1) (((flagsOf T xs).take (i+1)).map (Value.int .u32))):=by
    unfold Hid;rw [HFX.out,List.map_append];exact ho10
   have HB10:=Bas.hid (HW9.out.grown hg10 HW9.out.size (fun k hk=>(Row.own_block HO9.out hk).1))
   clear ho10 hg10;go_wp2_with (fail);go_roundw
   case rel=>exact ⟨i+1,by omega,by go_num,HB10.out,HO10.out⟩
   case measure=>simp [intOf];omega
  ·have e1:decide ((i:Int)<(n:Int))=false:=by simp;omega
   have e2:decide (i<n)=false:=by simp;omega
   have e3:¬(i:Int)<(n:Int):=by omega
   have HF:Hid (wr.ownsRow w.heap.size 88 1 (.slice a5 i c5) n ((flagsOf T xs).map (Value.int .u32))):=by
    have hin2:i=n:=by omega
    unfold Hid;rw [List.take_of_length_le (by unfold flagsOf;rw [List.length_map,HN.out];omega)] at ho
    rw [←hin2];exact ho
   clear hb ho;go_wp2_with (fail);go_ret;exact ⟨HB.out,_,rfl,HF.out⟩
theorem subrun_plain(cover flags:Int)(fv:Value)(gv:Value)(d left nput err:Int)(Q:World→Prop)(w:World)(ht:Cov.turnedM (Cov.bitB cover 30) (Cov.bitB cover 28) d=false)
  (fn:Nat) (fa fb:Array Value) (hfv:fv=.func (.func fn) fa fb) (hcf:∀args w,(callFunc fn args).run Tryz.prog w=.ok (.enter fn args) w)
  (hrun:∀w',Below w.heap.size w w'→Calls Tryz.prog fn (fa++(#[gv,.int .i64 left]++fb)) w' fun e w''=>e=.returned (.tuple #[.int .i64 nput,.int .i64 err])∧Q w''):
  Calls Tryz.prog 118 #[.agg #[.int .i64 (cover%256),.bool (Cov.bitB cover 31),.bool (Cov.bitB cover 30),.bool (Cov.bitB cover 29),.bool (Cov.bitB cover 28),.int .u32 flags,fv],gv,.int .i64 d,.int .i64 left] w fun e w'=>e=.returned (.tuple #[.int .i64 nput,.int .i64 err])∧Q w':=by
 subst hfv;have HR:=Bas.hid hrun;have hb1:=(Below.refl w.heap.size w).alloc (Nat.le_refl _) (.cells #[.int .i64 (cover%256),.bool (Cov.bitB cover 31),.bool (Cov.bitB cover 30),.bool (Cov.bitB cover 29),.bool (Cov.bitB cover 28),.int .u32 flags,.func (.func fn) fa fb] 303);have k1:=Bas.heap_new w (.cells #[.int .i64 (cover%256),.bool (Cov.bitB cover 31),.bool (Cov.bitB cover 30),.bool (Cov.bitB cover 29),.bool (Cov.bitB cover 28),.int .u32 flags,.func (.func fn) fa fb] 303);have HB1:=Bas.hid hb1;have HK1:=Bas.hid k1;have q0:=cell_of_heap (i:=0) k1 rfl;have q1:=cell_of_heap (i:=1) k1 rfl;have q2:=cell_of_heap (i:=2) k1 rfl;have q3:=cell_of_heap (i:=3) k1 rfl;have q4:=cell_of_heap (i:=4) k1 rfl;have lk:=heap_lt k1;have HT:=Bas.hid (fun w=>Cov.mturned_any (cover%256) (Cov.bitB cover 31) (Cov.bitB cover 30) (Cov.bitB cover 29) (Cov.bitB cover 28) d w)
 rw [ht] at HT;clear hb1 k1 hrun ht;go_enter Tryz.func118,Tryz.ntmps118
 go_wp2_with (fail);generalize (w.alloc (.cells #[.int .i64 (cover%256),.bool (Cov.bitB cover 31),.bool (Cov.bitB cover 30),.bool (Cov.bitB cover 29),.bool (Cov.bitB cover 28),.int .u32 flags,.func (.func fn) fa fb] 303))=W1 at*;refine (HT.out W1).mono ?_;rintro e w2 ⟨rfl,hb2⟩;have k2:=(hb2.block _ (heap_lt HK1.out)).trans HK1.out;have HB2:=Bas.hid (HB1.out.trans (hb2.mono HB1.out.size));have c6:=cell_of_heap (i:=6) k2 rfl;have l2:=heap_lt k2;clear hb2 k2 q0 q1 q2 q3 q4 lk HT;go_wp2_with (fail);refine (HR.out _ HB2.out).mono ?_;rintro e w3 ⟨rfl,hq⟩;have HQ:=Bas.hid hq;clear hq;go_wp2_with (fail)
 go_ret2
 exact ⟨rfl,HQ.out⟩
theorem turnD_any(base g:Nat)(sv:Value)(xs:List Gl)(w:World)(h:LineAt w base g sv xs)(hn:xs.length≤4294967296):
  CallsD Tryz.prog 179 #[.pointer (some ⟨g,0,none⟩)] .returning w fun e u w'=>u=.returning∧e=.returned (.tuple #[])∧LnTo w base g sv xs.reverse w':=by
 have HC:=Bas.hid (reverse_any base sv xs xs.length w h.own rfl hn);have HH:=Bas.hid h;obtain ⟨ad,cp,rfl⟩:=own_slice h.own;have g0:=cell_of_heap (i:=0) (v:=.slice ad xs.length cp) h.head rfl;have lg:=h.lt;clear h;refine callsD_of_wp (R:=fun e w'=>e=.returned (.tuple #[])∧LnTo w base g _ xs.reverse w') Tryz.func179 rfl ?_
 simp only [Tryz.ntmps179];go_wp2_with (fail);refine HC.out.mono ?_;rintro e w2 ⟨rfl,ho,hg⟩;have HR:=Bas.hid (lnTo_same HH.out (by rw [List.length_reverse];exact ho) hg)
 clear ho hg HC;go_wp2_with (fail)
 go_end0
 exact ⟨rfl,HR.out⟩
theorem subrun_turned(cover flags:Int)(fv:Value)(gv:Value)(d left nput err:Int)(ys:List Gl)(w:World)(ht:Cov.turnedM (Cov.bitB cover 30) (Cov.bitB cover 28) d=true)(base g:Nat)(sv:Value)(xs:List Gl)(hL:LineAt w base g sv xs)(hg:gv=.pointer (some ⟨g,0,none⟩))(hlen:xs.length≤1000000)(hylen:ys.length≤4294967296)
  (fn:Nat) (fa fb:Array Value) (hfv:fv=.func (.func fn) fa fb) (hcf:∀args w,(callFunc fn args).run Tryz.prog w=.ok (.enter fn args) w)
  (hrun:∀w',LnTo w base g sv xs.reverse w'→Calls Tryz.prog fn (fa++(#[gv,.int .i64 left]++fb)) w' fun e w''=>e=.returned (.tuple #[.int .i64 nput,.int .i64 err])∧LnTo w base g sv ys w''):
  Calls Tryz.prog 118 #[.agg #[.int .i64 (cover%256),.bool (Cov.bitB cover 31),.bool (Cov.bitB cover 30),.bool (Cov.bitB cover 29),.bool (Cov.bitB cover 28),.int .u32 flags,fv],gv,.int .i64 d,.int .i64 left] w fun e w'=>e=.returned (.tuple #[.int .i64 nput,.int .i64 err])∧LnTo w base g sv ys.reverse w':=by
 subst hfv hg;have HLL:=Bas.hid hL;have HR:=Bas.hid hrun;have hb1:=(Below.refl w.heap.size w).alloc (Nat.le_refl _) (.cells #[.int .i64 (cover%256),.bool (Cov.bitB cover 31),.bool (Cov.bitB cover 30),.bool (Cov.bitB cover 29),.bool (Cov.bitB cover 28),.int .u32 flags,.func (.func fn) fa fb] 303);have k1:=Bas.heap_new w (.cells #[.int .i64 (cover%256),.bool (Cov.bitB cover 31),.bool (Cov.bitB cover 30),.bool (Cov.bitB cover 29),.bool (Cov.bitB cover 28),.int .u32 flags,.func (.func fn) fa fb] 303);have HB1:=Bas.hid hb1;have HK1:=Bas.hid k1;have q0:=cell_of_heap (i:=0) k1 rfl;have q1:=cell_of_heap (i:=1) k1 rfl;have q2:=cell_of_heap (i:=2) k1 rfl;have q3:=cell_of_heap (i:=3) k1 rfl;have q4:=cell_of_heap (i:=4) k1 rfl;have lk:=heap_lt k1;have HT:=Bas.hid (fun w=>Cov.mturned_any (cover%256) (Cov.bitB cover 31) (Cov.bitB cover 30) (Cov.bitB cover 29) (Cov.bitB cover 28) d w)
 rw [ht] at HT;clear hb1 k1 hrun ht
 go_enter_defers Tryz.func118,Tryz.ntmps118
 go_wp2_with (fail);generalize (w.alloc (.cells #[.int .i64 (cover%256),.bool (Cov.bitB cover 31),.bool (Cov.bitB cover 30),.bool (Cov.bitB cover 29),.bool (Cov.bitB cover 28),.int .u32 flags,.func (.func fn) fa fb] 303))=W1 at*;refine (HT.out W1).mono ?_;rintro e w2 ⟨rfl,hb2⟩;have k2:=(hb2.block _ (heap_lt HK1.out)).trans HK1.out;have HB2:=Bas.hid (HB1.out.trans (hb2.mono HB1.out.size));have c6:=cell_of_heap (i:=6) k2 rfl;have l2:=heap_lt k2;have HK2:=Bas.hid k2;clear hb2 k2 q0 q1 q2 q3 q4 lk HT c6 l2;go_wp2_with (fail);refine (turn_any base g sv xs w2 (HLL.out.below HB2.out) (by omega)).mono ?_
 rintro e w3 ⟨rfl,hto⟩;have HTW:=Bas.hid (LnTo.behind HB2.out hto);have k3:w3.heap[w.heap.size]? =some (.cells #[.int .i64 (cover%256),.bool (Cov.bitB cover 31),.bool (Cov.bitB cover 30),.bool (Cov.bitB cover 29),.bool (Cov.bitB cover 28),.int .u32 flags,.func (.func fn) fa fb] 303 (0,0)):=by
  obtain ⟨_,_,hm,_⟩:=hto;exact hm.heap HK2.out (fun hk=>by have:=(HLL.out.blk_low _ hk).2;omega)
 have c6:=cell_of_heap (i:=6) k3 rfl;have l3:=heap_lt k3;clear hto k3;go_wp2_with (fail);refine (HR.out _ HTW.out).mono ?_;rintro e w4 ⟨rfl,hq⟩;have HQ:=Bas.hid hq;clear hq;go_wp2_with (fail);refine leaves_cons (f:=179) (args:=#[.pointer (some ⟨g,0,none⟩)]) (by simp) (by simp [go_sem]) ?_
 obtain ⟨sv4,hl4,hm4,ho4⟩:=id HQ.out;refine (turnD_any base g sv4 ys w4 hl4 hylen).mono ?_;rintro e u' w5 ⟨rfl,rfl,hto⟩;exact ⟨.tuple #[.int .i64 nput,.int .i64 err],by simp [results,Tryz.results118,go_sem],rfl,LnTo.step HLL.out.lt hm4 ho4 hto⟩
abbrev WkF:=WkD→Int→List Gl→List Gl×(Int×Int)
def asks(fl d:Int)(s:MSub):Bool:= !(bits .and .u32 fl s.flags==0)&&Cov.runsM (Cov.bitB s.cover 31) (Cov.bitB s.cover 29) d
def turnedOf(d:Int)(s:MSub):Bool:=Cov.turnedM (Cov.bitB s.cover 30) (Cov.bitB s.cover 28) d
def runSub(F:WkF)(d:Int)(s:MSub)(left:Int)(xs:List Gl):List Gl×(Int×Int):=
 match turnedOf d s with
 |true=>((F s.wk left xs.reverse).1.reverse,(F s.wk left xs.reverse).2)
 |false=>F s.wk left xs
def subsRun(F:WkF)(fl d:Int):List MSub→Nat→List Gl→Int→List Gl×Int×Option (Int×Nat)
 |[],_,xs,left=>(xs,left,none)
 |s::l,k,xs,left=>
  match asks fl d s with
  |false=>subsRun F fl d l (k+1) xs left
  |true=>
   if (runSub F d s left xs).2.2=0 then subsRun F fl d l (k+1) (runSub F d s left xs).1 (wrap64 (left - (runSub F d s left xs).2.1))
   else ((runSub F d s left xs).1,wrap64 (left - (runSub F d s left xs).2.1),some ((runSub F d s left xs).2.2,k))
def chainsRun(F:WkF)(d:Int):List (MChain×Int)→Nat→List Gl→Int→List Gl×Option (Int×Nat×Nat)
 |[],_,xs,_=>(cleanL xs,none)
 |(c,fl)::l,i,xs,left=>
  match subsRun F fl d c.subs 0 xs left with
  |(ys,left',none)=>chainsRun F d l (i+1) ys left'
  |(ys,_,some (e,k))=>(ys,some (e,i,k))
def faultV:Option (Int×Nat×Nat)→Value
 |none=>.agg #[.int .i64 0,.int .i64 0,.int .i64 0]
 |some (e,i,k)=>.agg #[.int .i64 e,.int .i64 i,.int .i64 k]
def WkDoes(F:WkF)(Pre:List Gl→Int→Prop)(k:WkD):Prop:=
 ∀W0 fv,WorkAt W0 fv k→∃(fn:Nat) (fa fb:Array Value),fv=.func (.func fn) fa fb∧(∀args w,(callFunc fn args).run Tryz.prog w=.ok (.enter fn args) w)∧
  ∀base g sv xs w left,Below W0.heap.size W0 w→W0.heap.size≤base→LineAt w base g sv xs→Pre xs left→
   Calls Tryz.prog fn (fa++(#[.pointer (some ⟨g,0,none⟩),.int .i64 left]++fb)) w fun e w'=>e=.returned (.tuple #[.int .i64 (F k left xs).2.1,.int .i64 (F k left xs).2.2])∧LnTo w base g sv (F k left xs).1 w'
theorem drop_cons{α:Type}{l:List α}{i:Nat}{x:α}(h:l[i]? =some x):l.drop i=x::l.drop (i+1):=by
 obtain ⟨hi,he⟩:=List.getElem?_eq_some_iff.1 h;rw [List.drop_eq_getElem_cons hi,he]
theorem subrun_any(F:WkF)(Pre:List Gl→Int→Prop)(hPn:∀xs left,Pre xs left→xs.length≤1000000)(s:MSub)(d:Int)(fv:Value)(left:Int)(base g:Nat)(sv:Value)(xs:List Gl)(W0 w:World)(hk:WkDoes F Pre s.wk)(hw:WorkAt W0 fv s.wk)
  (hb0:Below W0.heap.size W0 w) (hbase:W0.heap.size≤base) (hL:LineAt w base g sv xs) (hx:Pre xs left) (hr:Pre xs.reverse left) (hy:(runSub F d s left xs).1.length≤4294967296):
  Calls Tryz.prog 118 #[.agg #[.int .i64 (s.cover%256),.bool (Cov.bitB s.cover 31),.bool (Cov.bitB s.cover 30),.bool (Cov.bitB s.cover 29),.bool (Cov.bitB s.cover 28),.int .u32 s.flags,fv],.pointer (some ⟨g,0,none⟩),.int .i64 d,.int .i64 left] w
   fun e w'=>e=.returned (.tuple #[.int .i64 (runSub F d s left xs).2.1,.int .i64 (runSub F d s left xs).2.2])∧LnTo w base g sv (runSub F d s left xs).1 w':=by
 obtain ⟨fn,fa,fb,rfl,hcf,hrun⟩:=hk W0 fv hw;cases ht:turnedOf d s with
 |false=>
  have hR:runSub F d s left xs=F s.wk left xs:=by unfold runSub;rw [ht]
  rw [hR];refine subrun_plain s.cover s.flags _ _ d left _ _ (fun w'=>LnTo w base g sv (F s.wk left xs).1 w') w ht fn fa fb rfl hcf fun w' hb=> ?_
  refine (hrun base g sv xs w' left (hb0.trans (hb.mono hb0.size)) hbase (hL.below hb) hx).mono ?_;rintro e w2 ⟨rfl,h2⟩;exact ⟨rfl,LnTo.behind hb h2⟩
 |true=>
  have hR:runSub F d s left xs=((F s.wk left xs.reverse).1.reverse,(F s.wk left xs.reverse).2):=by unfold runSub;rw [ht]
  rw [hR] at hy ⊢;refine subrun_turned s.cover s.flags _ _ d left _ _ (F s.wk left xs.reverse).1 w ht base g sv xs hL rfl (hPn _ _ hx) (by simpa using hy) fn fa fb rfl hcf fun w' hto=> ?_
  obtain ⟨sv2,h1,h2,h3⟩:=hto;have hlow:=hL.low;refine (hrun base g sv2 xs.reverse w' left (h2.below hb0 (fun i hi=> ?_) hb0.size) hbase h1 hr).mono ?_
  ·rcases hi with rfl|hi
   ·exact Nat.le_trans hbase (hL.blk_low _ (.inl rfl)).1
   ·exact Nat.le_trans hbase (hL.blk_low _ (.inr hi)).1
  rintro e w3 ⟨rfl,h4⟩;exact ⟨rfl,LnTo.step hL.lt h2 h3 h4⟩
def RunOk(F:WkF)(Pre:List Gl→Int→Prop)(d:Int)(T:List MChain)(fls:List Int):Prop:=
 ∀(i:Nat) (c:MChain) (fl:Int),T[i]? =some c→fls[i]? =some fl→∀s∈c.subs,asks fl d s=true→
  WkDoes F Pre s.wk∧∀xs left,Pre xs left→Pre xs.reverse left∧(runSub F d s left xs).1.length≤4294967296∧Pre (runSub F d s left xs).1 (wrap64 (left - (runSub F d s left xs).2.1))
theorem asks_false1{fl d:Int}{s:MSub}(h:bits .and .u32 fl s.flags=0):asks fl d s=false:=by unfold asks;rw [h];rfl
theorem asks_false2{fl d:Int}{s:MSub}(h:Cov.runsM (Cov.bitB s.cover 31) (Cov.bitB s.cover 29) d=false):asks fl d s=false:=by unfold asks;rw [h];simp
theorem asks_true{fl d:Int}{s:MSub}(h1:bits .and .u32 fl s.flags≠0)(h:Cov.runsM (Cov.bitB s.cover 31) (Cov.bitB s.cover 29) d=true):asks fl d s=true:=by unfold asks;rw [h];simpa using h1
theorem subsRun_no{F:WkF}{fl d:Int}{s:MSub}{l:List MSub}{k:Nat}{xs:List Gl}{left:Int}(h:asks fl d s=false):subsRun F fl d (s::l) k xs left=subsRun F fl d l (k+1) xs left:=by
 rw [subsRun,h]
theorem subsRun_yes{F:WkF}{fl d:Int}{s:MSub}{l:List MSub}{k:Nat}{xs:List Gl}{left:Int}(h:asks fl d s=true):subsRun F fl d (s::l) k xs left=
  if (runSub F d s left xs).2.2=0 then subsRun F fl d l (k+1) (runSub F d s left xs).1 (wrap64 (left - (runSub F d s left xs).2.1))
   else ((runSub F d s left xs).1,wrap64 (left - (runSub F d s left xs).2.1),some ((runSub F d s left xs).2.2,k)):=by
 rw [subsRun,h]
theorem chainsRun_cons{F:WkF}{d:Int}{c:MChain}{fl:Int}{l:List (MChain×Int)}{i:Nat}{xs:List Gl}{left:Int}:chainsRun F d ((c,fl)::l) i xs left=
  match subsRun F fl d c.subs 0 xs left with
  |(ys,left',none)=>chainsRun F d l (i+1) ys left'
  |(ys,_,some (e,k))=>(ys,some (e,i,k)):=by
 rw [chainsRun]<;>rfl
theorem lnTo_on{w w1 w2:World}{base g:Nat}{sv:Value}{ys:List Gl}(h:LnTo w base g sv ys w1)(hb:Below w1.heap.size w1 w2):LnTo w base g sv ys w2:=by
 obtain ⟨sv',h1,h2,h3⟩:=h;exact ⟨sv',h1.below hb,h2.on hb,h3⟩
theorem work_func{u:World}{fv:Value}{wk:WkD}(h:WorkAt u fv wk):∃fn fa fb,fv=.func (.func fn) fa fb:=by
 cases wk with
 |rear M=>obtain ⟨_,⟨_,h1,_⟩,_⟩:=h;exact ⟨_,_,_,h1⟩
 |ctx M=>obtain ⟨_,⟨_,h1,_⟩,_⟩:=h;exact ⟨_,_,_,h1⟩
 |lig M=>obtain ⟨_,⟨_,h1,_⟩,_⟩:=h;exact ⟨_,_,_,h1⟩
 |swap M=>obtain ⟨_,⟨_,h1,_⟩,_⟩:=h;exact ⟨_,_,_,h1⟩
 |ins M=>obtain ⟨_,h1,_⟩:=h;exact ⟨_,_,_,h1⟩
 |none=>obtain ⟨_,h1,_⟩:=h;exact ⟨_,_,_,h1⟩
theorem lnTo_box{w w3 w1 w2:World}{base g FT:Nat}{sv:Value}{ys:List Gl}(hbw:Below w.heap.size w w3)(hsv:∀k,blk g sv k→k<FT)(hFT0:w.heap.size≤FT)(hFT:FT<w3.heap.size)(h:LnTo w3 base g sv ys w1)(hm:Mod (fun k=>k=FT) w1 w2):LnTo w base g sv ys w2:=by
 obtain ⟨sv',h1,h2,h3⟩:=h;refine ⟨sv',h1.mod hm (fun k hk e=> ?_),((Mod.of_below (S:=blk g sv) hbw).trans h2 (fun _ h _=>h)).trans hm (fun k hk hlt=>by omega),fun k hk=>(h3 k hk).imp id (Nat.le_trans hbw.size)⟩
 subst e;rcases hk with hk|hk
 ·have:=hsv k (.inl hk);omega
 ·rcases h3 k hk with h|h
  ·have:=hsv k (.inr h);omega
  ·omega
theorem results_cell1{fn:Func}{p:Tmp}{ty:TypeId}(h:fn.results=#[.cell p ty])(tmps:Array Value)(P:Program)(w:World):
  (results fn tmps).run P w=((asAddr (tmps.getD p undef)).run P w).andThen fun a w1=>((loadVar ty a).run P w1).andThen fun v w2=>.ok v w2:=by
 simp only [results,h];simp [Sem.run_bind,Result.andThen];cases Sem.run P (asAddr (tmps[p]?.getD undef)) w with
 |ok a w=>simp only;cases Sem.run P (loadVar ty a) w<;>rfl
 |halt h w=>rfl
theorem setF{w:World}{b:Nat}{t:TypeId}{x0 x1 x2:Value}(h:w.heap[b]? =some (.cells #[x0,x1,x2] t (0,0)))(v0 v1 v2:Value):(((w.setCell ⟨b,0,none⟩ v0).setCell ⟨b,1,none⟩ v1).setCell ⟨b,2,none⟩ v2).heap[b]? =some (.cells #[v0,v1,v2] t (0,0)):=by
 have h1:=heap_set (i:=0) h v0;have h2:=heap_set (i:=1) h1 v1;have h3:=heap_set (i:=2) h2 v2;exact h3
theorem flagsOf_len(T:List MChain)(xs:List (Int×Int)):(flagsOf T xs).length=T.length:=by unfold flagsOf;rw [List.length_map]
theorem mrun_any(F:WkF)(Pre:List Gl→Int→Prop)(hPn:∀xs left,Pre xs left→xs.length≤1000000)(v stv:Value)(T:List MChain)(ons:List (Int×Int))(d left0:Int)(base g:Nat)(sv:Value)(xs0:List Gl)(W0 w:World)
  (h:MorxAt W0 v T) (hr:∀c∈T,c.rules.length≤100000) (hTn:T.length≤100000) (hsb:∀c∈T,c.subs.length≤1000000) (hs:Row.Leads w stv ons.length (ons.flatMap Pk.setC)) (hp:ons.Pairwise (fun x y=>Pk.ltP x y=true)) (hxn:ons.length≤100000)
  (hb0:Below W0.heap.size W0 w) (hbase:W0.heap.size≤base) (hL:LineAt w base g sv xs0) (hx:Pre xs0 left0) (hok:RunOk F Pre d T (flagsOf T ons)):
  Calls Tryz.prog 70 #[v,.pointer (some ⟨g,0,none⟩),stv,.int .i64 d,.int .i64 left0] w
   fun e w'=>e=.returned (faultV (chainsRun F d (T.zip (flagsOf T ons)) 0 xs0 left0).2)∧LnTo w base g sv (chainsRun F d (T.zip (flagsOf T ons)) 0 xs0 left0).1 w':=by
 obtain ⟨r,hR⟩:∃r,chainsRun F d (T.zip (flagsOf T ons)) 0 xs0 left0=r:=⟨_,rfl⟩;obtain ⟨n,hn⟩:∃n,T.length=n:=⟨_,rfl⟩;have HN:=Bas.hid hn;have HR:=Bas.hid hR;rw [hR];have kF:=Bas.heap_new w (.cells #[.int .i64 0,.int .i64 0,.int .i64 0] 74);have hbF:=(Below.refl w.heap.size w).alloc (Nat.le_refl _) (.cells #[.int .i64 0,.int .i64 0,.int .i64 0] 74);have HKF:=Bas.hid kF;have HBF:=Bas.hid hbF;have HFL:=Bas.hid (mflags_any v stv T ons (w.alloc (.cells #[.int .i64 0,.int .i64 0,.int .i64 0] 74)) ((h.below hb0).below hbF) hr hTn (Row.leads_below hs hbF) hp hxn);obtain ⟨gt,vl,rs,rfl,hg,hrl,hvl,hlk⟩:=h;have g0:=cell_of_heap (i:=0) (v:=vl) hg rfl;have lg:=heap_lt hg;obtain ⟨al,cl,rfl⟩:=Row.leads_slice hvl;obtain ⟨as',cs,rfl⟩:=Row.leads_slice hs;have HVL:=Bas.hid hvl;have HLK:=Bas.hid hlk;have HRL:=Bas.hid (hrl.trans hn);have HG:=Bas.hid hg;have HLL:=Bas.hid hL;have HOK:=Bas.hid hok;have HX:=Bas.hid hx;have HB0:=Bas.hid hb0;have HSB:=Bas.hid hsb;have hTn2:n≤100000:=by omega
 obtain ⟨fls,hfls⟩:∃fls,flagsOf T ons=fls:=⟨_,rfl⟩;have HFN:Hid (fls.length=n):=by unfold Hid;rw [←hfls,flagsOf_len,hn]
 rw [hfls] at HFL HR HOK;obtain ⟨FT,hFT⟩:∃FT,w.heap.size=FT:=⟨_,rfl⟩;have HFT:=Bas.hid hFT;have hszF:(w.alloc (.cells #[.int .i64 0,.int .i64 0,.int .i64 0] 74)).heap.size=FT+1:=by rw [World.size_alloc,hFT]
 rw [hszF,hn] at HFL;rw [hFT] at HKF HBF;clear hr hs hn hb0 hL hx hok hR kF hbF hg hrl hvl hlk hfls hTn g0 lg hsb hp;go_enter Tryz.func70,Tryz.ntmps70
 go_wp2_with (fail);generalize (w.alloc (.cells #[.int .i64 0,.int .i64 0,.int .i64 0] 74))=W1 at*;refine HFL.out.mono ?_;rintro e w3 ⟨hb3,v5,rfl,ho5⟩;have HB3:=Bas.hid (HBF.out.trans (hb3.mono (by omega)))
 have HKF3:=Bas.hid ((hb3.block _ (by omega)).trans HKF.out)
 have HO5:=Bas.hid ho5;obtain ⟨a5,c5,rfl⟩:=own_slice ho5;have hL3:=HLL.out.below (HFT.out.symm▸HB3.out);have HL3:=Bas.hid (LnTo.refl hL3);have HG3:Hid (g<w3.heap.size):=hL3.lt;have hTB:∀i,blk g sv i→i<FT:=fun i hi=>by have:=(HLL.out.blk_low i hi).2;rw [HFT.out] at this;exact this
 have HTB:=Bas.hid hTB;have HBW3:Hid (Below W0.heap.size W0 w3):=HB0.out.trans ((HFT.out.symm▸HB3.out:Below w.heap.size w w3).mono HB0.out.size);have HBLO:Hid (∀i,blk g sv i→W0.heap.size≤i):=fun i hi=>Nat.le_trans hbase (HLL.out.blk_low i hi).1
 have hW3:=HBW3.out.block _ (heap_lt HG.out);have g0:=cell_of_heap (i:=0) (v:=.slice al T.length cl) (hW3.trans HG.out) rfl;have lg:=heap_lt (hW3.trans HG.out);rw [HN.out] at g0;clear hb3 ho5 hL3 hTB hW3 hszF hFT HFL;go_wp2_with (fail);have HFR:Hid (∀wr ys,LnTo w3 base g sv ys wr→Below W0.heap.size W0 wr∧wr.heap[FT]? =some (.cells #[.int .i64 0,.int .i64 0,.int .i64 0] 74 (0,0))∧wr.ownsRow (FT+1) 88 1 (.slice a5 n c5) n (fls.map (Value.int .u32))):=fun wr ys hl=>by
  obtain ⟨sv',h1,h2,h3⟩:=hl;exact ⟨h2.below HBW3.out HBLO.out HBW3.out.size,h2.heap HKF3.out (fun hk=>by have:=HTB.out _ hk;omega),h2.owned HO5.out (fun k hk hs=>by have:=HTB.out _ hs;have:=(Row.own_block HO5.out hk).1;omega)⟩
 clear g0 lg;go_loopw [4,26] (fun v4 vi wr=>∃(i:Nat) (xs:List Gl) (left:Int),i≤n∧vi=.int .i64 i∧v4=.int .i64 left∧LnTo w3 base g sv xs wr∧Pre xs left∧chainsRun F d ((T.zip fls).drop i) i xs left=r) (fun _ vi _=>n - (intOf vi).toNat)
 case atStart=>exact ⟨0,xs0,left0,Nat.zero_le _,rfl,rfl,HL3.out,HX.out,HR.out⟩
 case round=>
  obtain ⟨i,xs,left,hi,rfl,rfl,hl,hpre,hrun⟩:=hrel;have HLN:=Bas.hid hl;have HPRE:=Bas.hid hpre;have HRUN:=Bas.hid hrun;obtain ⟨hbw,hkf,ho⟩:=HFR.out wr xs hl;have HBWR:=Bas.hid hbw;by_cases hin:i<n
  ·have e1:decide ((i:Int)<(n:Int))=true:=by simp;omega
   have e2:decide (i<n)=true:=by simp;omega
   obtain ⟨⟨first,rules,subs⟩,hc⟩:∃c,T[i]? =some c:=⟨_,List.getElem?_eq_getElem (by rw [HN.out];exact hin)⟩
   obtain ⟨⟨vr,vs⟩,hri⟩:∃r,rs[i]? =some r:=⟨_,List.getElem?_eq_getElem (by rw [HRL.out];exact hin)⟩
   obtain ⟨fl,hfl⟩:∃f,fls[i]? =some f:=⟨_,List.getElem?_eq_getElem (by rw [HFN.out];exact hin)⟩
   have HOKi:=Bas.hid (HOK.out i _ fl hc hfl);have hzip:(T.zip fls)[i]? =some ((⟨first,rules,subs⟩:MChain),fl):=List.getElem?_zip_eq_some.2 ⟨hc,hfl⟩;rw [drop_cons hzip,chainsRun_cons] at hrun;have HRUN1:=Bas.hid hrun;obtain ⟨b,o,cp,hv,hcl⟩:=Row.leads_elem (x:=((⟨first,rules,subs⟩:MChain),(vr,vs))) linkC_len (Row.leads_below HVL.out hbw) (List.getElem?_zip_eq_some.2 ⟨hc,hri⟩) (by omega)
   rw [HN.out] at hv;cases hv;have d0:=hcl 0 _ rfl;have d1:=hcl 1 _ rfl;have d2:=hcl 2 _ rfl;simp only [Nat.add_zero] at d0 d1 d2;have lb:=World.block_lt_of_cell? _ _ d0;have hsbi:=HSB.out _ (List.mem_of_getElem? hc);obtain ⟨hrul,fvs,hfvl,hsub,hwk⟩:=HLK.out i _ _ hc hri;simp only at hrul hsub hfvl hwk hsbi;obtain ⟨ar,cr,rfl⟩:=Row.leads_slice hrul;generalize rules.length=rl at*;obtain ⟨ab,cb,rfl⟩:=Row.leads_slice hsub;have HSUB:=Bas.hid hsub;have HWK:=Bas.hid hwk;obtain ⟨m,hm⟩:∃m,subs.length=m:=⟨_,rfl⟩;have HM:=Bas.hid hm;have HFV:=Bas.hid (hfvl.trans hm);rw [hm] at d2 hsbi
   -- the flags' cell
   obtain ⟨bf,of',cf,hvf,hcf⟩:=Row.leads_elem (f:=fun x:Int=>[Value.int .u32 x]) (m:=1) (x:=fl) (fun _=>rfl) (by rw [←List.map_eq_flatMap];exact Row.leads_owned ho) hfl (by omega)
   cases hvf;have hFC:∀wr ys,LnTo w3 base g sv ys wr→wr.cell? ⟨bf,of'+i,none⟩=some (.int .u32 fl):=fun wr ys hl=>by
    obtain ⟨b2,o2,c2,hv2,hc2⟩:=Row.leads_elem (f:=fun x:Int=>[Value.int .u32 x]) (m:=1) (x:=fl) (fun _=>rfl) (by rw [←List.map_eq_flatMap];exact Row.leads_owned (HFR.out wr ys hl).2.2) hfl (by omega)
    cases hv2;have:=hc2 0 _ rfl;simpa using this
   have HFC:=Bas.hid hFC;have k7:=Bas.heap_new wr (.cells #[.int .u32 first,.slice ar rl cr,.slice ab m cb] 291);have hb7:=(Below.refl wr.heap.size wr).alloc (Nat.le_refl _) (.cells #[.int .u32 first,.slice ar rl cr,.slice ab m cb] 291);have HL7:=Bas.hid (lnTo_on HLN.out hb7);have q2:=cell_of_heap (i:=2) k7 rfl;have l7:=heap_lt k7;clear hrul hl hpre hrun hbw hkf ho hc hri hcl hsub hwk hm hfvl hcf hFC hfl hzip hb7;go_wp2_with (fail);generalize (wr.alloc (.cells #[.int .u32 first,.slice ar rl cr,.slice ab m cb] 291))=W7 at*;clear q2 l7 d0 d1 d2 lb k7;go_loopw [4,34] (fun v4 vj wq=>∃(j:Nat) (ys:List Gl) (lf:Int),j≤m∧vj=.int .i64 j∧v4=.int .i64 lf∧LnTo w3 base g sv ys wq∧Pre ys lf∧(match subsRun F fl d (subs.drop j) j ys lf with
    |(zs,left',none)=>chainsRun F d ((T.zip fls).drop (i+1)) (i+1) zs left'
    |(zs,_,some (e,k))=>(zs,some (e,i,k)))=r) (fun _ vj _=>m - (intOf vj).toNat)
   case atStart=>exact ⟨0,xs,left,Nat.zero_le _,rfl,rfl,HL7.out,HPRE.out,HRUN1.out⟩
   case round=>
    obtain ⟨j,ys,lf,hj,rfl,rfl,hl,hpre,hrun⟩:=hrel;have HLQ:=Bas.hid hl;have HPQ:=Bas.hid hpre;have HRQ:=Bas.hid hrun;obtain ⟨hbw,hkf,ho⟩:=HFR.out wr ys hl;have HBQ:=Bas.hid hbw;by_cases hjm:j<m
    ·have e3:decide ((j:Int)<(m:Int))=true:=by simp;omega
     obtain ⟨⟨cover,sfl,wk⟩,hsj⟩:∃x,subs[j]? =some x:=⟨_,List.getElem?_eq_getElem (by rw [HM.out];exact hjm)⟩
     obtain ⟨fv,hfj⟩:∃x,fvs[j]? =some x:=⟨_,List.getElem?_eq_getElem (by rw [HFV.out];exact hjm)⟩
     obtain ⟨fn,fa,fb,hfv⟩:=work_func (HWK.out j _ fv hsj hfj);have hfv2:fv=.func (.func fn) fa fb:=hfv;subst hfv2;have HWKj:=Bas.hid (HWK.out j _ _ hsj hfj);clear hfv;rw [drop_cons hsj] at hrun;have HRJ:=Bas.hid hrun;have HOKj:=Bas.hid (HOKi.out _ (List.mem_of_getElem? hsj));obtain ⟨b,o,cp,hv,hcl⟩:=Row.leads_elem (x:=((⟨cover,sfl,wk⟩:MSub),.func (.func fn) fa fb)) mSubC_len (Row.leads_below HSUB.out hbw) (List.getElem?_zip_eq_some.2 ⟨hsj,hfj⟩) (by omega)
     rw [HM.out] at hv;cases hv;have d0:=hcl 0 _ rfl;have d1:=hcl 1 _ rfl;have d2:=hcl 2 _ rfl;have d3:=hcl 3 _ rfl;have d4:=hcl 4 _ rfl;have d5:=hcl 5 _ rfl;have d6:=hcl 6 _ rfl;simp only [Nat.add_zero] at d0 d1 d2 d3 d4 d5 d6;have lb:=World.block_lt_of_cell? _ _ d0;have kS:=Bas.heap_new wr (.cells #[.int .i64 (cover%256),.bool (Cov.bitB cover 31),.bool (Cov.bitB cover 30),.bool (Cov.bitB cover 29),.bool (Cov.bitB cover 28),.int .u32 sfl,.func (.func fn) fa fb] 303);have hbS:=(Below.refl wr.heap.size wr).alloc (Nat.le_refl _) (.cells #[.int .i64 (cover%256),.bool (Cov.bitB cover 31),.bool (Cov.bitB cover 30),.bool (Cov.bitB cover 29),.bool (Cov.bitB cover 28),.int .u32 sfl,.func (.func fn) fa fb] 303);have HLS:=Bas.hid (lnTo_on HLQ.out hbS);have HBS:=Bas.hid (HBQ.out.trans (hbS.mono HBQ.out.size));have HKS:=Bas.hid kS;clear hl hpre hrun hbw hkf ho hcl hsj hfj hbS kS;go_wp2_with (fail);generalize (wr.alloc (.cells #[.int .i64 (cover%256),.bool (Cov.bitB cover 31),.bool (Cov.bitB cover 30),.bool (Cov.bitB cover 29),.bool (Cov.bitB cover 28),.int .u32 sfl,.func (.func fn) fa fb] 303))=WS at*;obtain ⟨TS,hTS⟩:∃TS,wr.heap.size=TS:=⟨_,rfl⟩;rw [hTS] at HKS ⊢;clear hTS d0 d1 d2 d3 d4 d5 d6 lb;have hfc:=HFC.out WS ys HLS.out;obtain ⟨RI,RF,Ri,RF0,RFk,RFw⟩:=Pl.fam_of WS (fun u=>u.cell? ⟨bf,of'+i,none⟩=some (.int .u32 fl)∧u.heap[TS]? =some (.cells #[.int .i64 (cover%256),.bool (Cov.bitB cover 31),.bool (Cov.bitB cover 30),.bool (Cov.bitB cover 29),.bool (Cov.bitB cover 28),.int .u32 sfl,.func (.func fn) fa fb] 303 (0,0))) ⟨hfc,HKS.out⟩
     have RFH:=Bas.hid RF0;have RhI:Nonempty RI:=⟨Ri⟩;have RFW:=Bas.hid RFw;have z0:=fun i=>(RFk i).1
     have z1:=fun i=>cell_of_heap (i:=0) (v:=.int .i64 (cover%256)) (RFk i).2 rfl
     have z2:=fun i=>cell_of_heap (i:=1) (v:=.bool (Cov.bitB cover 31)) (RFk i).2 rfl
     have z3:=fun i=>cell_of_heap (i:=2) (v:=.bool (Cov.bitB cover 30)) (RFk i).2 rfl
     have z4:=fun i=>cell_of_heap (i:=3) (v:=.bool (Cov.bitB cover 29)) (RFk i).2 rfl
     have z5:=fun i=>cell_of_heap (i:=4) (v:=.bool (Cov.bitB cover 28)) (RFk i).2 rfl
     have z6:=fun i=>cell_of_heap (i:=5) (v:=.int .u32 sfl) (RFk i).2 rfl
     have lS:=fun i=>heap_lt (RFk i).2
     have lF:=fun i=>World.block_lt_of_cell? _ _ (RFk i).1
     clear RF0 RFw RFk hfc;obtain ⟨z,hz⟩:∃z,bits .and .u32 fl sfl=z:=⟨_,rfl⟩;have HZ:=Bas.hid hz;clear hz;by_cases hz0:z=0
     ·have hz1:(z==0)=true:=by simpa using hz0
      have hz2:bits .and .u32 fl sfl=0:=by rw [HZ.out];exact hz0
      have HNA:=Bas.hid (asks_false1 (d:=d) (s:=⟨cover,sfl,wk⟩) hz2);have hz3:(bits .and .u32 fl sfl==0)=true:=by rw [hz2];rfl
      have hz4:decide (bits .and .u32 fl sfl=0)=true:=by rw [hz2];rfl
      refine Pl.region_plan0 Ri [(true,0),(true,1),(true,2),(true,3),(true,4),(true,5),(true,6),(true,7),(true,8),(true,9),(true,10),(true,11),(false,12),(true,13),(true,14)] [] (by kernel_rfl) (by kernel_rfl) (fun _ _ _ _ e h=>⟨e▸h.1,h.2⟩) RFH.out ?_
      refine Pl.head_sel0 [(true,0),(true,1),(true,2),(true,3),(true,4),(true,5),(true,6),(true,7),(true,8),(true,9),(true,10),(true,11)] (by kernel_rfl) (by kernel_rfl) ?_
      simp only [Pl.sel,List.drop_succ_cons,List.drop_zero];repeat (go_big_quiet_step (fail))
      refine wpQuiet_nil ?_;rw [←RFH.out];clear z0 z1 z2 z3 z4 z5 z6 lS lF;refine Pl.one_sel (by kernel_rfl) ?_
      intro Q' hQ' hP';simp only [Pl.sel,List.drop_succ_cons,List.drop_zero];go_wp2_with (fail);refine hQ' _ _ (fun _ _=>⟨Ri,RFH.out⟩) ?_
      clear hQ' hP' Q' RFW;refine Pl.head_sel0 (rest:=[]) [(true,13),(true,14)] (by kernel_rfl) (by kernel_rfl) ?_
      simp only [Pl.sel,List.drop_succ_cons,List.drop_zero];repeat (go_big_quiet_step (fail))
      refine wpQuiet_nil ?_;simp only [Pl.walkM];have HLD:=Bas.hid (lnTo_on HLS.out (Bas.below_drewN (Below.refl WS.heap.size WS) 1));have HRN:Hid (_=r):=(by have h:=HRJ.out;rw [subsRun_no HNA.out] at h;exact Bas.hid h)
      clear hz1 hz2 hz3 hz4 hz0;go_wp2_with (fail);go_roundw
      case rel=>exact ⟨j+1,ys,lf,by omega,by go_num,rfl,HLD.out,HPQ.out,HRN.out⟩
      case measure=>simp [intOf];omega
     ·have hz2:bits .and .u32 fl sfl=z:=HZ.out;have hz1:(z==0)=false:=by simpa using hz0
      have hz4:decide (z=0)=false:=by simpa using hz0
      have HNZ:Hid (bits .and .u32 fl sfl≠0):=by unfold Hid;rw [hz2];exact hz0
      refine Pl.region_plan0 Ri [(true,0),(true,1),(true,2),(true,3),(true,4),(true,5),(true,6),(true,7),(true,8),(true,9),(true,10),(true,11),(false,12),(true,13),(true,14)] [] (by kernel_rfl) (by kernel_rfl) (fun _ _ _ _ e h=>⟨e▸h.1,h.2⟩) RFH.out ?_
      refine Pl.head_sel0 [(true,0),(true,1),(true,2),(true,3),(true,4),(true,5),(true,6),(true,7),(true,8),(true,9),(true,10),(true,11)] (by kernel_rfl) (by kernel_rfl) ?_
      simp only [Pl.sel,List.drop_succ_cons,List.drop_zero];repeat (go_big_quiet_step (fail))
      refine wpQuiet_nil ?_;rw [←RFH.out];clear z0 z1 z2 z3 z4 z5 z6 lS lF;refine Pl.one_sel (by kernel_rfl) ?_
      intro Q' hQ' hP';simp only [Pl.sel,List.drop_succ_cons,List.drop_zero];go_wp2_with (fail);refine (Cov.mruns_any _ _ _ _ _ _ _).mono ?_;rintro e w5 ⟨rfl,hb5⟩;have hbd5:Below WS.heap.size WS w5:=(Bas.below_drewN (Below.refl WS.heap.size WS) 1).trans hb5;have HL5:=Bas.hid (lnTo_on HLS.out hbd5);have HK5:=Bas.hid ((hbd5.block _ (heap_lt HKS.out)).trans HKS.out);have hfc5:=HFC.out w5 ys HL5.out;clear hb5 hbd5;go_wp2_with (fail);refine hQ' _ _ (fun _ _=>RFW.out _ ⟨hfc5,HK5.out⟩) ?_
      clear hQ' hP' Q' RFW hfc5;obtain ⟨rb,hrb⟩:∃rb,Cov.runsM (Cov.bitB cover 31) (Cov.bitB cover 29) d=rb:=⟨_,rfl⟩;have HRB:=Bas.hid hrb;rw [hrb];clear hrb hz1 hz4 hz2 hz0;cases rb with
      |false=>
       refine Pl.head_sel0 (rest:=[]) [(true,13),(true,14)] (by kernel_rfl) (by kernel_rfl) ?_
       simp only [Pl.sel,List.drop_succ_cons,List.drop_zero];repeat (go_big_quiet_step (fail))
       refine wpQuiet_nil ?_;simp only [Pl.walkM];have HRN:Hid (_=r):=(by have h:=HRJ.out;rw [subsRun_no (asks_false2 HRB.out)] at h;exact Bas.hid h)
       go_wp2_with (fail);go_roundw
       case rel=>exact ⟨j+1,ys,lf,by omega,by go_num,rfl,HL5.out,HPQ.out,HRN.out⟩
       case measure=>simp [intOf];omega
      |true=>
       refine Pl.head_sel0 (rest:=[]) [(true,13),(true,14)] (by kernel_rfl) (by kernel_rfl) ?_
       simp only [Pl.sel,List.drop_succ_cons,List.drop_zero];repeat (go_big_quiet_step (fail))
       refine wpQuiet_nil ?_;simp only [Pl.walkM];have HAS:=Bas.hid (asks_true (s:=⟨cover,sfl,wk⟩) HNZ.out HRB.out);obtain ⟨hdo,hkeep⟩:=HOKj.out HAS.out;obtain ⟨hk1,hk2,hk3⟩:=hkeep ys lf HPQ.out;have c0:=cell_of_heap (i:=0) (v:=.int .i64 (cover%256)) HK5.out rfl;have c1:=cell_of_heap (i:=1) (v:=.bool (Cov.bitB cover 31)) HK5.out rfl;have c2:=cell_of_heap (i:=2) (v:=.bool (Cov.bitB cover 30)) HK5.out rfl;have c3:=cell_of_heap (i:=3) (v:=.bool (Cov.bitB cover 29)) HK5.out rfl;have c4:=cell_of_heap (i:=4) (v:=.bool (Cov.bitB cover 28)) HK5.out rfl;have c5':=cell_of_heap (i:=5) (v:=.int .u32 sfl) HK5.out rfl;have c6:=cell_of_heap (i:=6) (v:=.func (.func fn) fa fb) HK5.out rfl;have l5:=heap_lt HK5.out;have HSR:Hid (Calls Tryz.prog 118 #[.agg #[.int .i64 (cover%256),.bool (Cov.bitB cover 31),.bool (Cov.bitB cover 30),.bool (Cov.bitB cover 29),.bool (Cov.bitB cover 28),.int .u32 sfl,.func (.func fn) fa fb],.pointer (some ⟨g,0,none⟩),.int .i64 d,.int .i64 lf] w5
        fun e w'=>e=.returned (.tuple #[.int .i64 (runSub F d ⟨cover,sfl,wk⟩ lf ys).2.1,.int .i64 (runSub F d ⟨cover,sfl,wk⟩ lf ys).2.2])∧LnTo w3 base g sv (runSub F d ⟨cover,sfl,wk⟩ lf ys).1 w'):=by
        obtain ⟨sv',h1,h2,h3⟩:=id HL5.out;refine (subrun_any F Pre hPn ⟨cover,sfl,wk⟩ d (.func (.func fn) fa fb) lf base g sv' ys W0 w5 hdo HWKj.out (HFR.out w5 ys HL5.out).1 hbase h1 HPQ.out hk1 hk2).mono ?_;rintro e w' ⟨rfl,h4⟩;exact ⟨rfl,LnTo.step HG3.out h2 h3 h4⟩
       have HK3:=Bas.hid hk3;have HRN:Hid (_=r):=(by have h:=HRJ.out;rw [subsRun_yes HAS.out] at h;exact Bas.hid h)
       clear hdo hkeep hk1 hk2 hk3 HRJ HRQ HRUN1 HRUN;generalize runSub F d ⟨cover,sfl,wk⟩ lf ys=R at*;obtain ⟨zs,np,er⟩:=R;simp only at HSR HK3 HRN;go_wp2_with (fail);refine HSR.out.mono ?_;rintro e w7 ⟨rfl,hl7⟩;have HL7':=Bas.hid hl7;clear hl7 c0 c1 c2 c3 c4 c5' c6 l5;by_cases her:er=0
       ·subst her;have HRN2:=HRN.out;rw [if_pos rfl] at HRN2;have HRN3:=Bas.hid HRN2;clear HRN2 HRN HSR;go_wp2_with (fail);go_roundw
        case rel=>exact ⟨j+1,zs,wrap64 (lf - np),by omega,by go_num,rfl,HL7'.out,HK3.out,HRN3.out⟩
        case measure=>simp [intOf];omega
       ·have HRN2:=HRN.out;rw [if_neg her] at HRN2;have HRN3:=Bas.hid HRN2;have her1:(er==0)=false:=by simpa using her
        have her2:decide (er=0)=false:=by simpa using her
        have kf7:=(HFR.out w7 zs HL7'.out).2.1;have q0:=cell_of_heap (i:=0) kf7 rfl;have q1:=cell_of_heap (i:=1) kf7 rfl;have q2:=cell_of_heap (i:=2) kf7 rfl;have p0:=free_of_heap (i:=0) kf7;have p1:=free_of_heap (i:=1) kf7;have p2:=free_of_heap (i:=2) kf7;have lf7:=heap_lt kf7;clear HRN2 HRN HSR;go_wp2_with (fail);clear q0 q1 q2 p0 p1 p2 lf7;have k8:=setF kf7 (.int .i64 er) (.int .i64 i) (.int .i64 j);have hHF:=HFT.out;have hm8:Mod (fun k=>k=FT) w7 (((w7.setCell ⟨FT,0,none⟩ (.int .i64 er)).setCell ⟨FT,1,none⟩ (.int .i64 i)).setCell ⟨FT,2,none⟩ (.int .i64 j)):=(((Mod.refl (fun k=>k=FT) w7).set (b:=FT) (o:=0) (.int .i64 er) (.inl rfl)).set (b:=FT) (o:=1) (.int .i64 i) (.inl rfl)).set (b:=FT) (o:=2) (.int .i64 j) (.inl rfl)
        have HL8:=Bas.hid (lnTo_box (HFT.out.symm▸HB3.out) HTB.out (Nat.le_of_eq HFT.out) (heap_lt HKF3.out) HL7'.out hm8);clear hm8 kf7;generalize (((w7.setCell ⟨FT,0,none⟩ (.int .i64 er)).setCell ⟨FT,1,none⟩ (.int .i64 i)).setCell ⟨FT,2,none⟩ (.int .i64 j))=w8 at*;have c0:=cell_of_heap (i:=0) k8 rfl;have c1:=cell_of_heap (i:=1) k8 rfl;have c2:=cell_of_heap (i:=2) k8 rfl;have hr:(zs,some (er,i,j))=r:=HRN3.out;refine bodyPost_ret (v:=.agg #[.int .i64 er,.int .i64 i,.int .i64 j]) ?_ rfl ⟨by rw [←hr];rfl,by rw [←hr];exact HL8.out⟩
        rw [results_cell1 rfl]
        go_simp
    ·have e3:decide ((j:Int)<(m:Int))=false:=by simp;omega
     have e4:¬(j:Int)<(m:Int):=by omega
     have HRN:Hid (chainsRun F d ((T.zip fls).drop (i+1)) (i+1) ys lf=r):=by
      have h:=HRQ.out;rw [List.drop_of_length_le (by rw [HM.out];omega)] at h
      exact h
     clear hl hpre hrun hbw hkf ho;go_wp2_with (fail);go_roundw
     case rel=>exact ⟨i+1,ys,lf,by omega,by go_num,rfl,HLQ.out,HPQ.out,HRN.out⟩
     case measure=>simp [intOf];omega
  ·have e1:decide ((i:Int)<(n:Int))=false:=by simp;omega
   have e2:decide (i<n)=false:=by simp;omega
   have e4:¬(i:Int)<(n:Int):=by omega
   have HRN:Hid ((cleanL xs,none)=r):=by
    have h:=HRUN.out;rw [List.drop_of_length_le (by rw [List.length_zip,HN.out,HFN.out];omega)] at h
    exact h
   clear hl hpre hrun hbw hkf ho;have HCL:Hid (Calls Tryz.prog 119 #[.pointer (some ⟨g,0,none⟩)] wr fun e w'=>e=.returned (.tuple #[])∧LnTo w3 base g sv (cleanL xs) w'):=by
    obtain ⟨sv',h1,h2,h3⟩:=id HLN.out;refine (clean_any base g sv' xs wr h1 (by have:=hPn _ _ HPRE.out;omega)).mono ?_
    rintro e w' ⟨rfl,h4⟩;exact ⟨rfl,LnTo.step HG3.out h2 h3 h4⟩
   go_wp2_with (fail);refine HCL.out.mono ?_;rintro e w7 ⟨rfl,hl7⟩;have HL7':=Bas.hid hl7;have kf7:=(HFR.out w7 _ hl7).2.1;have q0:=cell_of_heap (i:=0) kf7 rfl;have q1:=cell_of_heap (i:=1) kf7 rfl;have q2:=cell_of_heap (i:=2) kf7 rfl;have p0:=free_of_heap (i:=0) kf7;have p1:=free_of_heap (i:=1) kf7;have p2:=free_of_heap (i:=2) kf7;have lf7:=heap_lt kf7;clear hl7 HCL;go_wp2_with (fail);clear q0 q1 q2 p0 p1 p2 lf7;have k8:=setF kf7 (.int .i64 0) (.int .i64 0) (.int .i64 0);have hm8:Mod (fun k=>k=FT) w7 (((w7.setCell ⟨FT,0,none⟩ (.int .i64 0)).setCell ⟨FT,1,none⟩ (.int .i64 0)).setCell ⟨FT,2,none⟩ (.int .i64 0)):=(((Mod.refl (fun k=>k=FT) w7).set (b:=FT) (o:=0) (.int .i64 0) (.inl rfl)).set (b:=FT) (o:=1) (.int .i64 0) (.inl rfl)).set (b:=FT) (o:=2) (.int .i64 0) (.inl rfl)
   have HL8:=Bas.hid (lnTo_box (HFT.out.symm▸HB3.out) HTB.out (Nat.le_of_eq HFT.out) (heap_lt HKF3.out) HL7'.out hm8);clear hm8 kf7;generalize (((w7.setCell ⟨FT,0,none⟩ (.int .i64 0)).setCell ⟨FT,1,none⟩ (.int .i64 0)).setCell ⟨FT,2,none⟩ (.int .i64 0))=w8 at*;have c0:=cell_of_heap (i:=0) k8 rfl;have c1:=cell_of_heap (i:=1) k8 rfl;have c2:=cell_of_heap (i:=2) k8 rfl;have hr:=HRN.out;refine bodyPost_ret (v:=.agg #[.int .i64 0,.int .i64 0,.int .i64 0]) ?_ rfl ⟨by rw [←hr];rfl,by rw [←hr];exact HL8.out⟩
   rw [results_cell1 rfl]
   go_simp
end Mx
namespace Sh
open Fo Vw Wr Ln Pc
theorem krun_none(gk:Nat)(lv pv kv av:Value)(w:World)(hk:w.heap[gk]? =some (.cells #[.slice none 0 0] 220 (0,0))):
  Calls Tryz.prog 73 #[.pointer (some ⟨gk,0,none⟩),lv,pv,kv,av] w fun e w'=>e=.returned (.agg #[.int .i64 0,.int .i64 0,.int .i64 0])∧Below w.heap.size w w':=by
 have hb:=(Below.refl w.heap.size w).alloc (Nat.le_refl _) (.cells #[.int .i64 0,.int .i64 0,.int .i64 0] 74);have HB:=Bas.hid hb;have kF:=Bas.heap_new w (.cells #[.int .i64 0,.int .i64 0,.int .i64 0] 74);have c0:=cell_of_heap (i:=0) (v:=.slice none 0 0) ((hb.block _ (heap_lt hk)).trans hk) rfl;have k0:=cell_of_heap (i:=0) (v:=.int .i64 0) kF rfl;have k1:=cell_of_heap (i:=1) (v:=.int .i64 0) kF rfl;have k2:=cell_of_heap (i:=2) (v:=.int .i64 0) kF rfl;have lF:=heap_lt kF;have lk:=heap_lt ((hb.block _ (heap_lt hk)).trans hk);have f0:=free_of_heap (i:=0) kF;have f1:=free_of_heap (i:=1) kF;have f2:=free_of_heap (i:=2) kF;have HKF:=Bas.hid kF;clear hb hk kF;go_enter Tryz.func73,Tryz.ntmps73
 go_wp2_with (fail);generalize w.alloc (.cells #[.int .i64 0,.int .i64 0,.int .i64 0] 74)=w1 at*;obtain ⟨F,hF⟩:∃F,w.heap.size=F:=⟨_,rfl⟩;rw [hF] at HB HKF k0 k1 k2 f0 f1 f2 lF ⊢;have HFF:=Bas.hid hF;clear hF;go_loopw [19] (fun vi wr=>vi=.int .i64 0∧wr=w1) (fun _ _=>0)
 case atStart=>exact ⟨rfl,rfl⟩
 case round=>
  obtain ⟨rfl,rfl⟩:=hrel;go_wp2_with (fail);have hfs:=flt_set HKF.out;have hbl:Below F w _:=((HB.out.setCell (p:=⟨F,0,none⟩) (Nat.le_refl _) (.int .i64 0)).setCell (p:=⟨F,1,none⟩) (Nat.le_refl _) (.int .i64 0)).setCell (p:=⟨F,2,none⟩) (Nat.le_refl _) (.int .i64 0);have j0:=cell_of_heap (i:=0) (v:=.int .i64 0) hfs.1 rfl;have j1:=cell_of_heap (i:=1) (v:=.int .i64 0) hfs.1 rfl;have j2:=cell_of_heap (i:=2) (v:=.int .i64 0) hfs.1 rfl;have HBL:=Bas.hid hbl;clear hbl hfs k0 k1 k2;generalize ((wr.setCell ⟨F,0,none⟩ (.int .i64 0)).setCell ⟨F,1,none⟩ (.int .i64 0)).setCell ⟨F,2,none⟩ (.int .i64 0)=WE at*;exact bodyPost_ret (v:=.agg #[.int .i64 0,.int .i64 0,.int .i64 0]) (by simp [results,Tryz.results73,go_sem,j0,j1,j2]) rfl ⟨rfl,by rw [HFF.out];exact HBL.out⟩
def fNone:Mx.WkF:=fun _ _ xs=>(xs,(0,0))
theorem morx_none(gm:Nat)(stv:Value)(ons:List (Int×Int))(d left:Int)(base g:Nat)(sv:Value)(xs:List Gl)(W0 w:World)
  (hk:W0.heap[gm]? =some (.cells #[.slice none 0 0] 214 (0,0))) (hs:Row.Leads w stv ons.length (ons.flatMap Pk.setC)) (hp:ons.Pairwise (fun x y=>Pk.ltP x y=true)) (hxn:ons.length≤100000) (hb0:Below W0.heap.size W0 w) (hbase:W0.heap.size≤base) (hL:LineAt w base g sv xs) (hx:xs.length≤1000000):
  Calls Tryz.prog 70 #[.pointer (some ⟨gm,0,none⟩),.pointer (some ⟨g,0,none⟩),stv,.int .i64 d,.int .i64 left] w
   fun e w'=>e=.returned (.agg #[.int .i64 0,.int .i64 0,.int .i64 0])∧LnTo w base g sv (cleanL xs) w':=by
 have hM:Mx.MorxAt W0 (.pointer (some ⟨gm,0,none⟩)) []:=⟨gm,_,[],rfl,hk,rfl,.inl ⟨rfl,rfl,rfl⟩,fun i c r h=>by simp at h⟩
 exact Mx.mrun_any fNone (fun xs _=>xs.length≤1000000) (fun _ _ h=>h) _ stv [] ons d left base g sv xs W0 w hM (fun _ h=>by cases h) (by simp) (fun _ h=>by cases h) hs hp hxn hb0 hbase hL hx (fun i c fl h=>by simp at h)
open Tk in
theorem trak_none(gt:Nat)(d z:Int)(w:World)(hk:w.heap[gt]? =some (.cells #[.slice none 0 0,.slice none 0 0,.slice none 0 0,.slice none 0 0] 233 (0,0)))(hz:-2147483648≤z∧z≤2147483647)(hd:-9223372036854775808≤d∧d≤9223372036854775807):
  Calls Tryz.prog 74 #[.pointer (some ⟨gt,0,none⟩),.int .i64 d,.int .i32 z] w fun e w'=>e=.returned (.int .i64 0)∧Below w.heap.size w w':=by
 have hv:valueV (⟨[],[]⟩,⟨[],[]⟩) d z=0:=by unfold valueV Tk.atV;simp
 have hV:TrkV ⟨[],[]⟩:=⟨rfl,fun i j _ h=>by simp at h,fun i=>by simp,fun i=>by simp,by simp⟩
 have h:=value_any (⟨[],[]⟩,⟨[],[]⟩) 0 gt d z w ⟨Nat.zero_le _,_,_,_,_,hk,⟨Row.owned_nil _ _ _ _,Row.owned_nil _ _ _ _⟩,⟨Row.owned_nil _ _ _ _,Row.owned_nil _ _ _ _⟩⟩ hV hV hz hd;rw [hv] at h;exact h
end Sh
end Go.Proofs.YtceihjjjmcgmaaaGreat
