/- Parts of a proof: texts FontMk, FontIs, RegD, FontTake, FontTables, FontFind, FontBin, FontLook, FontPlain, FontTab, FontFace, FontRead, FaceL, FaceSpeak, WidthFont, WidthRead. -/
import Derived.Test.YtceihjjjmcgmaaaGreatMP01
set_option maxHeartbeats 16000000
set_option maxRecDepth 100000
namespace Go.Proofs.YtceihjjjmcgmaaaGreat
open Go.RowKit
namespace Fo
open Vw Wr
theorem infoP:(Tryz.prog.info? 101).map (fun i=>(i.zero,i.size,i.bytes))=some (some (.agg #[.string ⟨#[]⟩,.slice none 0 0]),2,40):=by kernel_rfl
theorem owned_empty(w:World)(base:Nat)(e:TypeId)(size:Nat)(hb:base≤w.heap.size):(w.alloc (.cells #[] e)).ownsRow base e size (.slice (some ⟨w.heap.size,0,none⟩) 0 0) 0 []:=
 ⟨by simp,.inr ⟨w.heap.size,0,#[],rfl,hb,Bas.heap_new _ _,Nat.le_refl _,Nat.zero_le _,by simp,by simp⟩⟩
theorem own_apart{w:World}{base base':Nat}{e e':TypeId}{size size':Nat}{v v':Value}{n n':Nat}{xs xs':List Value}(h:w.ownsRow base e size v n xs)(h':w.ownsRow base' e' size' v' n' xs')(hne:e≠e'):∀g,v.ownBlock=some g→v'.ownBlock≠some g:=by
 intro g hg hg';obtain ⟨_,⟨rfl,_⟩|⟨g1,cp,cur,rfl,_,hh,_⟩⟩:=h
 ·cases hg
 ·cases hg;exact own_ty h' hh (Ne.symm hne) hg'
theorem vb_of_leads{w:World}{a:Option Addr}{len cap:Nat}{bs:List Int}(h:Row.Leads w (.slice a len cap) len (bs.flatMap u8C))(hb:∀x∈bs,0≤x∧x≤255)(hl:bs.length=len)(hs:len≤1000000000):VB w a bs:=
 ⟨by omega, hb, fun i hi => by
  obtain ⟨b,o,cp,hv,hc⟩:=Row.leads_elem (m:=1) (fun _=>rfl) h (List.getElem?_eq_getElem hi) (by omega)
  cases hv;refine ⟨b,o,rfl, ?_⟩;have h0:=hc 0 _ rfl;simp only [Nat.mul_one,Nat.add_zero] at h0;rw [h0,List.getD_eq_getElem?_getD,List.getElem?_eq_getElem hi];rfl⟩
theorem ordered_size(L:List PartD):∀(O:List Nat) (last:ByteArray) (f:Bool),ordered (L.map PartD.tag) last f O→∀i∈O,(L.getD i default).tag.size=4
 |[],_,_,_,i,hi=>by cases hi
 |j::O,last,f,h,i,hi=>by
  obtain ⟨_,h2,h3,h4⟩:=h;rcases List.mem_cons.1 hi with rfl|hi
  ·rw [List.length_map] at h2;rw [List.getD_eq_getElem?_getD,List.getElem?_map,List.getElem?_eq_getElem h2] at h3;rw [List.getD_eq_getElem?_getD,List.getElem?_eq_getElem h2];exact h3
  ·exact ordered_size L O _ _ h4 i hi
theorem atM_mono(P:List PartD){i j:Nat}(h:i≤j):atM P i≤atM P j:=by
 unfold atM;have:((P.take i).flatMap bodyM).length≤((P.take j).flatMap bodyM).length:=by
  have e:P.take j=P.take i++(P.take j).drop i:=by
   have:=List.take_append_drop i (P.take j);rw [List.take_take,Nat.min_eq_left h] at this;exact this.symm
  rw [e,List.flatMap_append,List.length_append];omega
 omega
theorem atM_data(P:List PartD)(p:PartD)(h:p∈P):p.data.length≤atM P P.length:=by
 obtain ⟨i,hi⟩:=List.getElem?_of_mem h;have hl:i<P.length:=(List.getElem?_eq_some_iff.1 hi).1;have h1:=atM_succ P i p hi;have h2:=atM_mono P (show i+1≤P.length by omega)
 have:=pad4_le p.data.length;omega
theorem make_any(v:Value)(L:List PartD)(O:List Nat)(w:World)(hin:PParts w v L)(hL0:0<L.length)(hL:L.length≤100)(hO:O.length=L.length)(hord:ordered (L.map PartD.tag) ⟨#[]⟩ true O)(P:List PartD)(hP:P=O.map fun i=>L.getD i default)
  (htot:atM P P.length≤1000000) (hby:∀p∈L,∀x∈p.data,0≤x∧x≤255):
  Calls Tryz.prog 33 #[v] w fun e w'=>∃near most v',e=.returned v'∧w'.ownsRow w.heap.size 5 1 v' (makeM P near most).length ((makeM P near most).map (Value.int .u8))∧Below w.heap.size w w':=by
 obtain ⟨rs,hrl,hlead,hel⟩:=hin;obtain ⟨ad,cp,rfl⟩:=Row.leads_slice hlead;obtain ⟨n,hn⟩:∃n,L.length=n:=⟨_,rfl⟩;have HLD:=Bas.hid hlead;have HEL:=Bas.hid hel;have HRL:=Bas.hid hrl;have HN:=Bas.hid hn;have HON:=Bas.hid (hO.trans hn);have HORD:=Bas.hid hord;have HPD:=Bas.hid hP;have HTOT:=Bas.hid htot;have HBY:=Bas.hid hby;have HTS:Hid (∀p∈P,p.tag.size=4):=by
  intro p hp;rw [hP] at hp;obtain ⟨i,hi,rfl⟩:=List.mem_map.1 hp;exact ordered_size L O _ _ hord i hi
 have HAT0:Hid (atM P 0=12+16*P.length):=by unfold Hid atM;simp
 have HPN:Hid (P.length=n):=by unfold Hid;rw [hP,List.length_map,hO,hn]
 rw [hn] at hL hL0 ⊢;clear hlead hel hrl hn hO hord htot hby hP;go_enter Tryz.func33,Tryz.ntmps33
 go_wp2_with (fail);have HE:=Bas.hid (owned_empty w w.heap.size 101 2 (Nat.le_refl _));have HB0:=Bas.hid ((Below.refl w.heap.size w).alloc (Nat.le_refl _) (.cells #[] 101));generalize w.alloc (.cells #[] 101)=W at*;go_loopw [3,4,5,6] (fun vs vl vf _ wr=>∃(k:Nat) (v3:Value) (G3 cp3:Nat) (last:ByteArray) (f:Bool) (Q:List (PartD×Value)),k≤n∧vs=v3∧v3=.slice (some ⟨G3,0,none⟩) k cp3∧vl=.string last∧vf=.bool f∧ordered (L.map PartD.tag) last f (O.drop k)∧Q.length=k∧(∀(j:Nat) x,Q[j]? =some x→∃i:Nat,O[j]? =some i∧(L.zip rs)[i]? =some x)∧
  wr.ownsRow w.heap.size 101 2 v3 k (Q.flatMap pC)∧Below w.heap.size w wr) (fun vs _ _ _ _=>match vs with|.slice _ k _=>n - k|_=>0)
 case atStart=>exact ⟨0,_,_,_,_,_,[],Nat.zero_le _,rfl,rfl,rfl,rfl,HORD.out,rfl,(fun j x h=>by simp at h),HE.out,HB0.out⟩
 case round=>
  obtain ⟨k,v3,G3,cp3,last,f,Q,hk,rfl,rfl,rfl,rfl,hod,hql,hqe,hown,hb⟩:=hrel;have HOD:=Bas.hid hod;have HQL:=Bas.hid hql;have HQE:=Bas.hid hqe;have HOW:=Bas.hid hown;have HB:=Bas.hid hb;clear hod hql hqe hown hb;by_cases hkn:k<n
  ·have e1:decide ((k:Int)<(n:Int))=true:=by simp;omega
   have e2:decide (k<n)=true:=by simp;omega
   obtain ⟨i,hi⟩:∃i,O[k]? =some i:=⟨_,List.getElem?_eq_getElem (by rw [HON.out];exact hkn)⟩
   have hdrop:O.drop k=i::O.drop (k+1):=by
    obtain ⟨h1,rfl⟩:=List.getElem?_eq_some_iff.1 hi;exact List.drop_eq_getElem_cons h1
   obtain ⟨hlst,hin,hsz,hnext⟩:leastTo (L.map PartD.tag) last f (L.map PartD.tag).length=i∧i<(L.map PartD.tag).length∧((L.map PartD.tag).getD i ⟨#[]⟩).size=4∧ordered (L.map PartD.tag) ((L.map PartD.tag).getD i ⟨#[]⟩) false (O.drop (k+1)):=by
    have h:=HOD.out;rw [hdrop] at h;exact h
   rw [List.length_map] at hlst hin;rw [HN.out] at hlst hin;obtain ⟨c,hc⟩:∃c,L[i]? =some c:=⟨_,List.getElem?_eq_getElem (by rw [HN.out];exact hin)⟩
   obtain ⟨r,hr⟩:∃r,rs[i]? =some r:=⟨_,List.getElem?_eq_getElem (by rw [HRL.out,HN.out];exact hin)⟩
   have hz:(L.zip rs)[i]? =some (c,r):=List.getElem?_zip_eq_some.2 ⟨hc,hr⟩;obtain ⟨B,OO,cp0,hv0,hcl⟩:=Row.leads_elem pC_len HLD.out hz (by omega)
   cases hv0;have ht:(L.map PartD.tag).getD i ⟨#[]⟩=c.tag:=by rw [List.getD_eq_getElem?_getD,List.getElem?_map,hc];rfl
   rw [ht] at hsz hnext;have HLS:=Bas.hid (fun w' (hb:Below w.heap.size w w')=>least_core B OO n cp (L.map PartD.tag) last f w' (by omega) (fun j hj=>by
    obtain ⟨cj,hcj⟩:∃c,L[j]? =some c:=⟨_,List.getElem?_eq_getElem (by rw [HN.out];exact hj)⟩
    obtain ⟨rj,hrj⟩:∃r,rs[j]? =some r:=⟨_,List.getElem?_eq_getElem (by rw [HRL.out,HN.out];exact hj)⟩
    obtain ⟨B',O',cp',hv',hcl'⟩:=Row.leads_elem pC_len HLD.out (List.getElem?_zip_eq_some.2 ⟨hcj,hrj⟩:(L.zip rs)[j]? =some (cj,rj)) (by omega)
    cases hv';have h0:=hcl' 0 _ rfl;simp only [Nat.add_zero] at h0;have hjt:(L.map PartD.tag).getD j ⟨#[]⟩=cj.tag:=by rw [List.getD_eq_getElem?_getD,List.getElem?_map,hcj];rfl
    rw [hjt];exact (hb.cell (p:=⟨B,OO+j*2,none⟩) (World.block_lt_of_cell? _ _ h0)).trans h0))
   rw [hlst] at HLS;have h0:=hcl 0 _ rfl;have h1:=hcl 1 _ rfl;simp only [Nat.add_zero] at h0 h1;have l0:=World.block_lt_of_cell? _ _ h0;have hsz':c.tag.size=4:=hsz;have HNX:=Bas.hid hnext;have HZ:=Bas.hid hz;have HI:=Bas.hid hi;obtain ⟨ar,cr,rfl⟩:=Row.leads_slice (HEL.out i c r hc hr);obtain ⟨ct,cd⟩:=c;obtain ⟨ln,hln⟩:∃ln,cd.length=ln:=⟨_,rfl⟩;simp only at h0 h1 hsz hsz';have h0':w.cell? ⟨B,OO+i*2,none⟩=some (.string ct):=h0;have h1':w.cell? ⟨B,OO+i*2+1,none⟩=some (.slice ar ln cr):=by rw [←hln];exact h1
   have HZ':Hid ((L.zip rs)[i]? =some (⟨ct,cd⟩,.slice ar ln cr)):=by unfold Hid;rw [←hln];exact HZ.out
   clear hdrop hlst hnext hz hcl ht hi hc hsz h0 h1 HZ hr hln;go_wp2_with (fail);refine (HLS.out _ HB.out).mono ?_;rintro e w1 ⟨rfl,hb1⟩;have hBw:=HB.out.size;have c0:=((HB.out.trans (hb1.mono hBw)).cell (p:=⟨B,OO+i*2,none⟩) l0).trans h0';have c1:=((HB.out.trans (hb1.mono hBw)).cell (p:=⟨B,OO+i*2+1,none⟩) l0).trans h1';have HB1:=Bas.hid (Bas.on HB.out hb1);have HOW1:=Bas.hid (Row.owned_below HOW.out hb1);clear hb1 HLS HB HOW h1';go_wp2_with (at_builtin;refine Row.fence ?_);refine Row.unfence ?_;have hbA:=(Below.refl w1.heap.size w1).alloc (Nat.le_refl _) (.cells #[.string ct,.slice ar ln cr] 101);have kA:=Bas.heap_new w1 (.cells #[.string ct,.slice ar ln cr] 101);have cA0:=(hbA.cell (p:=⟨B,OO+i*2,none⟩) (World.block_lt_of_cell? _ _ c0)).trans c0;have HB2:=Bas.hid (Bas.on HB1.out hbA);have HOW2:=Bas.hid (Row.owned_below HOW1.out hbA);have hql:=HQL.out;generalize w1.alloc (.cells #[.string ct,.slice ar ln cr] 101)=WA at*;clear hbA HB1 HOW1 c0 c1;refine (Row.append_any rfl _ _ 98 101 rfl (.agg #[.string ⟨#[]⟩,.slice none 0 0]) 2 40 Tryz.underlying98 infoP rfl (by decide) w.heap.size (.slice (some ⟨G3,0,none⟩) k cp3) k _ rfl HOW2.out (.slice (some ⟨w1.heap.size,0,none⟩) 1 1) 1 [.string ct,.slice ar ln cr] rfl (leads_heap kA) rfl (by simp;exact ⟨rfl,rfl⟩) (by unfold maxLen;omega) (by omega) HB2.out.size ?_)
   intro v' w9 hown9 hg9 _;have HB9:=Bas.hid (HB2.out.grown hg9 HB2.out.size (fun g' hg'=>(Row.own_block HOW2.out hg').1))
   have HO9:Hid (w9.ownsRow w.heap.size 101 2 v' (k+1) ((Q++[((⟨ct,cd⟩:PartD),(Value.slice ar ln cr))]).flatMap pC)):=by
    unfold Hid;rw [List.flatMap_append];exact hown9
   have c9:=(HB9.out.cell (p:=⟨B,OO+i*2,none⟩) l0).trans h0';rcases Row.owned_parts hown9 with ⟨_,h0,_⟩|⟨G9,cp9,hvG,-⟩
   ·omega
   subst hvG;clear hown9 hg9 kA cA0 HB2 HOW2;go_wp2_with (fail);go_roundw
   case rel=>
    refine ⟨k+1,_,G9,cp9,ct,false,Q++[((⟨ct,cd⟩:PartD),(Value.slice ar ln cr))],by omega,by go_num,rfl,rfl,rfl,HNX.out,by simp [hql],fun j x hj=> ?_,HO9.out,HB9.out⟩
    by_cases hjk:j<k
    ·rw [List.getElem?_append_left (by omega)] at hj
     exact HQE.out j x hj
    ·have hjk2:j=k:=by
      have:=(List.getElem?_eq_some_iff.1 hj).1;simp at this;omega
     subst hjk2;rw [List.getElem?_append_right (by omega),hql,Nat.sub_self] at hj
     cases hj;exact ⟨i,HI.out,HZ'.out⟩
   case measure=>simp;omega
  ·have hkn2:k=n:=by omega
   subst hkn2;have HQP:Hid (P=Q.map Prod.fst):=by
    unfold Hid;rw [HPD.out];refine List.ext_getElem? fun j=> ?_
    by_cases hj:j<k
    ·obtain ⟨x,hx⟩:∃x,Q[j]? =some x:=⟨_,List.getElem?_eq_getElem (by rw [HQL.out];exact hj)⟩
     obtain ⟨i,hi,hz⟩:=HQE.out j x hx;obtain ⟨h1,-⟩:=List.getElem?_zip_eq_some.1 hz;rw [List.getElem?_map,List.getElem?_map,hi,hx];simp only [Option.map_some];rw [List.getD_eq_getElem?_getD,h1];rfl
    ·rw [List.getElem?_eq_none (by rw [List.length_map,HON.out];omega),List.getElem?_eq_none (by rw [List.length_map,HQL.out];omega)]
   have HQV:Hid (∀(j:Nat) x,Q[j]? =some x→Row.Leads w x.2 x.1.data.length (x.1.data.flatMap u8C)∧(∀y∈x.1.data,0≤y∧y≤255)):=by
    intro j x hx;obtain ⟨i,hi,hz⟩:=HQE.out j x hx;obtain ⟨h1,h2⟩:=List.getElem?_zip_eq_some.1 hz;exact ⟨HEL.out i x.1 x.2 h1 h2,HBY.out x.1 (List.mem_of_getElem? h1)⟩
   clear HOD HQE HPD;have g1:decide ((0:Int)<(k:Int))=true:=by simp;omega
   have g2:decide (0<k)=true:=by simp;omega
   go_wp2_with (fail);obtain ⟨wo,hwo⟩:∃wo:World,wo=wr:=⟨_,rfl⟩;rw [←hwo] at HOW HB;rw [←hwo];clear hwo;go_loopw [8,9] (fun va vm wr=>∃(near most:Int),va=.int .i64 near∧vm=.int .i64 most∧16≤near∧near≤16*(k:Int)∧0≤most∧most≤near∧wr=wo) (fun va _ _=>(16*(k:Int)+1 - intOf va).toNat)
   case atStart=>exact ⟨16,0,rfl,rfl,by omega,by omega,by omega,by omega,rfl⟩
   case round=>
    obtain ⟨near,most,rfl,rfl,hn16,hnk,hm0,hmn,rfl⟩:=hrel;by_cases hdbl:2*near≤16*(k:Int)
    ·have f1:decide (2*near≤16*(k:Int))=true:=by simpa using hdbl
     go_wp2_with (fail);go_roundw
     case rel=>exact ⟨2*near,most+1,rfl,rfl,by omega,hdbl,by omega,by omega,trivial⟩
     case measure=>simp [intOf];omega
    ·have f1:decide (2*near≤16*(k:Int))=false:=by simp;omega
     clear hdbl;go_wp2_with (fail);have hbE:=(Below.refl wr.heap.size wr).alloc (Nat.le_refl _) (.cells #[] 5);have hO0:(wr.alloc (.cells #[] 5)).ownsRow w.heap.size 5 1 (.slice (some ⟨wr.heap.size,0,none⟩) 0 0) ([]:List Int).length (([]:List Int).map (Value.int .u8)):=owned_empty wr w.heap.size 5 1 HB.out.size;have HOWE:=Bas.hid (Row.owned_below HOW.out hbE);have HBE:=Bas.hid (Bas.on HB.out hbE);have hB0:=HBE.out.size;generalize wr.alloc (.cells #[] 5)=u0 at*;clear hbE;refine (put_any 65536 4 w.heap.size _ _ u0 (by omega) (by omega) (by omega) (by simp []) hB0 hO0).mono ?_
     rintro e u1 ⟨y1,rfl,gr1⟩;have hB1:=Nat.le_trans hB0 gr1.grow.size;have hO1:=gr1.own;go_wp2_with (fail);refine (put_any (k:Int) 2 w.heap.size _ _ u1 (by omega) (by omega) (by omega) (by simp [putB_len]) hB1 hO1).mono ?_
     rintro e u2 ⟨y2,rfl,gr2⟩;have hB2:=Nat.le_trans hB1 gr2.grow.size;have hO2:=gr2.own;go_wp2_with (fail);refine (put_any near 2 w.heap.size _ _ u2 (by omega) (by omega) (by omega) (by simp [putB_len]) hB2 hO2).mono ?_
     rintro e u3 ⟨y3,rfl,gr3⟩;have hB3:=Nat.le_trans hB2 gr3.grow.size;have hO3:=gr3.own;go_wp2_with (fail);refine (put_any most 2 w.heap.size _ _ u3 (by omega) (by omega) (by omega) (by simp [putB_len]) hB3 hO3).mono ?_
     rintro e u4 ⟨y4,rfl,gr4⟩;have hB4:=Nat.le_trans hB3 gr4.grow.size;have hO4:=gr4.own;go_wp2_with (fail);refine (put_any (16*(k:Int) - near) 2 w.heap.size _ _ u4 (by omega) (by omega) (by omega) (by simp [putB_len]) hB4 hO4).mono ?_
     rintro e u5 ⟨y5,rfl,gr5⟩;have hB5:=Nat.le_trans hB4 gr5.grow.size;have hO5:=gr5.own;go_wp2_with (fail);have gA:=(((gr1.trans gr2).trans gr3).trans gr4).trans gr5;have HBA:=Bas.hid (gA.below HBE.out HBE.out.size (fun g hg=>(Row.own_block hO0 hg).1))
     have HOWA:=Bas.hid (Row.owned_keep HOWE.out fun g hg=>gA.grow.block g (Row.own_block HOWE.out hg).2 (fun e=>own_apart HOWE.out hO0 (by decide) g hg e.symm))
     have HROW:Hid (u5.ownsRow w.heap.size 5 1 y5 (headM k near most).length ((headM k near most).map (Value.int .u8))):=by
      have h:=gA.own;simp only [List.nil_append] at h;exact h
     clear gA gr1 gr2 gr3 gr4 gr5 hO0 hO1 hO2 hO3 hO4 hO5 hB0 hB1 hB2 hB3 hB4 hB5 HBE HOWE HOW HB HE HB0;have HATB:Hid (∀i,i≤k→atM P i≤1000000):=fun i hi=>Nat.le_trans (atM_mono P (by rw [HPN.out];exact hi)) HTOT.out
     have HDL:Hid (∀p∈P,p.data.length≤1000000):=fun p hp=>Nat.le_trans (atM_data P p hp) HTOT.out
     have HH:Hid ((headM k near most).length=12):=headM_len _ _ _;have HP16:Hid (∀i,i≤k→(headM k near most++rowsM (12+16*k) (P.take i)).length=12+16*i):=by
      intro i hi;rw [List.length_append,HH.out,rowsM_len _ (fun p hp=>HTS.out p (List.mem_of_mem_take hp)),List.length_take,HPN.out,Nat.min_eq_left hi]
     go_loopw [10,11,12] (fun vb va vi wr=>∃(i:Nat) (vB:Value),i≤k∧vi=.int .i64 i∧va=.int .i64 (atM P i:Nat)∧vb=vB∧wr.ownsRow w.heap.size 5 1 vB (headM k near most++rowsM (12+16*k) (P.take i)).length ((headM k near most++rowsM (12+16*k) (P.take i)).map (Value.int .u8))∧
      wr.ownsRow w.heap.size 101 2 (.slice (some ⟨G3,0,none⟩) k cp3) k (Q.flatMap pC)∧Below w.heap.size w wr) (fun _ _ vi _=>k - (intOf vi).toNat)
     case atStart=>exact ⟨0,_,Nat.zero_le _,rfl,by rw [HAT0.out,HPN.out];go_num,rfl,by simpa [rowsM] using HROW.out,HOWA.out,HBA.out⟩
     case round=>
      obtain ⟨i,vB,hi,rfl,rfl,rfl,hrow,how,hb⟩:=hrel;have HRW:=Bas.hid hrow;have HOW:=Bas.hid how;have HB:=Bas.hid hb;obtain ⟨bb,hbb⟩:∃bb,headM k near most++rowsM (12+16*k) (P.take i)=bb:=⟨_,rfl⟩;have hbl:bb.length=12+16*i:=by rw [←hbb];exact HP16.out i hi
      have HBBE:=Bas.hid hbb;rw [hbb] at HRW;obtain ⟨adB,cpB,hvB⟩:=own_slice HRW.out;subst hvB;clear hrow how hb hbb HROW HOWA HBA;by_cases hik:i<k
      ·have e1:decide ((i:Int)<(k:Int))=true:=by simp;omega
       have e2:decide (i<k)=true:=by simp;omega
       obtain ⟨⟨⟨ct,cd⟩,cv⟩,hx⟩:∃x,Q[i]? =some x:=⟨_,List.getElem?_eq_getElem (by rw [HQL.out];exact hik)⟩
       obtain ⟨hld,hdb⟩:=HQV.out i _ hx;have hln1:cd.length≤1000000:=HDL.out ⟨ct,cd⟩ (by rw [HQP.out];exact List.mem_map_of_mem (List.mem_of_getElem? hx))
       obtain ⟨ar,cr,hcv⟩:=Row.leads_slice hld;simp only at hld hdb hcv;subst hcv;have hPi:P[i]? =some ⟨ct,cd⟩:=by rw [HQP.out,List.getElem?_map,hx];rfl
       have hct:ct.size=4:=HTS.out ⟨ct,cd⟩ (List.mem_of_getElem? hPi);obtain ⟨G,C,hv3,-,-,-,hcl⟩:=Row.elem_cells pC_len HOW.out hx (by omega) (by rw [HQL.out])
       cases hv3;have q0:wr.cell? ⟨G3,i*2,none⟩=some (.string ct):=hcl 0 _ rfl;have q1:wr.cell? ⟨G3,i*2+1,none⟩=some (.slice ar cd.length cr):=hcl 1 _ rfl;have hcvt:∀w':World,(convert 9 47 (.string ct)).run Tryz.prog w'=.ok (.slice (some ⟨w'.heap.size,0,none⟩) ct.size (grownCap w' ct.size 0 5)) (Lib.bytesWorld w' 5 ct):=fun w'=>
        Lib.run_convert_string_bytes w' 9 47 5 ct Tryz.underlying9 Tryz.underlying47 Tryz.underlying5
       have HCT:=Bas.hid hct;clear hct;go_wp2_with (at_builtin;refine Row.fence ?_);refine Row.unfence ?_;have hbC:Below wr.heap.size wr (Lib.bytesWorld wr 5 ct):=⟨rfl,rfl,rfl,by rw [Lib.bytesWorld_size];omega,fun j hj=>Lib.bytesWorld_at_old wr 5 ct j hj⟩
       have hldC:=leads_bytes wr ct (grownCap wr ct.size 0 5);have HRWC:=Bas.hid (Row.owned_below HRW.out hbC);have HOWC:=Bas.hid (Row.owned_below HOW.out hbC);have HBC:=Bas.hid (Bas.on HB.out hbC);have hctt:=HCT.out;refine (Row.append_at rfl _ _ 47 5 rfl (.int .u8 0) 1 1 Tryz.underlying47 info8 rfl (by decide) w.heap.size (.slice adB bb.length cpB) bb.length _ rfl HRWC.out (.slice (some ⟨wr.heap.size,0,none⟩) ct.size (grownCap wr ct.size 0 5)) ct.size ((tagB ct).map (Value.int .u8)) rfl hldC (by rw [List.length_map,tagB_len];omega) (by simp;intros;rfl) (by unfold maxLen;omega) (by omega) HBC.out.size ?_)
       intro vA wA hA1 hA2 _ hA3;have gA:Grown (Lib.bytesWorld wr 5 ct) w.heap.size (.slice adB bb.length cpB) (bb++tagB ct) vA wA:=⟨by simpa only [List.map_append,List.length_append,tagB_len] using hA1,hA2,hA3.imp id fun h=>⟨_,h,Nat.le_refl _⟩⟩
       have HBA:=Bas.hid (gA.below HBC.out HBC.out.size (fun g hg=>(Row.own_block HRWC.out hg).1))
       have HOWA:=Bas.hid (Row.owned_keep HOWC.out fun g hg=>gA.grow.block g (Row.own_block HOWC.out hg).2 (fun e=>own_apart HOWC.out HRWC.out (by decide) g hg e.symm))
       have hOA:=gA.own;have hneA:vA.ownBlock≠some G3:=own_apart HOWA.out hOA (by decide) G3 rfl
       obtain ⟨G,C,hv3,-,lG,-,hcl⟩:=Row.elem_cells pC_len HOWA.out hx (by omega) (by rw [HQL.out])
       cases hv3;have q1A:wA.cell? ⟨G3,i*2+1,none⟩=some (.slice ar cd.length cr):=hcl 1 _ rfl;have hbaseA:=HBA.out.size;have hVD:VB wA.drew ar cd:=by
        have h:=(vb_of_leads hld hdb rfl (by omega)).below HBA.out
        exact ⟨h.len,h.byte,h.cell⟩
       have hsumb:=sumTo_bd cd ((cd.length+3) / 4);have hsumE:sumTo cd ((cd.length+3) / 4)=sumL cd:=rfl;rw [hsumE] at hsumb;have hatb:=HATB.out i hi;have hbAl:(bb++tagB ct).length≤2000:=by rw [List.length_append,tagB_len,hbl,hctt];omega
       obtain ⟨bA,hbA⟩:∃l,bb++tagB ct=l:=⟨_,rfl⟩;have HBAE:=Bas.hid hbA;rw [hbA] at hbAl hOA;clear hbA;clear hA1 hA2 hA3 gA HRWC HOWC HBC hldC hbC HRW HOW HB q0 q1 hcvt hcl hctt hsumE;obtain ⟨adA,cpA,hvA⟩:=own_slice hOA;subst hvA;go_wp2_with (fail);obtain ⟨sm,hsm⟩:∃sm,sumL cd=sm:=⟨_,rfl⟩;obtain ⟨ln,hln⟩:∃ln,cd.length=ln:=⟨_,rfl⟩;obtain ⟨am,ham⟩:∃am,atM P i=am:=⟨_,rfl⟩;have HSUM:=Bas.hid (sum_any ar cd.length cr cd wA.drew hVD rfl (by omega))
       rw [hsm] at hsumb HSUM;rw [hln] at q1A HSUM hln1;rw [ham] at hatb ⊢;have d:=Row.owned_keep hOA (w':=wA.drew) (fun _ _=>rfl)
       obtain ⟨I,F,i0,F0,Fg,Fw,Fb⟩:=Pl.fam_g wA (Value.slice adA bA.length cpA).ownBlock;have c1:=fun j=>(Bas.gcell (Fb j) (b:=G3) (o:=i*2+1) lG hneA).trans q1A
       have FH:=Bas.hid F0;have hI:Nonempty I:=⟨i0⟩;have FW:=Bas.hid Fw;clear F0 Fw Fg Fb hVD;refine Pl.region_plan0 i0 [(true,0),(true,1),(true,2),(true,3),(true,4),(true,5),(true,8),(true,10),(true,11),(true,12),(true,13),(true,14),(true,15),(false,6),(false,7),(false,9),(false,16),(false,17)] [16,17] (by kernel_rfl) (by kernel_rfl) (fun _ _ _ _ e h=>⟨e▸h.1,h.2⟩) FH.out ?_
       refine Pl.head_sel0 [(true,0),(true,1),(true,2),(true,3),(true,4),(true,5),(true,8),(true,10),(true,11),(true,12),(true,13),(true,14),(true,15)] (by kernel_rfl) (by kernel_rfl) ?_
       simp only [Pl.sel,List.drop_succ_cons,List.drop_zero];repeat (go_big_quiet_step (fail))
       refine wpQuiet_nil ?_;rw [←FH.out];clear c1 FH;refine Pl.one_sel (by kernel_rfl) ?_
       intro Q' hQ' hP';simp only [Pl.sel,List.drop_succ_cons,List.drop_zero];go_wp2_with (fail);refine HSUM.out.mono ?_;rintro e x ⟨rfl,rfl⟩;go_wp2_with (fail);refine hQ' _ _ (fun _ _=>FW.out _ (Bas.gdrew (Bas.grefl _ _))) ?_
       clear hQ' hP' Q' HSUM;refine Pl.one_sel (by kernel_rfl) ?_
       intro Q' hQ' hP';simp only [Pl.sel,List.drop_succ_cons,List.drop_zero];go_wp2_with (fail);refine (put_any sm 4 w.heap.size _ _ wA.drew (by omega) (by omega) (by omega) (by first|omega|(simp only [List.length_append,putB_len];omega)) hbaseA d).mono ?_
       rintro e x1 ⟨z1,rfl,g1⟩;have gg:=Bas.gtrans (Bas.gdrew (Bas.grefl wA _)) g1.grow;go_wp2_with (fail);refine hQ' _ _ (fun _ _=>FW.out _ gg) ?_
       clear hQ' hP' Q' gg;refine Pl.one_sel (by kernel_rfl) ?_
       intro Q' hQ' hP';simp only [Pl.sel,List.drop_succ_cons,List.drop_zero];go_wp2_with (fail);refine (put_any (am:Int) 4 w.heap.size _ _ x1 (by omega) (by omega) (by omega) (by first|omega|(simp only [List.length_append,putB_len];omega)) (Nat.le_trans hbaseA g1.grow.size) g1.own).mono ?_
       rintro e x2 ⟨z2,rfl,g2⟩;have g12:=g1.trans g2;have gg:=Bas.gtrans (Bas.gdrew (Bas.grefl wA _)) g12.grow;go_wp2_with (fail);refine hQ' _ _ (fun _ _=>FW.out _ gg) ?_
       clear hQ' hP' Q' gg FW g1;refine Pl.tail_sel [(false,16),(false,17)] (by kernel_rfl) (by kernel_rfl) ?_
       simp only [Pl.sel,List.drop_succ_cons,List.drop_zero];go_wp2_with (fail);refine (put_any (ln:Int) 4 w.heap.size _ _ x2 (by omega) (by omega) (by omega) (by first|omega|(simp only [List.length_append,putB_len];omega)) (Nat.le_trans hbaseA g12.grow.size) g12.own).mono ?_
       rintro e x3 ⟨z3,rfl,g3⟩;have g13:=g12.trans g3;have hOW3:=Row.owned_keep (w':=x3) HOWA.out fun g hg=>(g13.grow.block g (Row.own_block HOWA.out hg).2 (fun e=>own_apart HOWA.out hOA (by decide) g hg e.symm))
       have HB3:=Bas.hid ((g13.below (w:=wA.drew) (HBA.out.drew) hbaseA (fun g hg=>(Row.own_block hOA hg).1)))
       have HROW3:=Bas.hid g13.own;have HOW3:=Bas.hid hOW3;obtain ⟨G,C,hv3,-,-,-,hcl⟩:=Row.elem_cells pC_len hOW3 hx (by omega) (by rw [HQL.out])
       cases hv3;have q1D:x3.cell? ⟨G3,i*2+1,none⟩=some (.slice ar ln cr):=by rw [←hln];exact hcl 1 _ rfl
       clear g2 g3 g12 g13 hcl hOW3 d HBA HOWA q1A;go_wp2_with (fail);have HAS:Hid (atM P (i+1)=am+pad4 ln):=by unfold Hid;rw [atM_succ P i _ hPi,ham,hln]
       have HBY3:Hid (headM k near most++rowsM (12+16*k) (P.take (i+1))=bA++putB sm 4++putB (am:Int) 4++putB (ln:Int) 4):=by
        have h:=rowsM_take P i _ hPi;rw [HPN.out] at h;unfold Hid;rw [h,←List.append_assoc,HBBE.out,←HBAE.out,rowM];simp only [hsm,ham,hln,List.append_assoc]
       go_roundw
       case rel=>exact ⟨i+1,z3,by omega,by go_num,by rw [HAS.out];unfold pad4;go_num,rfl,by rw [HBY3.out];exact HROW3.out,HOW3.out,HB3.out⟩
       case measure=>simp [intOf];omega
      ·have hik2:i=k:=by omega
       subst hik2;have HBB0:Hid (bb=headM i near most++rowsM (12+16*i) P):=by
        unfold Hid;rw [←HBBE.out,List.take_of_length_le (by rw [HPN.out];exact Nat.le_refl _)]
       go_wp2_with (fail);obtain ⟨wp,hwp⟩:∃wo:World,wo=wr:=⟨_,rfl⟩;rw [←hwp] at HRW HOW HB;rw [←hwp];clear hwp;have HRW0:Hid (wp.ownsRow w.heap.size 5 1 (.slice adB bb.length cpB) (bb++(P.take 0).flatMap bodyM).length ((bb++(P.take 0).flatMap bodyM).map (Value.int .u8))):=by
        have h:=HRW.out;unfold Hid;simpa using h
       have HLB:Hid (∀j,j≤i→(bb++(P.take j).flatMap bodyM).length=atM P j):=by
        intro j hj;rw [List.length_append,hbl,atM,HPN.out]
       have HLM:Hid (∀j,atM P j%4=0):=by
        intro j;unfold atM;have h4:∀l:List PartD,(l.flatMap bodyM).length%4=0:=by
         intro l;induction l with
         |nil=>rfl
         |cons p l ih=>
          have:=pad4_le p.data.length;rw [List.flatMap_cons,List.length_append,bodyM_len];omega
        have:=h4 (P.take j);omega
       clear HRW;go_loopw [10,13] (fun vb vi wr=>∃(j:Nat) (vB:Value),j≤i∧vi=.int .i64 j∧vb=vB∧wr.ownsRow w.heap.size 5 1 vB (bb++(P.take j).flatMap bodyM).length ((bb++(P.take j).flatMap bodyM).map (Value.int .u8))∧
        wr.ownsRow w.heap.size 101 2 (.slice (some ⟨G3,0,none⟩) i cp3) i (Q.flatMap pC)∧Below w.heap.size w wr) (fun _ vi _=>i - (intOf vi).toNat)
       case atStart=>exact ⟨0,_,Nat.zero_le _,rfl,rfl,HRW0.out,HOW.out,HB.out⟩
       case round=>
        obtain ⟨j,vB,hj,rfl,rfl,hrow,how,hb⟩:=hrel;have HRW:=Bas.hid hrow;have HOW:=Bas.hid how;have HB:=Bas.hid hb;obtain ⟨b2,hb2⟩:∃b,bb++(P.take j).flatMap bodyM=b:=⟨_,rfl⟩;have hb2l:b2.length=atM P j:=by rw [←hb2];exact HLB.out j hj
        have HB2E:=Bas.hid hb2;rw [hb2] at HRW;obtain ⟨ad2,cp2,hv2⟩:=own_slice HRW.out;subst hv2;have hat2:=HATB.out j hj;clear hrow how hb hb2 HRW0;by_cases hjk:j<i
        ·have e1:decide ((j:Int)<(i:Int))=true:=by simp;omega
         have e2:decide (j<i)=true:=by simp;omega
         obtain ⟨⟨⟨ct,cd⟩,cv⟩,hx⟩:∃x,Q[j]? =some x:=⟨_,List.getElem?_eq_getElem (by rw [HQL.out];exact hjk)⟩
         obtain ⟨hld,hdb⟩:=HQV.out j _ hx;obtain ⟨ar,cr,hcv⟩:=Row.leads_slice hld;simp only at hld hdb hcv;subst hcv;have hPi:P[j]? =some ⟨ct,cd⟩:=by rw [HQP.out,List.getElem?_map,hx];rfl
         have hln1:cd.length≤1000000:=HDL.out ⟨ct,cd⟩ (List.mem_of_getElem? hPi);obtain ⟨G,C,hv3,-,-,-,hcl⟩:=Row.elem_cells pC_len HOW.out hx (by omega) (by rw [HQL.out])
         cases hv3;have q1:wr.cell? ⟨G3,j*2+1,none⟩=some (.slice ar cd.length cr):=hcl 1 _ rfl;have hldw:=Row.leads_below hld HB.out;have HPT:=Bas.hid (Row.take_flat bodyM P j _ hPi);have hb2le:b2.length≤1000000:=by omega
         have HB2L:=Bas.hid hb2l;clear hcl hb2l;go_wp2_with (at_builtin;refine Row.fence ?_);refine Row.unfence ?_;refine (Row.append_at rfl _ _ 47 5 rfl (.int .u8 0) 1 1 Tryz.underlying47 info8 rfl (by decide) w.heap.size (.slice ad2 b2.length cp2) b2.length _ rfl HRW.out (.slice ar cd.length cr) cd.length (cd.map (Value.int .u8)) rfl (u8_flat cd▸hldw) (by rw [List.length_map];omega) (by simp;intros;rfl) (by unfold maxLen;omega) (by omega) HB.out.size ?_)
         intro vA wA hA1 hA2 _ hA3;have gA:Grown wr w.heap.size (.slice ad2 b2.length cp2) (b2++cd) vA wA:=⟨by simpa only [List.map_append,List.length_append] using hA1,hA2,hA3.imp id fun h=>⟨_,h,Nat.le_refl _⟩⟩
         have HBA:=Bas.hid (gA.below HB.out HB.out.size (fun g hg=>(Row.own_block HRW.out hg).1))
         have HOWA:=Bas.hid (Row.owned_keep HOW.out fun g hg=>gA.grow.block g (Row.own_block HOW.out hg).2 (fun e=>own_apart HOW.out HRW.out (by decide) g hg e.symm))
         have HROWA:Hid (wA.ownsRow w.heap.size 5 1 vA (b2++cd++List.replicate 0 0).length ((b2++cd++List.replicate 0 0).map (Value.int .u8))):=by
          have h:=gA.own;unfold Hid;simpa using h
         clear hA1 hA2 hA3 gA HRW HOW HB q1 hldw hld;go_wp2_with (fail);obtain ⟨pd,hpd⟩:∃pd,pad4 cd.length - cd.length=pd:=⟨_,rfl⟩;have hp4:=pad4_le cd.length;have hm4:=HLM.out j;have HPD4:=Bas.hid hpd;go_loopw [10] (fun vb wr=>∃(t:Nat) (vT:Value),t≤pd∧vb=vT∧wr.ownsRow w.heap.size 5 1 vT (b2++cd++List.replicate t 0).length ((b2++cd++List.replicate t 0).map (Value.int .u8))∧
          wr.ownsRow w.heap.size 101 2 (.slice (some ⟨G3,0,none⟩) i cp3) i (Q.flatMap pC)∧Below w.heap.size w wr) (fun vb _=>match vb with|.slice _ l _=>atM P j+cd.length+pd - l|_=>0)
         case atStart=>exact ⟨0,_,Nat.zero_le _,rfl,HROWA.out,HOWA.out,HBA.out⟩
         case round=>
          obtain ⟨t,vT,htp,rfl,hrow,how,hb⟩:=hrel;have HRT:=Bas.hid hrow;have HOW:=Bas.hid how;have HB:=Bas.hid hb;obtain ⟨bt,hbt⟩:∃b,b2++cd++List.replicate t 0=b:=⟨_,rfl⟩;have hbtl:bt.length=atM P j+cd.length+t:=by rw [←hbt,List.length_append,List.length_append,HB2L.out,List.length_replicate]
          have HBTE:=Bas.hid hbt;rw [hbt] at HRT;obtain ⟨adT,cpT,hvT⟩:=own_slice HRT.out;subst hvT;have HBTL:=Bas.hid hbtl;obtain ⟨lt,hlt⟩:∃l,bt.length=l:=⟨_,rfl⟩;have HLT:=Bas.hid hlt;rw [hlt] at hbtl;rw [hlt];clear hrow how hb hbt hlt HROWA HOWA HBA;by_cases htd:t<pd
          ·have hmod:0<lt%4:=by omega
           have r1:decide ((0:Int)<(lt:Int)%4)=true:=by simp;omega
           have r2:decide (0<lt%4)=true:=by simpa using hmod
           have r3:decide ((0:Int)<Int.tmod (lt:Int) 4)=true:=by rw [Int.tmod_eq_emod_of_nonneg (by omega)];exact r1
           have hltb:lt≤3000000:=by omega
           clear hbtl;go_wp2_with (at_builtin;refine Row.fence ?_);refine Row.unfence ?_;have hb3:=(Below.refl wr.heap.size wr).alloc (Nat.le_refl _) (.cells #[.int .u8 0] 5);have k3:=Bas.heap_new wr (.cells #[.int .u8 0] 5);have HR3:=Bas.hid (Row.owned_below HRT.out hb3);have HOW3:=Bas.hid (Row.owned_below HOW.out hb3);have HB3:=Bas.hid (Bas.on HB.out hb3);generalize wr.alloc (.cells #[.int .u8 0] 5)=W3 at*;have hltE:=HLT.out;refine (Row.append_at rfl _ _ 47 5 rfl (.int .u8 0) 1 1 Tryz.underlying47 info8 rfl (by decide) w.heap.size (.slice adT lt cpT) lt _ rfl (hltE▸HR3.out) (.slice (some ⟨wr.heap.size,0,none⟩) 1 1) 1 [.int .u8 0] rfl (leads_heap k3) rfl (by simp;rfl) (by unfold maxLen;omega) (by omega) HB3.out.size ?_)
           intro vU wU hU1 hU2 _ hU3;have gU:Grown W3 w.heap.size (.slice adT lt cpT) (bt++[0]) vU wU:=⟨by rw [List.map_append,List.length_append,hltE];exact hU1,hU2,hU3.imp id fun h=>⟨_,h,Nat.le_refl _⟩⟩
           have HBU:=Bas.hid (gU.below HB3.out HB3.out.size (fun g hg=>(Row.own_block (hltE▸HR3.out) hg).1))
           have HOWU:=Bas.hid (Row.owned_keep HOW3.out fun g hg=>gU.grow.block g (Row.own_block HOW3.out hg).2 (fun e=>own_apart HOW3.out HR3.out (by decide) g hg (by rw [hltE];exact e.symm)))
           have HRU:Hid (wU.ownsRow w.heap.size 5 1 vU (b2++cd++List.replicate (t+1) 0).length ((b2++cd++List.replicate (t+1) 0).map (Value.int .u8))):=by
            have e:b2++cd++List.replicate (t+1) 0=bt++[0]:=by rw [←HBTE.out,List.replicate_succ',←List.append_assoc]
            unfold Hid;rw [e];exact gU.own
           have hUl:(bt++[0]).length=lt+1:=by rw [List.length_append,hltE];rfl
           obtain ⟨adU,cpU,hvU⟩:=own_slice gU.own;rw [hUl] at hvU;subst hvU;have HTL:=HBTL.out;clear hU1 hU2 hU3 gU HR3 HOW3 HB3 HRT HOW HB k3 hb3 hUl;go_wp2_with (fail);go_roundw
           case rel=>exact ⟨t+1,_,by omega,rfl,HRU.out,HOWU.out,HBU.out⟩
           case measure=>simp;omega
          ·have htd2:t=pd:=by omega
           have hmod:lt%4=0:=by omega
           have r1:decide ((0:Int)<(lt:Int)%4)=false:=by simp;omega
           have r2:decide (0<lt%4)=false:=by simp;omega
           have r3:decide ((0:Int)<Int.tmod (lt:Int) 4)=false:=by rw [Int.tmod_eq_emod_of_nonneg (by omega)];exact r1
           have HNX:Hid (bb++(P.take (j+1)).flatMap bodyM=bt):=by
            unfold Hid;rw [HPT.out,←List.append_assoc,HB2E.out,bodyM,←List.append_assoc,←HBTE.out,htd2,←HPD4.out]
           clear hmod hbtl htd2;go_wp2_with (fail);go_roundw
           case rel=>exact ⟨j+1,_,by omega,by go_num,rfl,by rw [HNX.out,HLT.out];exact HLT.out▸HRT.out,HOW.out,HB.out⟩
           case measure=>simp [intOf];omega
        ·have hjk2:j=i:=by omega
         subst hjk2;go_wp2_with (fail);go_ret;refine ⟨near,most,_,rfl, ?_,HB.out⟩;have e:makeM P near most=b2:=by
          rw [makeM,HPN.out,←HB2E.out,HBB0.out,List.take_of_length_le (by rw [HPN.out];exact Nat.le_refl _)]
         rw [e];exact HRW.out
structure IsFont (b:List Int) (P:List PartD):Prop where
 byte:∀x∈b,0≤x∧x≤255
 len:12+16*P.length≤b.length
 few:b.length≤1000000
 kind:be b 0 4=65536
 many:be b 4 2=P.length
 tag:∀(i:Nat) p,P[i]? =some p→(b.drop (12+16*i)).take 4=tagB p.tag
 at':∀(i:Nat) p,P[i]? =some p→be b (12+16*i+8) 4=atM P i
 dlen:∀(i:Nat) p,P[i]? =some p→be b (12+16*i+12) 4=p.data.length
 data:∀(i:Nat) p,P[i]? =some p→(b.drop (atM P i)).take p.data.length=p.data∧atM P i+p.data.length≤b.length
 size:∀p∈P,p.tag.size=4
 rise:∀(i j:Nat) p q,i<j→P[i]? =some p→P[j]? =some q→ltS p.tag q.tag=true
theorem rowsM_append(l2:List PartD):∀(l1:List PartD) (a:Nat),rowsM a (l1++l2)=rowsM a l1++rowsM (a+(l1.flatMap bodyM).length) l2
 |[],a=>by simp [rowsM]
 |q::l,a=>by
  rw [List.cons_append,rowsM,rowsM_append l2 l,rowsM,List.append_assoc,List.flatMap_cons,List.length_append,bodyM_len,Nat.add_assoc]
theorem cut_at{α:Type}(l:List α)(i:Nat)(x:α)(h:l[i]? =some x):l=l.take i++x::l.drop (i+1):=by
 obtain ⟨hi,rfl⟩:=List.getElem?_eq_some_iff.1 h;rw [←List.drop_eq_getElem_cons hi,List.take_append_drop]
theorem rows_cut(P:List PartD)(i:Nat)(p:PartD)(h:P[i]? =some p):∃rest,rowsM (12+16*P.length) P=rowsM (12+16*P.length) (P.take i)++(rowM (atM P i) p++rest):=by
 have h1:=rowsM_append (p::P.drop (i+1)) (P.take i) (12+16*P.length);rw [←cut_at P i p h] at h1;exact ⟨_,h1⟩
theorem bodies_cut(P:List PartD)(i:Nat)(p:PartD)(h:P[i]? =some p):∃rest,P.flatMap bodyM=(P.take i).flatMap bodyM++(p.data++rest):=by
 have h1:P.flatMap bodyM=(P.take i++p::P.drop (i+1)).flatMap bodyM:=by rw [←cut_at P i p h]
 rw [h1,List.flatMap_append,List.flatMap_cons,bodyM,List.append_assoc];exact ⟨_,rfl⟩
theorem tagB_byte(s:ByteArray):∀x∈tagB s,0≤x∧x≤255:=by
 intro x hx;obtain ⟨y,_,rfl⟩:=List.mem_map.1 hx;have:=y.toNat_lt;omega
theorem bodyM_byte(p:PartD)(h:∀x∈p.data,0≤x∧x≤255):∀x∈bodyM p,0≤x∧x≤255:=by
 intro x hx;rcases List.mem_append.1 hx with hx|hx
 ·exact h x hx
 ·have:=List.eq_of_mem_replicate hx;omega
theorem rowsM_byte:∀(l:List PartD) (a:Nat),∀x∈rowsM a l,0≤x∧x≤255
 |[],_,x,hx=>by cases hx
 |p::l,a,x,hx=>by
  rw [rowsM,List.mem_append] at hx;rcases hx with hx|hx
  ·simp only [rowM,List.mem_append] at hx;rcases hx with ((hx|hx)|hx)|hx
   ·exact tagB_byte _ x hx
   all_goals exact putB_byte _ _ x hx
  ·exact rowsM_byte l _ x hx
theorem p256_2:(256:Int)^2=65536:=by decide
theorem p256_4:(256:Int)^4=4294967296:=by decide
theorem makeM_font(P:List PartD)(near most:Int)(hn:P.length≤100)(hsz:∀p∈P,p.tag.size=4)(hby:∀p∈P,∀x∈p.data,0≤x∧x≤255)(htot:atM P P.length≤1000000)
  (hri:∀(i j:Nat) p q,i<j→P[i]? =some p→P[j]? =some q→ltS p.tag q.tag=true):IsFont (makeM P near most) P:=by
 have hhead:=headM_len P.length near most;have hrl:∀i,i≤P.length→(rowsM (12+16*P.length) (P.take i)).length=16*i:=fun i hi=>by
  rw [rowsM_len _ (fun p hp=>hsz p (List.mem_of_mem_take hp)),List.length_take,Nat.min_eq_left hi]
 have hrl0:=hrl P.length (Nat.le_refl _);rw [List.take_of_length_le (Nat.le_refl _)] at hrl0;have hbl:(P.flatMap bodyM).length=atM P P.length - (12+16*P.length):=by
  unfold atM;rw [List.take_of_length_le (Nat.le_refl _)];omega
 have hal:12+16*P.length≤atM P P.length:=by unfold atM;omega
 have htl:(makeM P near most).length=atM P P.length:=by
  rw [makeM,List.length_append,List.length_append,hhead,hrl0,hbl];omega
 have hil:∀(i:Nat) p,P[i]? =some p→i<P.length:=fun i p h=>(List.getElem?_eq_some_iff.1 h).1
 refine ⟨fun x hx=> ?_,by omega,by omega, ?_, ?_,fun i p h=> ?_,fun i p h=> ?_,fun i p h=> ?_,fun i p h=> ?_,hsz,hri⟩
 ·simp only [makeM,headM,List.mem_append] at hx;rcases hx with (((((hx|hx)|hx)|hx)|hx)|hx)|hx
  ·exact putB_byte _ _ x hx
  ·exact putB_byte _ _ x hx
  ·exact putB_byte _ _ x hx
  ·exact putB_byte _ _ x hx
  ·exact putB_byte _ _ x hx
  ·exact rowsM_byte _ _ x hx
  ·obtain ⟨p,hp,hx⟩:=List.mem_flatMap.1 hx;exact bodyM_byte p (hby p hp) x hx
 ·have e:makeM P near most=[]++(putB 65536 4++(putB (P.length:Int) 2++putB near 2++putB most 2++putB (16*(P.length:Int) - near) 2++(rowsM (12+16*P.length) P++P.flatMap bodyM))):=by
   simp only [makeM,headM,List.append_assoc,List.nil_append]
  rw [e];exact be_mid _ _ _ 4 0 rfl (by omega) (by rw [p256_4];omega)
 ·have e:makeM P near most=putB 65536 4++(putB (P.length:Int) 2++(putB near 2++putB most 2++putB (16*(P.length:Int) - near) 2++(rowsM (12+16*P.length) P++P.flatMap bodyM))):=by
   simp only [makeM,headM,List.append_assoc]
  rw [e];exact be_mid _ _ _ 2 4 (by simp [putB_len]) (by omega) (by rw [p256_2];omega)
 ·obtain ⟨rest,hr⟩:=rows_cut P i p h;have e:makeM P near most=(headM P.length near most++rowsM (12+16*P.length) (P.take i))++(tagB p.tag++(putB (sumL p.data) 4++putB (atM P i:Int) 4++putB (p.data.length:Int) 4++(rest++P.flatMap bodyM))):=by
   rw [makeM,hr,rowM];simp only [List.append_assoc]
  have hp:(headM P.length near most++rowsM (12+16*P.length) (P.take i)).length=12+16*i:=by
   rw [List.length_append,hhead,hrl i (Nat.le_of_lt (hil i p h))]
  have ht:(tagB p.tag).length=4:=by rw [tagB_len];exact hsz p (List.mem_of_getElem? h)
  rw [e,←hp,List.drop_left,←ht,List.take_left]
 ·obtain ⟨rest,hr⟩:=rows_cut P i p h;have e:makeM P near most=(headM P.length near most++rowsM (12+16*P.length) (P.take i)++tagB p.tag++putB (sumL p.data) 4)++(putB (atM P i:Int) 4++(putB (p.data.length:Int) 4++(rest++P.flatMap bodyM))):=by
   rw [makeM,hr,rowM];simp only [List.append_assoc]
  have ht:(tagB p.tag).length=4:=by rw [tagB_len];exact hsz p (List.mem_of_getElem? h)
  have hi:=hil i p h;have:=atM_mono P (Nat.le_of_lt hi);rw [e];exact be_mid _ _ _ 4 _ (by simp only [List.length_append,hhead,hrl i (Nat.le_of_lt hi),ht,putB_len]) (by omega) (by rw [p256_4];omega)
 ·obtain ⟨rest,hr⟩:=rows_cut P i p h;have e:makeM P near most=(headM P.length near most++rowsM (12+16*P.length) (P.take i)++tagB p.tag++putB (sumL p.data) 4++putB (atM P i:Int) 4)++(putB (p.data.length:Int) 4++(rest++P.flatMap bodyM)):=by
   rw [makeM,hr,rowM];simp only [List.append_assoc]
  have ht:(tagB p.tag).length=4:=by rw [tagB_len];exact hsz p (List.mem_of_getElem? h)
  have hi:=hil i p h;have:=atM_data P p (List.mem_of_getElem? h);rw [e];exact be_mid _ _ _ 4 _ (by simp only [List.length_append,hhead,hrl i (Nat.le_of_lt hi),ht,putB_len]) (by omega) (by rw [p256_4];omega)
 ·obtain ⟨rest,hr⟩:=bodies_cut P i p h;have e:makeM P near most=(headM P.length near most++rowsM (12+16*P.length) P++(P.take i).flatMap bodyM)++(p.data++rest):=by
   rw [makeM,hr];simp only [List.append_assoc]
  have hp:(headM P.length near most++rowsM (12+16*P.length) P++(P.take i).flatMap bodyM).length=atM P i:=by
   rw [List.length_append,List.length_append,hhead,hrl0,atM]
  constructor
  ·rw [e,←hp,List.drop_left,List.take_left]
  ·rw [←hp,e];simp only [List.length_append];omega
end Fo
namespace Pl
section
variable {P:Program} {ops:Array Oper} {Q:Exit→Act→World→Prop} {B:Nat} {W:World}
structure ShapeD (ops:Array Oper) (fx vsI tl:List Nat):Prop where
 nodup:(fx++vsI++tl).Nodup
 all:∀i,(i∈fx∨i∈vsI∨i∈tl)→i<ops.size
 edges:∀i o,ops[i]? =some o→∀e∈o.after,Region.binds .any e=true→e.on<i
 bl1:∀i∈fx++vsI,∀j∈fx,blind ops i j=true∨∃m,waitsT .any ops m i j=true
 bl2:∀i∈fx,∀j∈vsI,blind ops i j=true
 dst:∀i∈fx++vsI,∀j∈fx++vsI,i≠j→∀t,dstOf ops i=some t→dstOf ops j≠some t
 guard:∀i∈vsI,∀o,ops[i]? =some o→o.guard=none
theorem ready_neD{listed:Array Bool}{fx vsI tl:List Nat}(sh:ShapeD ops fx vsI tl)(hs:listed.size=ops.size):∀i,i<ops.size→listed.getD i true=false→Region.ready .any ops listed≠[]:=by
 intro i;induction i using Nat.strongRecOn with
 |_ i ih=>
  intro hi hl;by_cases hr:i∈Region.ready .any ops listed
  ·intro h;rw [h] at hr;cases hr
  ·obtain ⟨o,ho⟩:∃o,ops[i]? =some o:=⟨_,Array.getElem?_eq_getElem hi⟩;have:¬∀e∈o.after,Region.binds .any e=true→listed.getD e.on false=true:=fun h=>hr (mem_ready.2 ⟨hl,o,ho,h⟩)
   simp only [Classical.not_forall] at this;obtain ⟨e,he,hb,hne⟩:=this;have hlt:=sh.edges i o ho e he hb;refine ih e.on hlt (by omega) ?_
   have h1:e.on<listed.size:=by omega
   simp [h1] at hne ⊢;exact hne
theorem coreD{A1:Act}{V:Nat→VP}{Z:List PanicEntry→World→Prop}{fx vsI tl:List Nat}(hsel:∀(j:Nat) (o:Oper) cs b,ops[j]? =some o→o.op≠.select cs b)(hB0:B≤W.heap.size)(sh:ShapeD ops fx vsI tl)(hvn:vsI.Nodup)
  (hZ:∀c (a':Act) w,a'.defers=A1.defers→Z c w→Q (.panic c) a' w)
  (hfx:∀i∈fx,∃o,ops[i]? =some o∧YG P ops B W o (valOf ops A1 i) A1)
  (hst:∀i∈vsI,∀v w w',V i v w→Below B W w→Below w.heap.size w w'→V i v w')
  (hvs : ∀ i ∈ vsI, ∃ o, ops[i]? = some o ∧ ∀ (q : List (Nat × Value)) w, Below B W w → (∀ x ∈ q, V x.1 x.2 w) → (q.map Prod.fst).Nodup → (∀ x ∈ q, x.1 ∈ vsI) → (∀ j ∈ vsI, (∃ m, waitsT .any ops m i j = true) → j ∈ q.map Prod.fst) →
   valsAt P (fun u w'=>Below w.heap.size w w'∧V i u w') Z ((execOp (fillV ops A1 q).eval o).run P w))
  (htl:∀t∈tl,(∀h∈fx++vsI,∃m,waitsT .any ops m t h=true)∨∃k∈vsI,(∃m,waitsT .any ops m t k=true)∧∀v w,¬V k v w)
  (hend:∀(listed:Array Bool) (q:List (Nat×Value)) (w:World),Below B W w→(q.map Prod.fst).Perm vsI→(∀x∈q,V x.1 x.2 w)→listed.size=ops.size→(∀i,listed.getD i true=false↔i∈tl)→wpAnyF P .any ops Q (Below B W) tl tl.length listed (fillV ops A1 q) w):
  ∀(k:Nat) (listed:Array Bool) (a:Act) (w:World) (p pv:List Nat) (q:List (Nat×Value)),k=p.length+pv.length→St P ops B W A1 V fx vsI tl listed a w p pv q→wpAnyF P .any ops Q (Below B W) tl (k+tl.length) listed a w:=by
 intro k;induction k with
 |zero=>
  intro listed a w p pv q hk st;have hp:p=[]:=List.length_eq_zero_iff.1 (by omega)
  have hpv:pv=[]:=List.length_eq_zero_iff.1 (by omega)
  subst hp hpv;have hA:a=fillV ops A1 q:=st.eqA;rw [Nat.zero_add,hA];exact hend listed q w st.bel (by simpa using st.vn) st.qok st.closed.1 (fun i=>by simpa using st.un i)
 |succ k ih=>
  intro listed a w p pv q hk st;rw [show k+1+tl.length=(k+tl.length)+1 by omega]
  have hqv:∀x∈q,x.1∈vsI:=fun x hx=>st.vn.mem_iff.1 (by simp;exact .inr ⟨x.2,hx⟩)
  have hvi:∀i∈pv,i∈vsI:=fun i hi=>st.vn.mem_iff.1 (by simp [hi])
  have hlt:∀i,i∈p∨i∈pv→i<ops.size:=fun i hi=>sh.all i (hi.elim (fun h=>.inl (st.ps i h)) (fun h=>.inr (.inl (hvi i h))))
  have hex:∃i,i∈p∨i∈pv:=by
   cases p with
   |cons i p=>exact ⟨i,.inl (by simp)⟩
   |nil=>
    cases pv with
    |cons i pv=>exact ⟨i,.inr (by simp)⟩
    |nil=>simp at hk
  have hne:Region.ready .any ops listed≠[]:=by
   obtain ⟨i,hi⟩:=hex;exact ready_neD sh st.closed.1 i (hlt i hi) ((st.un i).2 (hi.elim .inl (fun h=>.inr (.inl h))))
  refine ⟨fun h=>absurd h hne,fun i hi=> ?_⟩
  obtain ⟨hun,oi,hoi,hall⟩:=mem_ready.1 hi;have hdo:dstOf ops i=oi.dst:=by simp [dstOf,hoi]
  have evalV:(i∈fx++vsI)→execOp a.eval oi=execOp (fillV ops A1 q).eval oi∧Region.wanted oi (yielded ops a.tmps)=Region.wanted oi (yielded ops (fillV ops A1 q).tmps):=by
   intro hh;have h1:=eval_fillF (A1:=A1) hoi (fun cs b=>hsel i oi cs b hoi) p a (fun j hj=>by
    rcases sh.bl1 i hh j (st.ps j hj) with h|⟨m,h⟩
    ·exact h
    ·exact absurd (waitsT_ready st.closed hi h) (fun h2=>not_both ((st.un j).2 (.inl hj)) h2))
   rw [st.eqA] at h1;exact ⟨h1.1.symm,h1.2.symm⟩
  have evals:(i∈fx)→execOp a.eval oi=execOp A1.eval oi∧Region.wanted oi (yielded ops a.tmps)=Region.wanted oi (yielded ops A1.tmps):=by
   intro hh;have h1:=evalV (by simp [hh])
   have h2:=eval_fillV hoi (fun cs b=>hsel i oi cs b hoi) q A1 (fun x hx=>sh.bl2 i hh x.1 (hqv x hx))
   exact ⟨h1.1.trans h2.1,h1.2.trans h2.2⟩
  rcases (st.un i).1 hun with hip|hipv|hitl
  · -- a fixed one
   obtain ⟨e1,e2⟩:=evals (st.ps i hip);obtain ⟨o',ho',hy⟩:=hfx i (st.ps i hip);rw [hoi] at ho';cases ho';refine wpOp_YG hoi e1 e2 hy st.bel fun w' hw'=>⟨fun _ hb=>hb.trans (hw'.mono (Nat.le_trans hB0 hb.size)), ?_⟩
   have hperm:p.Perm (i::p.erase i):=List.perm_cons_erase hip;refine ih _ _ w' (p.erase i) pv q (by have:=hperm.length_eq;simp at this;omega) ⟨st.closed.set hi,fun j=> ?_,st.pn.erase i,fun j hj=>st.ps j (List.mem_of_mem_erase hj),st.vn, ?_,fun x hx=>hst x.1 (hqv x hx) _ _ _ (st.qok x hx) st.bel hw',st.bel.trans (hw'.mono (Nat.le_trans hB0 st.bel.size)),(put_defers _ _ _).trans st.dfr⟩
   ·by_cases hij:i=j
    ·subst hij;have h1:i<listed.size:=by rw [st.closed.1];exact hlt i (.inl hip)
     have h2:i∉p.erase i:=fun h=>((List.Nodup.mem_erase_iff st.pn).1 h).1 rfl
     have h3:=sh.nodup;have h4:i∉vsI∧i∉tl:=by
      have h5:=st.ps i hip;simp only [List.nodup_append,List.mem_append] at h3;exact ⟨fun h=>h3.1.2.2 i h5 i h rfl,fun h=>h3.2.2 i (.inl h5) i h rfl⟩
     have h6:i∉pv:=fun h=>h4.1 (hvi i h)
     simp [h1,h2,h6,h4.2]
    ·rw [getD_set_ne true hij,st.un j];have:j∈p.erase i↔j∈p:=by rw [List.Nodup.mem_erase_iff st.pn];simp [Ne.symm hij]
     rw [this]
   ·have h1:=fillF_perm (A1:=A1) hperm (fun x hx y hy hxy=>sh.dst x (by simp [st.ps x hx]) y (by simp [st.ps y hy]) hxy) a
    rw [←st.eqA,h1,←hdo];rfl
  · -- one that is known by a predicate
   have hiv:=hvi i hipv;have hh:i∈fx++vsI:=by simp [hiv]
   obtain ⟨e1,e2⟩:=evalV hh;have hqn:(q.map Prod.fst).Nodup:=by
    have:=(st.vn.nodup_iff).2 hvn;exact (List.nodup_append.1 this).2.1
   have hdep:∀j∈vsI,(∃m,waitsT .any ops m i j=true)→j∈q.map Prod.fst:=by
    intro j hj ⟨m,hm⟩;have h1:=waitsT_ready st.closed hi hm;have h2:j∈pv++q.map Prod.fst:=st.vn.mem_iff.2 hj;rcases List.mem_append.1 h2 with h2|h2
    ·exact absurd h1 (fun h=>not_both ((st.un j).2 (.inr (.inl h2))) h)
    ·exact h2
   obtain ⟨o',ho',hy⟩:=hvs i hiv;rw [hoi] at ho';cases ho';refine wpOp_vals hoi (sh.guard i hiv oi hoi) e1 (hy q w st.bel st.qok hqn hqv hdep) (fun c w' hz=>hZ c a w' st.dfr hz) fun u w' ⟨hw',hV⟩=>⟨fun _ hb=>hb.trans (hw'.mono (Nat.le_trans hB0 hb.size)), ?_⟩
   have hperm:pv.Perm (i::pv.erase i):=List.perm_cons_erase hipv;have hvn2:(pv.erase i++(q++[(i,u)]).map Prod.fst).Perm vsI:=by
    refine List.Perm.trans ?_ st.vn;rw [List.map_append,←List.append_assoc];refine List.Perm.trans List.perm_append_comm ?_;exact (List.Perm.append_right (q.map Prod.fst) hperm).symm
   have hpvn:pv.Nodup:=by
    have:=(st.vn.nodup_iff).2 hvn;exact (List.nodup_append.1 this).1
   refine ih _ _ w' p (pv.erase i) (q++[(i,u)]) (by have:=hperm.length_eq;simp at this;omega) ⟨st.closed.set hi,fun j=> ?_,st.pn,st.ps,hvn2, ?_,fun x hx=> ?_,st.bel.trans (hw'.mono (Nat.le_trans hB0 st.bel.size)),(put_defers _ _ _).trans st.dfr⟩
   ·by_cases hij:i=j
    ·subst hij;have h1:i<listed.size:=by rw [st.closed.1];exact hlt i (.inr hipv)
     have h2:i∉pv.erase i:=fun h=>((List.Nodup.mem_erase_iff hpvn).1 h).1 rfl
     have h3:=sh.nodup;simp only [List.nodup_append,List.mem_append] at h3;have h4:i∉p:=fun h=>h3.1.2.2 i (st.ps i h) i hiv rfl
     have h5:i∉tl:=fun h=>h3.2.2 i (.inr hiv) i h rfl
     simp [h1,h2,h4,h5]
    ·rw [getD_set_ne true hij,st.un j];have:j∈pv.erase i↔j∈pv:=by rw [List.Nodup.mem_erase_iff hpvn];simp [Ne.symm hij]
     rw [this]
   ·have h1:=fillF_put (A1:=A1) (ops:=ops) (d:=oi.dst) (v:=u) p a (fun j hj t ht=>by
     have h3:=sh.nodup;simp only [List.nodup_append,List.mem_append] at h3;have hne:i≠j:=fun h=>h3.1.2.2 j (st.ps j hj) i hiv h.symm
     exact sh.dst i hh j (by simp [st.ps j hj]) hne t (by rw [hdo];exact ht))
    rw [h1,st.eqA];exact fillV_put q A1 hdo
   ·rcases List.mem_append.1 hx with hx|hx
    ·exact hst x.1 (hqv x hx) _ _ _ (st.qok x hx) st.bel hw'
    ·have:x=(i,u):=by simpa using hx
     subst this;exact hV
  · -- the tail waits
   exfalso;obtain ⟨j,hj⟩:=hex;have hjh:j∈fx++vsI:=by
    rcases hj with h|h
    ·simp [st.ps j h]
    ·simp [hvi j h]
   have hju:listed.getD j true=false:=(st.un j).2 (hj.elim .inl (fun h=>.inr (.inl h)))
   rcases htl i hitl with h|⟨k',hk',⟨m,hm⟩,hV⟩
   ·obtain ⟨m,hm⟩:=h j hjh;exact not_both hju (waitsT_ready st.closed hi hm)
   ·have h1:=waitsT_ready st.closed hi hm;have h2:k'∈pv++q.map Prod.fst:=st.vn.mem_iff.2 hk';rcases List.mem_append.1 h2 with h2|h2
    ·exact not_both ((st.un k').2 (.inr (.inl h2))) h1
    ·obtain ⟨x,hx,rfl⟩:=List.mem_map.1 h2;exact hV _ _ (st.qok x hx)
def regBD(ops:Array Oper)(ntmps:Nat)(fl fx:List Nat)(vs:List (Nat×Tmp))(tl:List Nat)(halt:Option Nat):Bool:=
 Region.noSelect ops&&
 decide ((fl++(fx++vs.map Prod.fst++tl)).Nodup)&&(List.range ops.size).all (fun i=>(fl++(fx++vs.map Prod.fst++tl)).contains i)&&(fl++(fx++vs.map Prod.fst++tl)).all (fun i=>decide (i<ops.size))&&
 (List.range ops.size).all (fun i=>match ops[i]? with
  |some o=>o.after.all fun e=> !Region.binds .any e||decide (e.on<i)
  |none=>true)&&
 (fx++vs.map Prod.fst).all (fun i=>fx.all fun j=>blind ops i j||waitsT .any ops ops.size i j)&&
 fx.all (fun i=>(vs.map Prod.fst).all fun j=>blind ops i j)&&
 (fx++vs.map Prod.fst).all (fun i=>(fx++vs.map Prod.fst).all fun j=>i==j||match dstOf ops i with
  |some t=>dstOf ops j !=some t
  |none=>true)&&
 vs.all (fun x=>(match ops[x.1]? with
  |some o=>o.guard.isNone
  |none=>false)&&dstOf ops x.1==some x.2)&&
 (match halt with
  |none=>(tl.all fun t=>(fx++vs.map Prod.fst).all fun h=>waitsT .any ops ops.size t h)&&seqT ops tl ((Array.range ops.size).map fun i=> !tl.contains i)
  |some k=>(vs.map Prod.fst).contains k&&tl.all fun t=>waitsT .any ops ops.size t k)&&
 (fl++fx).all (fun i=>blind ops i i&&match dstOf ops i with
  |some d=>decide (d<ntmps)
  |none=>false)&&
 pairsB ops (fl++fx)&&floatB ops fl (Array.replicate ops.size false)&&fl.all (fun i=>(fl++fx).all fun j=>blind ops i j)
theorem region_regD{id:Nat}{a:Act}{w:World}{l:List Oper}(ntmps:Nat)(fl fx:List Nat)(vs:List (Nat×Tmp))(tl:List Nat)(halt:Option Nat)(A1:Act)(V:Nat→VP)(Z:List PanicEntry→World→Prop)
  (hm:P.follows .mixedOrders=true) (hB:regBD l.toArray ntmps fl fx vs tl halt=true) (hnt:ntmps≤a.tmps.size)
  (hQ:∀c a a' w,Act.defers a=Act.defers a'→Q (.panic c) a w→Q (.panic c) a' w)
  (h1:∀(I:Type) (F:I→World),Nonempty I→((∀i u,Below (F i).heap.size (F i) u→∃j,u=F j)∧∀i,Below w.heap.size w (F i))→wpQuiet P l.toArray (fun u=>∃i,u=F i) (fun a'=>a'=A1) (selN l (fl++fx)) a)
  (hst:∀x∈vs,∀v u u',V x.1 v u→Below w.heap.size w u→Below u.heap.size u u'→V x.1 v u')
  (hvs : ∀ x ∈ vs, ∀ o ∈ selN l [x.1], ∀ (q : List (Nat × Value)) u, Below w.heap.size w u → (∀ y ∈ q, V y.1 y.2 u) → (q.map Prod.fst).Nodup → (∀ y ∈ q, y.1 ∈ vs.map Prod.fst) → (∀ j ∈ vs.map Prod.fst, (∃ m, waitsT .any l.toArray m x.1 j = true) → j ∈ q.map Prod.fst) →
   valsAt P (fun v u'=>Below u.heap.size u u'∧V x.1 v u') Z ((execOp (fillV l.toArray A1 q).eval o).run P u))
  (hZ:∀c (a':Act) u,a'.defers=a.defers→Z c u→Q (.panic c) a' u)
  (hhalt:∀k,halt=some k→∀v u,¬V k v u)
  (hend:halt=none→∀(f:Nat→Value) u,Below w.heap.size w u→(∀x∈vs,V x.1 (f x.1) u)→wpList P l.toArray Q (selN l tl) (vs.foldl (fun a x=>a.put (some x.2) (f x.1)) A1) u):(Code.region id l.toArray true).wp P Q a w:=by
 simp only [regBD,Bool.and_eq_true,List.all_eq_true,decide_eq_true_eq,List.mem_range,Bool.or_eq_true] at hB;obtain ⟨⟨⟨⟨⟨⟨⟨⟨⟨⟨⟨⟨⟨c1,c2⟩,c3⟩,c4⟩,c5⟩,c6⟩,c7⟩,c8⟩,c9⟩,c10⟩,c11⟩,c12⟩,c13⟩,c14⟩:=hB;have hsel:=Region.noSelect_spec c1;have hlen:l.toArray.size=l.length:=by simp
 have c4':∀i∈fl++(fx++vs.map Prod.fst++tl),i<l.length:=fun i hi=>by have:=c4 i hi;omega
 have hfits:∀c:List Nat,(∀i∈c,i∈fl++(fx++vs.map Prod.fst++tl))→fitsN l.toArray c (selN l c):=fun c hc=>fits_selN c (fun i hi=>c4' i (hc i hi))
 have hff:=hfits (fl++fx) (fun i hi=>by simp at hi ⊢;rcases hi with h|h<;>simp [h])
 have hpair:=pairsB_spec _ c12;have hdd:∀i∈fl++fx,blind l.toArray i i=true∧∃d,dstOf l.toArray i=some d∧d<a.tmps.size:=fun i hi=>by
  have:=c11 i hi;refine ⟨this.1, ?_⟩;cases hd:dstOf l.toArray i with
  |none=>rw [hd] at this;cases this.2
  |some d=>
   rw [hd] at this;have h2:d<ntmps:=by simpa using this.2
   exact ⟨d,rfl,Nat.lt_of_lt_of_le h2 hnt⟩
 have hfixed:=fixed_all (P:=P) (B:=w.heap.size) (W:=w) hsel (fl++fx) _ a hff h1 hpair hdd (Nat.le_refl _);have hA0:=act_of_walk hsel (fl++fx) _ a hff (h1 { u:World // Below w.heap.size w u } (fun x=>x.1) ⟨⟨w,Below.refl _ _⟩⟩ ⟨fun x u hu=>⟨⟨u,x.2.trans (hu.mono x.2.size)⟩,rfl⟩,fun x=>x.2⟩) hpair hdd
 have hslot:=walk_slot (A1:=A1) ntmps [] [] A1 trivial (C:=fun _=>True) (P:=P) (ops:=l.toArray) rfl (by simp)
 have hdefA:A1.defers=a.defers:=by
  have key:∀(c:List Nat) (b:Act),(fillF l.toArray A1 b c).defers=b.defers:=by
   intro c;induction c with
   |nil=>intro b;rfl
   |cons i c ih=>intro b;show (fillF l.toArray A1 (b.put _ _) c).defers=b.defers;rw [ih,put_defers]
  rw [hA0];exact key _ _
 -- the shape of what is left behind the floaters
 have hnd:=List.nodup_append.1 c2;have sh:ShapeD l.toArray fx (vs.map Prod.fst) tl:=by
  refine ⟨hnd.2.1,fun i hi=>c4 i (by simp at hi ⊢;rcases hi with h|h|h<;>simp [h]),fun i o ho e he hb=> ?_,fun i hi j hj=> ?_,fun i hi j hj=>c7 i hi j hj,fun i hi j hj hne t ht=> ?_,fun i hi o ho=> ?_⟩
  ·have hi:i<l.toArray.size:=(Array.getElem?_eq_some_iff.1 ho).1;have h2:=c5 i hi;rw [ho] at h2;have h3:=Array.all_eq_true'.1 h2 e he;simp [hb] at h3;exact h3
  ·rcases c6 i hi j hj with h|h
   ·exact .inl h
   ·exact .inr ⟨_,h⟩
  ·have h2:=c8 i hi j hj;rw [ht] at h2;simpa [hne] using h2
  ·obtain ⟨x,hx,rfl⟩:=List.mem_map.1 hi;have h2:=(c9 x hx).1;rw [ho] at h2;simpa using h2
 have hvn:(vs.map Prod.fst).Nodup:=(List.nodup_append.1 (List.nodup_append.1 hnd.2.1).1).2.1;have hfx:∀i∈fx,∃o,l.toArray[i]? =some o∧YG P l.toArray w.heap.size w o (valOf l.toArray A1 i) A1:=fun i hi=>hfixed i (by simp [hi])
 have hopAt:∀i,i<l.length→∃o,l.toArray[i]? =some o∧selN l [i]=[o]:=fun i hi=>by
  have h2:=fits_selN (l:=l) [i] (by simpa using hi)
  unfold selN at h2 ⊢;cases hd:l.drop i with
  |nil=>simp at hd;omega
  |cons o r=>rw [hd] at h2;exact ⟨o,h2.1,rfl⟩
 have hvs':∀i∈vs.map Prod.fst,∃o,l.toArray[i]? =some o∧∀(q:List (Nat×Value)) u,Below w.heap.size w u→(∀y∈q,V y.1 y.2 u)→(q.map Prod.fst).Nodup→(∀y∈q,y.1∈vs.map Prod.fst)→(∀j∈vs.map Prod.fst,(∃m,waitsT .any l.toArray m i j=true)→j∈q.map Prod.fst)→
   valsAt P (fun v u'=>Below u.heap.size u u'∧V i v u') Z ((execOp (fillV l.toArray A1 q).eval o).run P u):=fun i hi=>by
  obtain ⟨x,hx,rfl⟩:=List.mem_map.1 hi;obtain ⟨o,ho,hs⟩:=hopAt x.1 (c4' _ (by simp;exact .inr (.inr (.inl ⟨x.2,hx⟩))))
  exact ⟨o,ho,hvs x hx o (by rw [hs];simp)⟩
 have hst':∀i∈vs.map Prod.fst,∀v u u',V i v u→Below w.heap.size w u→Below u.heap.size u u'→V i v u':=fun i hi=>by
  obtain ⟨x,hx,rfl⟩:=List.mem_map.1 hi;exact hst x hx
 have htl:∀t∈tl,(∀h∈fx++vs.map Prod.fst,∃m,waitsT .any l.toArray m t h=true)∨∃k∈vs.map Prod.fst,(∃m,waitsT .any l.toArray m t k=true)∧∀v u,¬V k v u:=fun t ht=>by
  cases hh:halt with
  |none=>
   rw [hh] at c10;simp only [Bool.and_eq_true,List.all_eq_true] at c10;exact .inl fun h hm=>⟨_,c10.1 t ht h hm⟩
  |some k=>
   rw [hh] at c10;simp only [Bool.and_eq_true,List.all_eq_true] at c10;exact .inr ⟨k,by simpa using c10.1,⟨_,c10.2 t ht⟩,hhalt k hh⟩
 have hfin:∀(listed:Array Bool) (q:List (Nat×Value)) (u:World),Below w.heap.size w u→(q.map Prod.fst).Perm (vs.map Prod.fst)→(∀x∈q,V x.1 x.2 u)→listed.size=l.toArray.size→(∀i,listed.getD i true=false↔i∈tl)→
   wpAnyF P .any l.toArray Q (Below w.heap.size w) tl tl.length listed (fillV l.toArray A1 q) u:=by
  intro listed q u hu hq hqv hls hun;cases hh:halt with
  |some k=>
   exfalso;rw [hh] at c10;simp only [Bool.and_eq_true,List.all_eq_true] at c10;have hk:k∈q.map Prod.fst:=hq.mem_iff.2 (by simpa using c10.1)
   obtain ⟨x,hx,rfl⟩:=List.mem_map.1 hk;exact hhalt _ hh _ _ (hqv x hx)
  |none=>
   rw [hh] at c10;simp only [Bool.and_eq_true,List.all_eq_true] at c10;have hL:listed=(Array.range l.toArray.size).map fun i=> !tl.contains i:=by
    refine Array.ext (by simpa using hls) (fun i hi1 hi2=> ?_)
    have h2:=hun i;simp [hi1] at h2;simp;by_cases hi:i∈tl
    ·simp [hi,h2.2 hi]
    ·have h3:¬listed[i]=false:=fun h=>hi (h2.1 h)
     simp [hi];simpa using h3
   refine wpAnyF_seq tl (selN l tl) listed _ u (hfits tl (fun i hi=>by simp [hi])) (fun t ht=>ht) (by rw [hL];exact c10.2) ?_
   -- the values by number
   have hqn:(q.map Prod.fst).Nodup:=(hq.nodup_iff).2 hvn;obtain ⟨f,hf⟩:∃f:Nat→Value,∀x∈q,f x.1=x.2:=by
    refine ⟨fun i=>((q.find? fun x=>x.1==i).map Prod.snd).getD undef,fun x hx=> ?_⟩
    have:q.find? (fun y=>y.1==x.1)=some x:=by
     clear hq hqv;induction q with
     |nil=>cases hx
     |cons y q ih=>
      simp only [List.map_cons,List.nodup_cons] at hqn;by_cases hyx:y.1=x.1
      ·rcases List.mem_cons.1 hx with h|h
       ·subst h;simp
       ·exact absurd (List.mem_map.2 ⟨x,h,hyx.symm⟩) hqn.1
      ·have hx':x∈q:=by
        rcases List.mem_cons.1 hx with h|h
        ·subst h;exact absurd rfl hyx
        ·exact h
       rw [List.find?_cons_of_neg (by simpa using hyx)]
       exact ih hqn.2 hx'
    simp [this]
   have hq2:q=(q.map Prod.fst).map fun i=>(i,f i):=by
    rw [List.map_map]
    conv=>lhs;rw [←List.map_id q]
    exact List.map_congr_left fun x hx=>by simp [hf x hx]
   have hperm:q.Perm ((vs.map Prod.fst).map fun i=>(i,f i)):=by
    rw [hq2];exact hq.map _
   have hfill:fillV l.toArray A1 q=vs.foldl (fun a x=>a.put (some x.2) (f x.1)) A1:=by
    rw [fillV_perm hperm (fun x hx y hy hxy t ht=> ?_) A1]
    ·have key:∀(c:List (Nat×Tmp)) (b:Act),(∀x∈c,dstOf l.toArray x.1=some x.2)→fillV l.toArray b ((c.map Prod.fst).map fun i=>(i,f i))=c.foldl (fun a x=>a.put (some x.2) (f x.1)) b:=by
      intro c;induction c with
      |nil=>intro b _;rfl
      |cons x c ih=>
       intro b hc;show fillV l.toArray (b.put (dstOf l.toArray x.1) (f x.1)) _=_
       rw [hc x (by simp),ih _ (fun y hy=>hc y (by simp [hy]))]
       rfl
     exact key vs A1 (fun x hx=>by simpa using (c9 x hx).2)
    ·have hxm:=hq.mem_iff.1 (List.mem_map.2 ⟨x,hx,rfl⟩);have hym:=hq.mem_iff.1 (List.mem_map.2 ⟨y,hy,rfl⟩);have hne:x.1≠y.1:=fun h=>hxy (by
      have h2:=hf x hx;have h3:=hf y hy;rw [h] at h2;exact Prod.ext h (h2.symm.trans h3))
     exact sh.dst x.1 (by simp only [List.mem_append];exact .inr hxm) y.1 (by simp only [List.mem_append];exact .inr hym) hne t ht
   rw [hfill];refine hend hh f u hu fun x hx=> ?_
   have hxm:x.1∈q.map Prod.fst:=hq.mem_iff.2 (List.mem_map.2 ⟨x,hx,rfl⟩);obtain ⟨y,hy,hyx⟩:=List.mem_map.1 hxm;have:=hqv y hy;rw [←hf y hy,hyx] at this;exact this
 refine wp_region_any hm ?_;change wpAny P .any l.toArray Q _ _ a w.drew;have hcl0:Closed .any l.toArray (Array.replicate l.toArray.size false):=⟨by simp,fun j oj _ hl=>(by rw [getD_replicate_false] at hl;cases hl)⟩
 have hlenp:l.toArray.size=fl.length+((fx.length+(vs.map Prod.fst).length)+tl.length):=by
  have h2:(fl++(fx++vs.map Prod.fst++tl)).Perm (List.range l.toArray.size):=by
   refine (List.perm_ext_iff_of_nodup c2 List.nodup_range).2 fun i=>⟨fun hi=>List.mem_range.2 (c4 i hi),fun hi=> ?_⟩
   have:=c3 i (List.mem_range.1 hi);simpa using this
  have h3:=h2.length_eq;simp only [List.length_append,List.length_range] at h3;omega
 have hblf:∀i∈fl,∀j∈fl++fx,blind l.toArray i j=true:=fun i hi j hj=>c14 i hi j hj
 have hF:=float_first (P:=P) (B:=w.heap.size) (W:=w) (S:=Below w.heap.size w) (tl:=tl) (A1:=A1) c1 hQ fl ((fx.length+(vs.map Prod.fst).length)+tl.length) (Array.replicate l.toArray.size false) a w.drew hcl0 c13
  (fun i hi => by
   obtain ⟨o,ho,hy⟩:=hfixed i (by simp [hi])
   have h2:=eval_fillF (A1:=A1) ho (fun cs b=>hsel i o cs b ho) (fl++fx) a (fun j hj=>hblf i hi j hj)
   rw [←hA0] at h2;exact ⟨o,ho,hy,h2.1.symm,h2.2.symm⟩)
  (fun i hi j hj=>hblf i hi j (by simp [hj])) ?_
 ·have h9:=wpAny_of_F _ _ _ _ hF;rw [←hlenp] at h9;exact h9
 ·intro listed hc he;refine coreD (Z:=Z) (V:=V) (fx:=fx) (vsI:=vs.map Prod.fst) hsel (Nat.le_refl _) sh hvn (fun c a' u hd hz=>hZ c a' u (hd.trans hdefA) hz) hfx hst' hvs' htl hfin _ listed _ w.drew fx (vs.map Prod.fst) [] rfl
   ⟨hc,fun i=> ?_,(List.nodup_append.1 (List.nodup_append.1 hnd.2.1).1).1,fun i hi=>hi,by simp, ?_,by simp,(Below.refl _ _).drew, ?_⟩
  ·rw [he,(set_fold fl _ i).1];by_cases hi:i∈fl
   ·have h2:¬(i∈fx∨i∈vs.map Prod.fst∨i∈tl):=fun h=>hnd.2.2 i hi i (by simp only [List.mem_append];rcases h with h|h|h<;>simp [h]) rfl
    simp only [hi,if_true];exact ⟨fun h=>(by cases h),fun h=>absurd h h2⟩
   ·rw [if_neg hi];rcases Nat.lt_or_ge i l.toArray.size with h|h
    ·have h2:=c3 i h;simp only [List.contains_iff_mem,List.mem_append,hi,false_or] at h2;rw [getD_in (by simpa using h) (getD_replicate_false _ _)]
     simp only [true_iff];rcases h2 with (h2|h2)|h2<;>simp [h2]
    ·have h2:¬(i∈fx∨i∈vs.map Prod.fst∨i∈tl):=fun h2=>by
      have:=c4 i (by simp only [List.mem_append];rcases h2 with h2|h2|h2<;>simp [h2])
      omega
     have h3:(Array.replicate l.toArray.size false).getD i true=true:=by
      rw [Array.getD_eq_getD_getElem?,Array.getElem?_eq_none (by simpa using h)];rfl
     rw [h3];exact ⟨fun h=>(by cases h),fun h=>absurd h h2⟩
  ·have h2:fillF l.toArray A1 (fillF l.toArray A1 a fl) fx=fillF l.toArray A1 a (fl++fx):=by unfold fillF;rw [List.foldl_append]
   rw [h2,←hA0];rfl
  ·have key:∀(c:List Nat) (b:Act),(fillF l.toArray A1 b c).defers=b.defers:=by
    intro c;induction c with
    |nil=>intro b;rfl
    |cons i c ih=>intro b;show (fillF l.toArray A1 (b.put _ _) c).defers=b.defers;rw [ih,put_defers]
   rw [key,hdefA]
theorem eval_dep{i j:Nat}{v:Value}{o:Oper}(hi:ops[i]? =some o)(hsel:∀cs b,o.op≠.select cs b):∀(q:List (Nat×Value)) (A:Act),(q.map Prod.fst).Nodup→(j,v)∈q→(∀x∈q,x.1≠j→blind ops i x.1=true∧∀t,dstOf ops x.1=some t→dstOf ops j≠some t)→
  execOp (fillV ops A q).eval o=execOp (A.put (dstOf ops j) v).eval o
 |[],_,_,h,_=>by cases h
 |x::q,A,hn,hx,hb=>by
  simp only [List.map_cons,List.nodup_cons] at hn;by_cases hxj:x.1=j
  ·have hxe:x=(j,v):=by
    rcases List.mem_cons.1 hx with h|h
    ·exact h.symm
    ·exact absurd (List.mem_map.2 ⟨(j,v),h,hxj.symm⟩) hn.1
   subst hxe;exact (eval_fillV hi hsel q (A.put (dstOf ops j) v) (fun y hy=>(hb y (by simp [hy]) (fun e=>hn.1 (List.mem_map.2 ⟨y,hy,e⟩))).1)).1
  ·have hx':(j,v)∈q:=by
    rcases List.mem_cons.1 hx with h|h
    ·exact absurd (by rw [←h]) hxj
    ·exact h
   have h1:=eval_dep hi hsel q (A.put (dstOf ops x.1) x.2) hn.2 hx' (fun y hy=>hb y (by simp [hy]))
   obtain ⟨h2,h3⟩:=hb x (by simp) hxj
   refine Eq.trans h1 ?_;rw [Act.put_comm A x.2 v (fun t ht e=>h3 t ht e)]
   exact execOp_put o hsel _ _ _ (blind_spec hi h2)
def neD(ops:Array Oper)(x j:Nat):Bool:=match dstOf ops x with
 |some t=>dstOf ops j !=some t
 |none=>true
theorem neD_spec{x j:Nat}(h:neD ops x j=true):∀t,dstOf ops x=some t→dstOf ops j≠some t:=by
 intro t ht;unfold neD at h;rw [ht] at h;simpa using h
def dep4(ops:Array Oper)(k1 d1 k2 k3 d3 k4:Nat):Bool:=
 [k1,k2].all (fun i=>[k1,k2,k3,k4].all fun j=>blind ops i j)&&
 (waitsT .any ops ops.size k3 k1&&[k2,k3,k4].all (fun j=>blind ops k3 j&&neD ops j k1))&&
 (waitsT .any ops ops.size k4 k3&&[k1,k2,k4].all (fun j=>blind ops k4 j&&neD ops j k3))&&
 (dstOf ops k1==some d1&&dstOf ops k3==some d3)&&decide ([k1,k2,k3,k4].Nodup)
theorem region_v4d{id:Nat}{a:Act}{w:World}{l:List Oper}(ntmps:Nat)(fl fx:List Nat)(k1:Nat)(d1:Tmp)(k2:Nat)(d2:Tmp)(k3:Nat)(d3:Tmp)(k4:Nat)(d4:Tmp)(tl:List Nat)(A1:Act)(V1 V2 V3 V4:VP)
  (hm:P.follows .mixedOrders=true) (hB:regBD l.toArray ntmps fl fx [(k1,d1),(k2,d2),(k3,d3),(k4,d4)] tl none=true) (hD:dep4 l.toArray k1 d1 k2 k3 d3 k4=true) (hnt:ntmps≤a.tmps.size)
  (hQ:∀c a a' w,Act.defers a=Act.defers a'→Q (.panic c) a w→Q (.panic c) a' w)
  (h1:∀(I:Type) (F:I→World),Nonempty I→Fam w F→wpQuiet P l.toArray (fun u=>∃i,u=F i) (fun a'=>a'=A1) (selN l (fl++fx)) a)
  (hs1:∀v u u',V1 v u→Below w.heap.size w u→Below u.heap.size u u'→V1 v u') (hs2:∀v u u',V2 v u→Below w.heap.size w u→Below u.heap.size u u'→V2 v u')
  (hs3:∀v u u',V3 v u→Below w.heap.size w u→Below u.heap.size u u'→V3 v u') (hs4:∀v u u',V4 v u→Below w.heap.size w u→Below u.heap.size u u'→V4 v u')
  (hv1:∀o∈selN l [k1],∀u,Below w.heap.size w u→valsAt P (fun v u'=>Below u.heap.size u u'∧V1 v u') (fun _ _=>False) ((execOp A1.eval o).run P u))
  (hv2:∀o∈selN l [k2],∀u,Below w.heap.size w u→valsAt P (fun v u'=>Below u.heap.size u u'∧V2 v u') (fun _ _=>False) ((execOp A1.eval o).run P u))
  (hv3:∀o∈selN l [k3],∀v u,Below w.heap.size w u→V1 v u→valsAt P (fun v u'=>Below u.heap.size u u'∧V3 v u') (fun _ _=>False) ((execOp (A1.put (some d1) v).eval o).run P u))
  (hv4:∀o∈selN l [k4],∀v u,Below w.heap.size w u→V3 v u→valsAt P (fun v u'=>Below u.heap.size u u'∧V4 v u') (fun _ _=>False) ((execOp (A1.put (some d3) v).eval o).run P u))
  (hend:∀v1 v2 v3 v4 u,Below w.heap.size w u→V1 v1 u→V2 v2 u→V3 v3 u→V4 v4 u→wpList P l.toArray Q (selN l tl) ((((A1.put (some d1) v1).put (some d2) v2).put (some d3) v3).put (some d4) v4) u):(Code.region id l.toArray true).wp P Q a w:=by
 have hB':=hB;simp only [dep4,Bool.and_eq_true,List.all_eq_true,decide_eq_true_eq,beq_iff_eq] at hD;obtain ⟨⟨⟨⟨e1,e3,e3'⟩,e4,e4'⟩,f1,f3⟩,hn⟩:=hD;have n12:k1≠k2:=fun e=>by subst e;simp at hn
 have n13:k1≠k3:=fun e=>by subst e;simp at hn
 have n14:k1≠k4:=fun e=>by subst e;simp at hn
 have n23:k2≠k3:=fun e=>by subst e;simp at hn
 have n24:k2≠k4:=fun e=>by subst e;simp at hn
 have n34:k3≠k4:=fun e=>by subst e;simp at hn
 simp only [regBD,Bool.and_eq_true,List.all_eq_true,decide_eq_true_eq,List.mem_range,Bool.or_eq_true] at hB';obtain ⟨⟨⟨⟨⟨⟨⟨⟨⟨⟨⟨⟨⟨c1,_⟩,_⟩,c4⟩,_⟩,_⟩,_⟩,_⟩,_⟩,_⟩,_⟩,_⟩,_⟩,_⟩:=hB';have hsel:=Region.noSelect_spec c1;have hat:∀i,i∈[k1,k2,k3,k4]→∀o∈selN l [i],l.toArray[i]? =some o:=fun i hi o ho=>by
  have hlt:i<l.length:=by
   have:=c4 i (by simp at hi ⊢;rcases hi with rfl|rfl|rfl|rfl<;>simp)
   simpa using this
  have h2:=fits_selN (l:=l) [i] (by simpa using hlt)
  unfold selN at h2 ho;cases hd:l.drop i with
  |nil=>simp at hd;omega
  |cons o' r=>
   rw [hd] at h2 ho;simp only [selN,List.mem_singleton] at ho;subst ho;exact h2.1
 have hmem:∀(q:List (Nat×Value)) k,k∈q.map Prod.fst→∃v,(k,v)∈q:=fun q k h=>by
  obtain ⟨x,hx,rfl⟩:=List.mem_map.1 h;exact ⟨x.2,hx⟩
 refine region_regD ntmps fl fx [(k1,d1),(k2,d2),(k3,d3),(k4,d4)] tl none A1 (fun i=>if i=k1 then V1 else if i=k2 then V2 else if i=k3 then V3 else V4) (fun _ _=>False) hm hB hnt hQ h1 (fun x hx=> ?_) (fun x hx o ho q u hu hq hqn hqs hqd=> ?_) (fun _ _ _ _ h=>h.elim) (fun k hk=>by cases hk)
  (fun _ f u hu hV=>hend (f k1) (f k2) (f k3) (f k4) u hu (by simpa using hV (k1,d1) (by simp)) (by simpa [n12.symm] using hV (k2,d2) (by simp)) (by simpa [n13.symm,n23.symm] using hV (k3,d3) (by simp)) (by simpa [n14.symm,n24.symm,n34.symm] using hV (k4,d4) (by simp)))
 ·rcases (by simpa using hx:x=(k1,d1)∨x=(k2,d2)∨x=(k3,d3)∨x=(k4,d4)) with rfl|rfl|rfl|rfl
  ·simpa using hs1
  ·simpa [n12.symm] using hs2
  ·simpa [n13.symm,n23.symm] using hs3
  ·simpa [n14.symm,n24.symm,n34.symm] using hs4
 ·have hqs':∀y∈q,y.1∈[k1,k2,k3,k4]:=fun y hy=>by simpa using hqs y hy
  rcases (by simpa using hx:x=(k1,d1)∨x=(k2,d2)∨x=(k3,d3)∨x=(k4,d4)) with rfl|rfl|rfl|rfl
  ·have ho':=hat k1 (by simp) o ho
   have h2:=eval_fillV ho' (fun cs b=>hsel k1 o cs b ho') q A1 (fun y hy=>e1 k1 (by simp) y.1 (hqs' y hy))
   rw [h2.1];simpa using hv1 o ho u hu
  ·have ho':=hat k2 (by simp) o ho
   have h2:=eval_fillV ho' (fun cs b=>hsel k2 o cs b ho') q A1 (fun y hy=>e1 k2 (by simp) y.1 (hqs' y hy))
   rw [h2.1];simpa [n12.symm] using hv2 o ho u hu
  ·have ho':=hat k3 (by simp) o ho
   obtain ⟨v,hv⟩:=hmem q k1 (hqd k1 (by simp) ⟨_,e3⟩)
   have h2:=eval_dep ho' (fun cs b=>hsel k3 o cs b ho') q A1 hqn hv (fun y hy hyn=>by
    have hy2:=hqs' y hy;have hy3:y.1∈[k2,k3,k4]:=by simpa [hyn] using hy2
    exact ⟨(e3' y.1 hy3).1,neD_spec (e3' y.1 hy3).2⟩)
   rw [h2,f1];have hV:=hq (k1,v) hv;simp only [if_true] at hV;simpa [n13.symm,n23.symm] using hv3 o ho v u hu hV
  ·have ho':=hat k4 (by simp) o ho
   obtain ⟨v,hv⟩:=hmem q k3 (hqd k3 (by simp) ⟨_,e4⟩)
   have h2:=eval_dep ho' (fun cs b=>hsel k4 o cs b ho') q A1 hqn hv (fun y hy hyn=>by
    have hy2:=hqs' y hy;have hy3:y.1∈[k1,k2,k4]:=by simpa [hyn] using hy2
    exact ⟨(e4' y.1 hy3).1,neD_spec (e4' y.1 hy3).2⟩)
   rw [h2,f3];have hV:=hq (k3,v) hv;simp only [n13.symm,n23.symm,if_false,if_true] at hV;simpa [n14.symm,n24.symm,n34.symm] using hv4 o ho v u hu hV
def depsB(ops:Array Oper)(vs:List (Nat×Tmp))(dep:Nat→List (Nat×Tmp)):Bool:=
 vs.all fun x=>decide (((dep x.1).map Prod.fst).Nodup)&&
  ((dep x.1).all fun y=>waitsT .any ops ops.size x.1 y.1&&(dstOf ops y.1==some y.2)&&(vs.map Prod.fst).contains y.1)&&
  vs.all fun z=>((dep x.1).map Prod.fst).contains z.1||blind ops x.1 z.1
theorem nodup_of_map{α β:Type}{f:α→β}{l:List α}(h:(l.map f).Nodup):l.Nodup:=List.Pairwise.of_map f (fun a b hab e=>hab (by rw [e])) h
theorem find_mem{q:List (Nat×Value)}(hn:(q.map Prod.fst).Nodup){x:Nat×Value}(hx:x∈q):(q.find? (fun y=>y.1==x.1)).map Prod.snd=some x.2:=by
 induction q with
 |nil=>cases hx
 |cons y q ih=>
  rw [List.map_cons,List.nodup_cons] at hn;rw [List.find?_cons];rcases List.mem_cons.1 hx with rfl|hx
  ·simp
  ·have:(y.1==x.1)=false:=by
    rw [beq_eq_false_iff_ne];intro e;exact hn.1 (by rw [e];exact List.mem_map.2 ⟨x,hx,rfl⟩)
   rw [this];exact ih hn.2 hx
theorem fill_dep(ops:Array Oper)(f:Nat→Value):∀(ds:List (Nat×Tmp)) (A:Act),(∀y∈ds,dstOf ops y.1=some y.2)→fillV ops A (ds.map fun y=>(y.1,f y.1))=ds.foldl (fun a y=>a.put (some y.2) (f y.1)) A
 |[],_,_=>rfl
 |y::ds,A,h=>by
  rw [List.foldl_cons,List.map_cons,←fill_dep ops f ds _ (fun z hz=>h z (by simp [hz])),←h y (by simp)]
  rfl
theorem eval_deps{i:Nat}{o:Oper}(hi:ops[i]? =some o)(hsel:∀cs b,o.op≠.select cs b)(q:List (Nat×Value))(A:Act)(ds:List (Nat×Tmp))(hn:(q.map Prod.fst).Nodup)(hdn:(ds.map Prod.fst).Nodup)
  (hd:∀y∈ds,dstOf ops y.1=some y.2∧y.1∈q.map Prod.fst) (hb:∀x∈q,x.1∈ds.map Prod.fst∨blind ops i x.1=true)
  (hap:∀x∈q,∀y∈q,x≠y→∀t,dstOf ops x.1=some t→dstOf ops y.1≠some t):
  ∃f:Nat→Value,(∀y∈ds,(y.1,f y.1)∈q)∧execOp (fillV ops A q).eval o=execOp (ds.foldl (fun a y=>a.put (some y.2) (f y.1)) A).eval o:=by
 refine ⟨fun j=>((q.find? (fun y=>y.1==j)).map Prod.snd).getD undef,fun y hy=> ?_, ?_⟩
 ·obtain ⟨x,hx,hxe⟩:=List.mem_map.1 (hd y hy).2;have:=find_mem hn hx;rw [hxe] at this;show (y.1,((q.find? (fun z=>z.1==y.1)).map Prod.snd).getD undef)∈q
  rw [this];show (y.1,x.2)∈q
  rw [←hxe];exact hx
 ·have hval:∀x∈q,((q.find? (fun y=>y.1==x.1)).map Prod.snd).getD undef=x.2:=fun x hx=>by rw [find_mem hn hx];rfl
  have hq:q.Nodup:=nodup_of_map hn;have hp:q.Perm (ds.map (fun y=>(y.1,((q.find? (fun z=>z.1==y.1)).map Prod.snd).getD undef))++q.filter (fun x=> !(ds.map Prod.fst).contains x.1)):=by
   refine (List.filter_append_perm (fun x=>(ds.map Prod.fst).contains x.1) q).symm.trans (List.Perm.append_right _ ?_)
   rw [List.perm_ext_iff_of_nodup (hq.filter _) (nodup_of_map (f:=Prod.fst) (by rw [List.map_map];exact hdn))]
   intro x;rw [List.mem_filter,List.mem_map];constructor
   ·rintro ⟨h1,h2⟩;rw [List.contains_iff_mem] at h2;obtain ⟨y,hy,hye⟩:=List.mem_map.1 h2;exact ⟨y,hy,by rw [hye,hval x h1]⟩
   ·rintro ⟨y,hy,rfl⟩;obtain ⟨x,hx,hxe⟩:=List.mem_map.1 (hd y hy).2;have:=hval x hx;rw [hxe] at this;rw [this];refine ⟨by rw [←hxe];exact hx, ?_⟩
    rw [List.contains_iff_mem];exact List.mem_map.2 ⟨y,hy,rfl⟩
  rw [fillV_perm hp hap A];unfold fillV;rw [List.foldl_append];refine (eval_fillV hi hsel _ _ (fun x hx=> ?_)).1.trans ?_
  ·rw [List.mem_filter] at hx;rcases hb x hx.1 with h|h
   ·exact absurd (List.contains_iff_mem.2 h) (by simpa using hx.2)
   ·exact h
  ·have:=fill_dep ops (fun j=>((q.find? (fun z=>z.1==j)).map Prod.snd).getD undef) ds A (fun y hy=>(hd y hy).1)
   unfold fillV at this;rw [this]
theorem region_vd{id:Nat}{a:Act}{w:World}{l:List Oper}(ntmps:Nat)(fl fx:List Nat)(vs:List (Nat×Tmp))(tl:List Nat)(dep:Nat→List (Nat×Tmp))(A1:Act)(V:Nat→VP)
  (hm:P.follows .mixedOrders=true) (hB:regBD l.toArray ntmps fl fx vs tl none=true) (hD:depsB l.toArray vs dep=true) (hnt:ntmps≤a.tmps.size)
  (hQ:∀c a a' w,Act.defers a=Act.defers a'→Q (.panic c) a w→Q (.panic c) a' w)
  (h1:∀(I:Type) (F:I→World),Nonempty I→Fam w F→wpQuiet P l.toArray (fun u=>∃i,u=F i) (fun a'=>a'=A1) (selN l (fl++fx)) a)
  (hst:∀x∈vs,∀v u u',V x.1 v u→Below w.heap.size w u→Below u.heap.size u u'→V x.1 v u')
  (hvs : ∀ x ∈ vs, ∀ o ∈ selN l [x.1], ∀ (f : Nat → Value) u, Below w.heap.size w u → (∀ y ∈ dep x.1, V y.1 (f y.1) u) →
   valsAt P (fun v u'=>Below u.heap.size u u'∧V x.1 v u') (fun _ _=>False) ((execOp ((dep x.1).foldl (fun a y=>a.put (some y.2) (f y.1)) A1).eval o).run P u))
  (hend:∀(f:Nat→Value) u,Below w.heap.size w u→(∀x∈vs,V x.1 (f x.1) u)→wpList P l.toArray Q (selN l tl) (vs.foldl (fun a x=>a.put (some x.2) (f x.1)) A1) u):(Code.region id l.toArray true).wp P Q a w:=by
 have hB':=hB;simp only [depsB,Bool.and_eq_true,List.all_eq_true,decide_eq_true_eq,beq_iff_eq,Bool.or_eq_true] at hD;simp only [regBD,Bool.and_eq_true,List.all_eq_true,decide_eq_true_eq,List.mem_range,Bool.or_eq_true] at hB';obtain ⟨⟨⟨⟨⟨⟨⟨⟨⟨⟨⟨⟨⟨c1,_⟩,_⟩,c4⟩,_⟩,_⟩,_⟩,c8⟩,_⟩,_⟩,_⟩,_⟩,_⟩,_⟩:=hB';have hsel:=Region.noSelect_spec c1;have hat:∀x∈vs,∀o∈selN l [x.1],l.toArray[x.1]? =some o:=fun x hx o ho=>by
  have hlt:x.1<l.length:=by
   have:=c4 x.1 (by simp;exact .inr (.inr (.inl ⟨x.2,hx⟩)))
   simpa using this
  have h2:=fits_selN (l:=l) [x.1] (by simpa using hlt)
  unfold selN at h2 ho;cases hd:l.drop x.1 with
  |nil=>simp at hd;omega
  |cons o' r=>
   rw [hd] at h2 ho;simp only [selN,List.mem_singleton] at ho;subst ho;exact h2.1
 refine region_regD ntmps fl fx vs tl none A1 V (fun _ _=>False) hm hB hnt hQ h1 hst (fun x hx o ho q u hu hq hqn hqs hqd=> ?_) (fun _ _ _ _ h=>h.elim) (fun k hk=>by cases hk) (fun _=>hend)
 obtain ⟨⟨d1,d2⟩,d3⟩:=hD x hx;have ho':=hat x hx o ho;obtain ⟨f,hf,he⟩:=eval_deps ho' (fun cs b=>hsel x.1 o cs b ho') q A1 (dep x.1) hqn d1
  (fun y hy=>⟨(d2 y hy).1.2,hqd y.1 (by have:=(d2 y hy).2;rwa [List.contains_iff_mem] at this) ⟨_,(d2 y hy).1.1⟩⟩)
  (fun y hy => by
   obtain ⟨z,hz,hze⟩:=List.mem_map.1 (hqs y hy);have:=d3 z hz;rw [hze,List.contains_iff_mem] at this;exact this)
  (fun x hx y hy hxy t ht ht' => by
   have hne:x.1≠y.1:=fun e=>hxy (by
    have h1:=find_mem hqn hx;have h2:=find_mem hqn hy;rw [e,h2] at h1;exact Prod.ext e (Option.some.inj h1).symm)
   have h3:=c8 x.1 (by
    have:=hqs x hx;rw [List.mem_append];exact .inr this) y.1 (by
    have:=hqs y hy;rw [List.mem_append];exact .inr this)
   rcases h3 with h3|h3
   ·exact hne (by simpa using h3)
   ·rw [ht] at h3;simp at h3;exact h3 ht')
 rw [he];exact hvs x hx o ho f u hu (fun y hy=>hq _ (hf y hy))
end
end Pl
namespace Fo
open Vw Wr
structure TabE where
 tag:ByteArray
 at':Nat
 len:Nat
def tabC(x:TabE):List Value:=[.string x.tag,.int .i64 x.at',.int .i64 x.len]
theorem tabC_len(x:TabE):(tabC x).length=3:=rfl
def tabAt(P:List PartD)(i:Nat):TabE:=⟨(P.getD i default).tag,atM P i,(P.getD i default).data.length⟩
def tabsM(P:List PartD):List TabE:=(List.range P.length).map (tabAt P)
theorem tabsM_len(P:List PartD):(tabsM P).length=P.length:=by simp [tabsM]
theorem tabsM_get(P:List PartD)(i:Nat)(p:PartD)(h:P[i]? =some p):(tabsM P)[i]? =some ⟨p.tag,atM P i,p.data.length⟩:=by
 have hi:i<P.length:=(List.getElem?_eq_some_iff.1 h).1;unfold tabsM;rw [List.getElem?_map,List.getElem?_range hi];simp only [Option.map_some,tabAt,List.getD_eq_getElem?_getD,h,Option.getD_some]
theorem str_tagB(s:ByteArray):strOfNums (tagB s)=s:=by
 unfold strOfNums tagB;rw [List.map_map];have:(s.data.toList.map ((fun n:Int=>UInt8.ofNat n.toNat) ∘ fun x=>(x.toNat:Int)))=s.data.toList:=by
  conv=>rhs;rw [←List.map_id s.data.toList]
  refine List.map_congr_left fun x _=> ?_
  simp
 rw [this]
theorem written{w:World}{base:Nat}{v:Value}{bs:List Int}(h:w.ownsRow base 5 1 v bs.length (bs.map (Value.int .u8)))(h0:0<bs.length)(hb:∀x∈bs,0≤x∧x≤255)(hl:bs.length≤1000000000):
  ∃g cap,v=.slice (some ⟨g,0,none⟩) bs.length cap∧bs.length≤cap∧cap≤maxLen∧VB w (some ⟨g,0,none⟩) bs:=by
 obtain ⟨g,cg,hv,_,_,hgc,hgm,hvg,_⟩:=owned h (fun e=>by
  rcases Row.owned_parts h with ⟨_,h1,_⟩|⟨_,_,h1,_⟩
  ·omega
  ·rw [h1] at e;cases e) rfl hb (by omega)
 exact ⟨g,cg,hv,hgc,hgm,hvg⟩
theorem infoT:(Tryz.prog.info? 360).map (fun i=>(i.zero,i.size,i.bytes))=some (some (.agg #[.string ⟨#[]⟩,.int .i64 0,.int .i64 0]),3,32):=by kernel_rfl
def STakeP(w:World)(P:List PartD)(e:Ending)(w':World):Prop:=
 Below w.heap.size w w'∧∃v,e=.returned v∧w'.ownsRow w.heap.size 360 3 v P.length ((tabsM P).flatMap tabC)
theorem stake_ok(a:Option Addr)(len cap:Nat)(bs:List Int)(P:List PartD)(w:World)(hl:len≤cap)(hc:cap≤maxLen)(hv:VB w a bs)(hbl:bs.length=len)(hF:IsFont bs P):
  Calls Tryz.prog 189 #[.agg #[.slice a len cap]] w (STakeP w P):=by
 have hlen:=hF.len;have hfew:=hF.few;rw [hbl] at hlen hfew;obtain ⟨n,hn⟩:∃n,P.length=n:=⟨_,rfl⟩;have hmany:=hF.many;rw [hn] at hlen hmany;have U0:=fun w' (hb:Below w.heap.size w w')=>u32_ok a len cap bs 0 w' hl hc (hv.below hb) hbl (by omega) (by omega)
 have U4:=fun w' (hb:Below w.heap.size w w')=>u16_ok a len cap bs 4 w' hl hc (hv.below hb) hbl (by omega) (by omega)
 have R:=fun w'=>rows_ok a len cap 12 n 16 w' hl hc ⟨by omega,by omega,.inr (by omega),by omega,by omega⟩
 have z0:(0:Int).toNat=0:=rfl;have z4:(4:Int).toNat=4:=rfl;have z12:(12:Int).toNat=12:=rfl;have z16:((n:Int)*16).toNat=n*16:=by omega
 simp only [z0,z4,z12,z16] at U0 U4 R;rw [hF.kind] at U0;rw [hmany] at U4;have HU0:=Bas.hid U0;have HU4:=Bas.hid U4;have HR:=Bas.hid R;have HV:=Bas.hid hv;have HF:=Bas.hid hF;have HN:=Bas.hid hn;have HBL:=Bas.hid hbl;have hRV:=fun w' (hb:Below w.heap.size w w')=>(hv.below hb).sub 12 (n*16) (by omega)
 have HRV:=Bas.hid hRV;have hRl:((bs.drop 12).take (n*16)).length=n*16:=by rw [List.length_take,List.length_drop];omega
 have HRL:=Bas.hid hRl;have HAL:=Bas.hid ((Below.refl w.heap.size w).alloc (Nat.le_refl _) (.cells #[.slice a len cap] 190));have k1:=Bas.heap_new w (.cells #[.slice a len cap] 190);clear U0 U4 R hv hF hn hmany z0 z4 z12 z16 hRV hRl hbl;go_enter Tryz.func189,Tryz.ntmps189
 go_wp2_with (fail);generalize w.alloc (.cells #[.slice a len cap] 190)=W at*;refine (HU0.out _ HAL.out).mono ?_;rintro e w1 ⟨rfl,hb1⟩;have k2:=(hb1.block _ (heap_lt k1)).trans k1;have HB1:=Bas.hid (HAL.out.trans (hb1.mono HAL.out.size));clear hb1 k1 HU0 HAL;have c1:=cell_of_heap (i:=0) (v:=.slice a len cap) k2 rfl;go_wp2_with (go_at_call 56;refine (need_yesb _ _ (by first|rfl|(simp;done))).mono ?_;rintro e w' ⟨rfl,rfl⟩)
 refine (HU4.out _ HB1.out).mono ?_;rintro e w2 ⟨rfl,hb2⟩;have k1:=(hb2.block _ (heap_lt k2)).trans k2;have HB2:=Bas.hid (HB1.out.trans (hb2.mono HB1.out.size));clear hb2 k2 HU4 HB1 c1;have c1:=cell_of_heap (i:=0) (v:=.slice a len cap) k1 rfl;go_wp2_with (fail);refine (HR.out _).mono ?_;rintro e w3 ⟨rfl,hb3⟩;have k2:=(hb3.block _ (heap_lt k1)).trans k1;have HB3:=Bas.hid (HB2.out.trans (hb3.mono HB2.out.size));clear hb3 k1 HR HB2 c1;generalize sub a 12 (n*16)=R at*;go_wp2_with (fail);have k1:=(Below.heap_alloc w3 (.cells #[.slice R (n*16) (n*16)] 190) _ (heap_lt k2)).trans k2;have k5:=Bas.heap_new w3 (.cells #[.slice R (n*16) (n*16)] 190);have HB4:=Bas.hid (HB3.out.alloc HB3.out.size (.cells #[.slice R (n*16) (n*16)] 190));have h15:w.heap.size<w3.heap.size:=heap_lt k2;generalize w3.alloc (.cells #[.slice R (n*16) (n*16)] 190)=W4 at*;generalize w3.heap.size=T5 at*;clear k2 HB3;go_loopw [6,25] (fun vs vi wr=>∃(i:Nat) (vT:Value),i≤n∧vi=.int .i64 i∧vs=vT∧wr.ownsRow w.heap.size 360 3 vT i (((tabsM P).take i).flatMap tabC)∧Below w.heap.size w wr∧wr.heap[w.heap.size]? =some (.cells #[.slice a len cap] 190 (0,0))∧wr.heap[T5]? =some (.cells #[.slice R (n*16) (n*16)] 190 (0,0))) (fun _ vi _=>n - (intOf vi).toNat)
 case atStart=>exact ⟨0,_,Nat.zero_le _,rfl,rfl,Row.owned_nil _ _ _ _,HB4.out,k1,k5⟩
 case round=>
  obtain ⟨i,vT,hi,rfl,rfl,hown,hb,o1,o5⟩:=hrel;have HO:=Bas.hid hown;have HB:=Bas.hid hb;obtain ⟨adT,cpT,hvT⟩:=own_slice hown;subst hvT;clear hown hb k1 k5 HB4;by_cases hin:i<n
  ·obtain ⟨p,hp⟩:∃p,P[i]? =some p:=⟨_,List.getElem?_eq_getElem (by rw [HN.out];exact hin)⟩
   have htag:=HF.out.tag i p hp;have hat:=HF.out.at' i p hp;have hdl:=HF.out.dlen i p hp;obtain ⟨-,hend⟩:=HF.out.data i p hp;rw [HBL.out] at hend;have hsz4:=HF.out.size p (List.mem_of_getElem? hp);have HTG:=Bas.hid (tabsM_get P i p hp);have HP:=Bas.hid hp;obtain ⟨ct,cd⟩:=p;simp only at htag hdl hend hsz4 HTG;obtain ⟨D,hD⟩:∃D,(((bs.drop 12).take (n*16)).drop (16*i)).take 16=D:=⟨_,rfl⟩;have hDl:D.length=16:=by rw [←hD,List.length_take,List.length_drop,HRL.out];omega
   have hD4:(D.drop 0).take 4=tagB ct:=by
    rw [←htag,←hD,List.drop_zero,List.take_take,List.drop_take,List.take_take,List.drop_drop]
    congr 1;omega
   have hD8:be D 8 4=atM P i:=by rw [←hD,be_sub _ _ _ _ _ (by omega),be_sub _ _ _ _ _ (by omega),show 12+(16*i+8)=12+16*i+8 by omega,hat]
   have hD12:be D 12 4=cd.length:=by rw [←hD,be_sub _ _ _ _ _ (by omega),be_sub _ _ _ _ _ (by omega),show 12+(16*i+12)=12+16*i+12 by omega,hdl]
   have HXV:=Bas.hid (fun w' (hb:Below w.heap.size w w')=>hD▸(HRV.out w' hb).sub (16*i) 16 (by rw [HRL.out];omega))
   have hn16:n*16≤maxLen:=by unfold maxLen;omega
   have CU:=fun w'=>cut_ok R (n*16) (n*16) (16*(i:Int)) 16 w' (Nat.le_refl _) hn16 (by omega) (by omega) (by omega)
   have z16:(16*(i:Int)).toNat=16*i:=by omega
   have z16':(16:Int).toNat=16:=rfl;simp only [z16,z16'] at CU;generalize sub R (16*i) 16=X at*;have h16:(16:Nat)≤maxLen:=by unfold maxLen;omega
   have h4m:(4:Nat)≤maxLen:=by unfold maxLen;omega
   have C4:=fun w'=>cut_ok X 16 16 0 4 w' (Nat.le_refl _) h16 (by omega) (by omega) (by omega)
   have U8:=fun w' (hb:Below w.heap.size w w')=>u32_ok X 16 16 D 8 w' (Nat.le_refl _) h16 (HXV.out w' hb) hDl (by omega) (by omega)
   have U12:=fun w' (hb:Below w.heap.size w w')=>u32_ok X 16 16 D 12 w' (Nat.le_refl _) h16 (HXV.out w' hb) hDl (by omega) (by omega)
   have z0:(0:Int).toNat=0:=rfl;have z4:(4:Int).toNat=4:=rfl;have z8:(8:Int).toNat=8:=rfl;have z12:(12:Int).toNat=12:=rfl;simp only [z0,z4,z8,z12,hD8,hD12] at C4 U8 U12;have HX4:=Bas.hid (fun w' (hb:Below w.heap.size w w')=>hD4▸(HXV.out w' hb).sub 0 4 (by omega))
   generalize sub X 0 4=X4 at*;obtain ⟨am,ham⟩:∃am,atM P i=am:=⟨_,rfl⟩;obtain ⟨ln,hln⟩:∃ln,cd.length=ln:=⟨_,rfl⟩;rw [ham] at U8 hend HTG;rw [hln] at U12 hend HTG;have HCU:=Bas.hid CU;have HC4:=Bas.hid C4;have HU8:=Bas.hid U8;have HU12:=Bas.hid U12;have e1:decide ((i:Int)<(n:Int))=true:=by simp;omega
   have e2:decide (i<n)=true:=by simp;omega
   have c5:=cell_of_heap (i:=0) (v:=.slice R (n*16) (n*16)) o5 rfl;have htl:(tagB ct).length=4:=by rw [tagB_len];exact hsz4
   have HTL:=Bas.hid htl;clear CU C4 U8 U12 z0 z4 z8 z12 z16 z16' hD hDl hD4 hD8 hD12 ham hln htag hat hdl hn16 hp htl hsz4;go_wp2_with (fail);refine (HCU.out _).mono ?_;rintro e w5 ⟨rfl,hb5⟩;have q1:=(hb5.block _ (heap_lt o1)).trans o1;have q5:=(hb5.block _ (heap_lt o5)).trans o5;have HB5:=Bas.hid (HB.out.trans (hb5.mono HB.out.size));have HO5:=Bas.hid (Row.owned_below HO.out hb5);clear hb5 o1 o5 c5 HB HO HCU;go_wp2_with (fail);have k1:=(Below.heap_alloc w5 (.cells #[.slice X 16 16] 190) _ (heap_lt q1)).trans q1;have k5:=(Below.heap_alloc w5 (.cells #[.slice X 16 16] 190) _ (heap_lt q5)).trans q5;have k8:=Bas.heap_new w5 (.cells #[.slice X 16 16] 190);have HB6:=Bas.hid (HB5.out.alloc HB5.out.size (.cells #[.slice X 16 16] 190));have HO6:=Bas.hid (Row.owned_below HO5.out ((Below.refl _ _).alloc (Nat.le_refl _) (.cells #[.slice X 16 16] 190)));have h58:T5<w5.heap.size:=heap_lt q5;generalize w5.alloc (.cells #[.slice X 16 16] 190)=W6 at*;generalize w5.heap.size=T8 at*;clear q1 q5 HB5 HO5;refine' Pl.region_v4d 67 [] [0,1,4,5,6,7] 2 34 9 9 3 35 8 40 [10] _
    (fun v u=>∃g c,v=.slice (some ⟨g,0,none⟩) 4 c∧VB u (some ⟨g,0,none⟩) (tagB ct))
    (fun v u=>∃g,v=.pointer (some ⟨g,0,none⟩)∧W6.heap.size≤g∧u.heap[g]? =some (.cells #[.string ⟨#[]⟩,.int .i64 0,.int .i64 0] 360 (0,0)))
    (fun v _=>v=.string ct) (fun v _=>v=.agg #[.string ct,.int .i64 am,.int .i64 ln]) (by kernel_rfl) (by kernel_rfl) (by kernel_rfl) (by simp) (fun _ _ _ _ e h=>⟨e▸h.1,h.2⟩) ?_ ?_ ?_ ?_ ?_ ?_ ?_ ?_ ?_ ?_
   rotate_left
   ·intro I F hI hF;simp only [Pl.selN,List.nil_append,List.drop_succ_cons,List.drop_zero];have x8:=fun q=>hF.cell (heap_lt k8) (cell_of_heap (i:=0) (v:=.slice X 16 16) k8 rfl) q
    repeat (go_big_quiet_step ((first|(go_at_call 95;with_reducible exact hF.call (HC4.out _))|(go_at_call 104;first|with_reducible exact hF.call (HU8.out _ (hF.on HB6.out _))|with_reducible exact hF.call (HU12.out _ (hF.on HB6.out _))))))
    refine wpQuiet_nil ?_;rfl
   ·rintro v u u' ⟨g,c,h1,h2⟩ _ hx;exact ⟨g,c,h1,h2.below hx⟩
   ·rintro v u u' ⟨g,h1,h2,h3⟩ _ hx;exact ⟨g,h1,h2,(hx.block g (heap_lt h3)).trans h3⟩
   ·exact fun _ _ _ h _ _=>h
   ·exact fun _ _ _ h _ _=>h
   ·simp only [Pl.selN,List.drop_succ_cons,List.drop_zero,List.mem_singleton,forall_eq];intro u hu
    go_simp
    simp only [Pl.valsAt];have hX:=HX4.out u (HB6.out.trans (hu.mono HB6.out.size));refine (bytes_any X4 4 4 (tagB ct) u (Nat.le_refl _) h4m hX HTL.out (fun h=> ?_)).mono ?_
    ·obtain ⟨b,o,hb,_⟩:=hX.cell 0 (by rw [HTL.out];omega)
     rw [h] at hb;cases hb
    ·rintro e w'' ⟨v,rfl,hown,hne,hb⟩;obtain ⟨g,cg,rfl,_,_,hvg⟩:=written hown (by rw [HTL.out];omega) (tagB_byte ct) (by rw [HTL.out];omega)
     rw [HTL.out];exact .inl ⟨_,rfl,hb,g,⟨cg,rfl⟩,hvg⟩
   ·simp only [Pl.selN,List.drop_succ_cons,List.drop_zero,List.mem_singleton,forall_eq];intro u hu
    go_simp
    simp only [Pl.valsAt];exact ⟨(Below.refl _ _).alloc (Nat.le_refl _) _,_,rfl,hu.size,Bas.heap_new _ _⟩
   ·simp only [Pl.selN,List.drop_succ_cons,List.drop_zero,List.mem_singleton,forall_eq];rintro v u hu ⟨g,c,rfl,hvb⟩
    go_simp
    rw [conv_vb hvb 4 c HTL.out,str_tagB];exact ⟨Below.refl _ _,rfl⟩
   ·simp only [Pl.selN,List.drop_succ_cons,List.drop_zero,List.mem_singleton,forall_eq];rintro v u hu rfl
    go_simp
    exact ⟨Below.refl _ _,rfl⟩
   rintro v1 v2 v3 v4 u hu ⟨g1,cg1,rfl,-⟩ ⟨T9,rfl,hT9,k9⟩ rfl rfl;simp only [Pl.selN,List.drop_succ_cons,List.drop_zero,Act.put,List.setIfInBounds_toArray,List.set_cons_zero,List.set_cons_succ];have q1:=(hu.block _ (heap_lt k1)).trans k1;have q5:=(hu.block _ (heap_lt k5)).trans k5;have HB7:=Bas.hid (HB6.out.trans (hu.mono HB6.out.size));have HO7:=Bas.hid (Row.owned_below HO6.out hu);have hT19:w.heap.size≠T9:=by have:=heap_lt k1;omega
   have hT59:T5≠T9:=by have:=heap_lt k5;omega
   have c90:=cell_of_heap (i:=0) (v:=.string ⟨#[]⟩) k9 rfl;have c91:=cell_of_heap (i:=1) (v:=.int .i64 0) k9 rfl;have c92:=cell_of_heap (i:=2) (v:=.int .i64 0) k9 rfl;have f9:=fun i=>free_of_heap (i:=i) k9
   have c1:=cell_of_heap (i:=0) (v:=.slice a len cap) q1 rfl;have hTb:w.heap.size≤T9:=by have:=HB6.out.size;omega
   have HCE:Hid (∀w',Calls Tryz.prog 95 #[.agg #[.slice a len cap],.int .i64 am,.int .i64 ln] w' fun e w''=>e=.returned (.agg #[.slice (sub a am ln) ln ln])∧Below w'.heap.size w' w''):=fun w'=>by
    have h:=cut_ok a len cap am ln w' hl hc (by omega) (by omega) (by omega)
    simpa using h
   have HT9B:=Bas.hid hT9;have hOL:∀g,(Value.slice adT i cpT).ownBlock=some g→g<W6.heap.size:=fun g hg=>(Row.own_block HO6.out hg).2
   clear hu k1 k5 k8 HB6 HO6 HX4 HC4 HU8 HU12 HXV hT9;go_wp2_with (fail);have hk:∀g,g≠T9→(((u.setCell ⟨T9,0,none⟩ (.string ct)).setCell ⟨T9,1,none⟩ (.int .i64 am)).setCell ⟨T9,2,none⟩ (.int .i64 ln)).heap[g]? =u.heap[g]? :=fun g hg=>(Below.heap_setCell _ _ _ _ hg).trans ((Below.heap_setCell _ _ _ _ hg).trans (Below.heap_setCell _ _ _ _ hg))
   have n9:(((u.setCell ⟨T9,0,none⟩ (.string ct)).setCell ⟨T9,1,none⟩ (.int .i64 am)).setCell ⟨T9,2,none⟩ (.int .i64 ln)).heap[T9]? =some (.cells #[.string ct,.int .i64 am,.int .i64 ln] 360 (0,0)):=heap_set (i:=2) (heap_set (i:=1) (heap_set (i:=0) k9 _) _) _;have r1:=(hk _ hT19).trans q1;have r5:=(hk _ hT59).trans q5;have HB8:Hid (Below w.heap.size w (((u.setCell ⟨T9,0,none⟩ (.string ct)).setCell ⟨T9,1,none⟩ (.int .i64 am)).setCell ⟨T9,2,none⟩ (.int .i64 ln))):=((HB7.out.setCell (p:=⟨T9,0,none⟩) hTb _).setCell (p:=⟨T9,1,none⟩) hTb _).setCell (p:=⟨T9,2,none⟩) hTb _;have HO8:=Bas.hid (Row.owned_keep HO7.out (w':=((u.setCell ⟨T9,0,none⟩ (.string ct)).setCell ⟨T9,1,none⟩ (.int .i64 am)).setCell ⟨T9,2,none⟩ (.int .i64 ln)) fun g hg=>hk g (fun e=>by
    subst e;exact absurd (hOL _ hg) (Nat.not_lt.2 HT9B.out)))
   generalize ((u.setCell ⟨T9,0,none⟩ (.string ct)).setCell ⟨T9,1,none⟩ (.int .i64 am)).setCell ⟨T9,2,none⟩ (.int .i64 ln)=W8 at*;clear hk q1 q5 k9 c90 c91 c92 f9 c1 HB7 HO7;refine (HCE.out _).mono ?_;rintro e w9 ⟨rfl,hb9⟩;have q1:=(hb9.block _ (heap_lt r1)).trans r1;have q5:=(hb9.block _ (heap_lt r5)).trans r5;have q9:=(hb9.block _ (heap_lt n9)).trans n9;have HB9:=Bas.hid (HB8.out.trans (hb9.mono HB8.out.size));have HO9:=Bas.hid (Row.owned_below HO8.out hb9);clear hb9 r1 r5 n9 HB8 HO8 HCE;go_wp2_with (fail);rcases Nat.eq_zero_or_pos i with hi0|hi0
   ·have hk0:((i:Int)==0)=true:=by simp;omega
    clear hi0;refine' Pl.region_v0 67 [] [0,1,2,3,4,5,6,7,8,9,10,11,12,13] [] _ (by kernel_rfl) (by kernel_rfl) (by simp) (fun _ _ _ _ e h=>⟨e▸h.1,h.2⟩) ?_ ?_
    rotate_left
    ·intro I F hI hF;simp only [Pl.selN,List.nil_append,List.drop_succ_cons,List.drop_zero];have y0:=fun q=>hF.cell (heap_lt q9) (cell_of_heap (i:=0) (v:=.string ct) q9 rfl) q
     repeat (go_big_quiet_step ((go_at_call 56;exact hF.same (need_yesb _ _ (by first|rfl|(simp;done)|(simp;omega))))))
     refine wpQuiet_nil ?_;rfl
    intro u5 hu5;simp only [Pl.selN];have s1:=(hu5.block _ (heap_lt q1)).trans q1;have s5:=(hu5.block _ (heap_lt q5)).trans q5;have s9:=(hu5.block _ (heap_lt q9)).trans q9;have HBA:=Bas.hid (HB9.out.trans (hu5.mono HB9.out.size));have HOA:=Bas.hid (Row.owned_below HO9.out hu5);clear hu5 q1 q5 q9 HB9 HO9;have d0:=cell_of_heap (i:=0) (v:=.string ct) s9 rfl;have d1:=cell_of_heap (i:=1) (v:=.int .i64 am) s9 rfl;have d2:=cell_of_heap (i:=2) (v:=.int .i64 ln) s9 rfl;go_wp2_with (at_builtin;refine Row.fence ?_);refine Row.unfence ?_;have hb3:=(Below.refl u5.heap.size u5).alloc (Nat.le_refl _) (.cells #[.string ct,.int .i64 am,.int .i64 ln] 360);have k3:=Bas.heap_new u5 (.cells #[.string ct,.int .i64 am,.int .i64 ln] 360);have HO3:=Bas.hid (Row.owned_below HOA.out hb3);have HB3:=Bas.hid (HBA.out.trans (hb3.mono HBA.out.size));have j1:=(hb3.block _ (heap_lt s1)).trans s1;have j5:=(hb3.block _ (heap_lt s5)).trans s5;generalize u5.alloc (.cells #[.string ct,.int .i64 am,.int .i64 ln] 360)=W3' at*;have hv1:=own_ty HO3.out j1 (by decide)
    have hv5:=own_ty HO3.out j5 (by decide)
    clear s1 s5 s9 d0 d1 d2 hb3 HOA HBA;refine (Row.append_any rfl _ _ 356 360 rfl (.agg #[.string ⟨#[]⟩,.int .i64 0,.int .i64 0]) 3 32 Tryz.underlying356 infoT rfl (by decide) w.heap.size _ i _ rfl HO3.out (.slice (some ⟨u5.heap.size,0,none⟩) 1 1) 1 [.string ct,.int .i64 am,.int .i64 ln] rfl (leads_heap k3) rfl (by simp;exact ⟨rfl,rfl,rfl⟩) (by unfold maxLen;omega) (by omega) HB3.out.size ?_)
    intro v' w9' hown9 hg9 _;have s1:=(hg9.block _ (heap_lt j1) (fun e=>hv1 e.symm)).trans j1
    have s5:=(hg9.block _ (heap_lt j5) (fun e=>hv5 e.symm)).trans j5
    have HBB:=Bas.hid (HB3.out.grown hg9 HB3.out.size (fun g' hg'=>(Row.own_block HO3.out hg').1))
    have HOB:Hid (w9'.ownsRow w.heap.size 360 3 v' (i+1) (((tabsM P).take (i+1)).flatMap tabC)):=by
     unfold Hid;rw [Row.take_flat tabC _ i _ HTG.out];exact hown9
    obtain ⟨ad9,cp9,rfl⟩:=own_slice hown9;clear hown9 hg9 j1 j5 k3 HO3 HB3 hv1 hv5;go_wp2_with (fail);go_roundw
    case rel=>exact ⟨i+1,_,by omega,by go_num,rfl,HOB.out,HBB.out,s1,s5⟩
    case measure=>simp [intOf];omega
   ·have hk0:((i:Int)==0)=false:=by simp;omega
    obtain ⟨j,hj⟩:∃j,i=j+1:=⟨i - 1,by omega⟩
    have e5:(i:Int) - 1=(j:Int):=by omega
    have hji:j<i:=by omega
    obtain ⟨p',hp'⟩:∃p,P[j]? =some p:=⟨_,List.getElem?_eq_getElem (by rw [HN.out];omega)⟩
    have hri:=HF.out.rise j i p' _ hji hp' HP.out;have hTj:((tabsM P).take i)[j]? =some ⟨p'.tag,atM P j,p'.data.length⟩:=by rw [List.getElem?_take_of_lt hji];exact tabsM_get P j p' hp'
    obtain ⟨GT,CT,hvT,-,lGT,-,hcl⟩:=Row.elem_cells tabC_len HO9.out hTj (by omega) (by rw [List.length_take,tabsM_len,HN.out];omega)
    cases hvT;have cT0:w9.cell? ⟨GT,j*3,none⟩=some (.string p'.tag):=hcl 0 _ rfl;obtain ⟨pt,hpt⟩:∃pt,p'.tag=pt:=⟨_,rfl⟩;rw [hpt] at cT0 hri;unfold ltS at hri;simp only at hri;clear hi0 hj hp' hTj hcl hpt;refine' Pl.region_v0 67 [] [0,1,2,3,4,5,6,7,8,9,10,11,12,13] [] _ (by kernel_rfl) (by kernel_rfl) (by simp) (fun _ _ _ _ e h=>⟨e▸h.1,h.2⟩) ?_ ?_
    rotate_left
    ·intro I F hI hF;simp only [Pl.selN,List.nil_append,List.drop_succ_cons,List.drop_zero];have y0:=fun q=>hF.cell (heap_lt q9) (cell_of_heap (i:=0) (v:=.string ct) q9 rfl) q
     have y1:=fun q=>hF.cell lGT cT0 q
     repeat (go_big_quiet_step ((go_at_call 56;exact hF.same (need_yesb _ _ (by first|rfl|(simp;done)|(simp;omega))))))
     refine wpQuiet_nil ?_;rfl
    intro u5 hu5;simp only [Pl.selN];have s1:=(hu5.block _ (heap_lt q1)).trans q1;have s5:=(hu5.block _ (heap_lt q5)).trans q5;have s9:=(hu5.block _ (heap_lt q9)).trans q9;have HBA:=Bas.hid (HB9.out.trans (hu5.mono HB9.out.size));have HOA:=Bas.hid (Row.owned_below HO9.out hu5);clear hu5 q1 q5 q9 HB9 HO9;clear cT0 hri;have d0:=cell_of_heap (i:=0) (v:=.string ct) s9 rfl;have d1:=cell_of_heap (i:=1) (v:=.int .i64 am) s9 rfl;have d2:=cell_of_heap (i:=2) (v:=.int .i64 ln) s9 rfl;go_wp2_with (at_builtin;refine Row.fence ?_);refine Row.unfence ?_;have hb3:=(Below.refl u5.heap.size u5).alloc (Nat.le_refl _) (.cells #[.string ct,.int .i64 am,.int .i64 ln] 360);have k3:=Bas.heap_new u5 (.cells #[.string ct,.int .i64 am,.int .i64 ln] 360);have HO3:=Bas.hid (Row.owned_below HOA.out hb3);have HB3:=Bas.hid (HBA.out.trans (hb3.mono HBA.out.size));have j1:=(hb3.block _ (heap_lt s1)).trans s1;have j5:=(hb3.block _ (heap_lt s5)).trans s5;generalize u5.alloc (.cells #[.string ct,.int .i64 am,.int .i64 ln] 360)=W3' at*;have hv1:=own_ty HO3.out j1 (by decide)
    have hv5:=own_ty HO3.out j5 (by decide)
    clear s1 s5 s9 d0 d1 d2 hb3 HOA HBA;refine (Row.append_any rfl _ _ 356 360 rfl (.agg #[.string ⟨#[]⟩,.int .i64 0,.int .i64 0]) 3 32 Tryz.underlying356 infoT rfl (by decide) w.heap.size _ i _ rfl HO3.out (.slice (some ⟨u5.heap.size,0,none⟩) 1 1) 1 [.string ct,.int .i64 am,.int .i64 ln] rfl (leads_heap k3) rfl (by simp;exact ⟨rfl,rfl,rfl⟩) (by unfold maxLen;omega) (by omega) HB3.out.size ?_)
    intro v' w9' hown9 hg9 _;have s1:=(hg9.block _ (heap_lt j1) (fun e=>hv1 e.symm)).trans j1
    have s5:=(hg9.block _ (heap_lt j5) (fun e=>hv5 e.symm)).trans j5
    have HBB:=Bas.hid (HB3.out.grown hg9 HB3.out.size (fun g' hg'=>(Row.own_block HO3.out hg').1))
    have HOB:Hid (w9'.ownsRow w.heap.size 360 3 v' (i+1) (((tabsM P).take (i+1)).flatMap tabC)):=by
     unfold Hid;rw [Row.take_flat tabC _ i _ HTG.out];exact hown9
    obtain ⟨ad9,cp9,rfl⟩:=own_slice hown9;clear hown9 hg9 j1 j5 k3 HO3 HB3 hv1 hv5;go_wp2_with (fail);go_roundw
    case rel=>exact ⟨i+1,_,by omega,by go_num,rfl,HOB.out,HBB.out,s1,s5⟩
    case measure=>simp [intOf];omega
  ·have hin2:i=n:=by omega
   subst hin2;have HEND:Hid ((tabsM P).take i=tabsM P):=by unfold Hid;exact List.take_of_length_le (by rw [tabsM_len,HN.out];exact Nat.le_refl _)
   go_wp2_with (fail);go_ret;exact ⟨HB.out,_,rfl,by rw [HN.out,←HEND.out];exact HO.out⟩
end Fo
namespace Fo
open Vw
def ReadR(W:World)(bo:Nat)(good:Bool)(Ok:World→Nat→Value→Prop)(ok:Bool)(w2:World):Prop:=
 W.grownBy w2 (some bo)∧ok=good∧w2.frozen? ⟨bo,0,none⟩=false∧∃v,w2.cell? ⟨bo,0,none⟩=some v∧(good=true→Ok w2 W.heap.size v)
def TakeG(good:Bool)(Ok:World→Nat→Value→Prop)(w:World)(e:Ending)(w':World):Prop:=
 Below w.heap.size w w'∧if good then ∃v,e=.returned v∧Ok w' w.heap.size v else e=.panicked short
structure Keeps (Ok:World→Nat→Value→Prop):Prop where
 keep:∀w w' base v,Ok w base v→(∀g,base≤g→g<w.heap.size→w'.heap[g]? =w.heap[g]?)→w.heap.size≤w'.heap.size→Ok w' base v
 base:∀w base base' v,Ok w base v→base'≤base→Ok w base' v
 form:∀w base v,Ok w base v→∃ad n cp,v=.slice ad n cp
theorem read1_any(a:Option Addr)(len cap:Nat)(bs:List Int)(good:Bool)(Ok:World→Nat→Value→Prop)(hK:Keeps Ok)(bb bo bt:Nat)(W:World)(hv:VB W a bs)
  (hT:∀w,VB w a bs→Calls Tryz.prog 189 #[.agg #[.slice a len cap]] w (TakeG good Ok w))
  (h1:W.cell? ⟨bb,0,none⟩=some (.slice a len cap)) (h5:W.cell? ⟨bo,0,none⟩=some (.slice none 0 0)) (h6:W.frozen? ⟨bo,0,none⟩=false) (hne:bt≠bo) (hk:W.heap[bt]? =some (.cells #[.bool false] 4 (0,0))):
  Calls Tryz.prog 188 #[.pointer (some ⟨bb,0,none⟩),.pointer (some ⟨bo,0,none⟩)] W (TryPost bt (ReadR W bo good Ok)):=by
 have l5:=World.block_lt_of_cell? _ _ h5;have lt:=(Array.getElem?_eq_some_iff.1 hk).1;have HT:=Bas.hid (fun w' (hb:Below W.heap.size W w')=>hT w' (hv.below hb))
 have HK:=Bas.hid hK;clear hT hv hK;go_enter Tryz.func188,Tryz.ntmps188
 go_wp2_with (fail);refine (of_any a len cap W).mono ?_;rintro e w1 ⟨rfl,hb1⟩;go_wp2_with (fail);refine (HT.out _ hb1).mono ?_;rintro e w2 ⟨hb2,he⟩;have hb:Below W.heap.size W w2:=hb1.trans (hb2.mono hb1.size);have s1:=hb1.size;cases good with
 |false=>
  simp only [Bool.false_eq_true,if_false] at he;subst he;have POST:TryPost bt (ReadR W bo false Ok) (.panicked short) w2:=⟨(hb.block bt lt).trans hk,.inr ⟨rfl,Bas.gbelow (Bas.grefl _ _) hb,rfl,(hb.frozen (p:=⟨bo,0,none⟩) l5).trans h6,_,(hb.cell (p:=⟨bo,0,none⟩) l5).trans h5,fun h=>by cases h⟩⟩
  have HP:=Bas.hid POST;clear POST HT HK hb hb1 hb2;go_wp2_with (fail);exact ⟨rfl,HP.out⟩
 |true=>
  simp only [if_true] at he;obtain ⟨v,rfl,hok⟩:=he;have c5:=(hb.cell (p:=⟨bo,0,none⟩) l5).trans h5;have f5:=(hb.frozen (p:=⟨bo,0,none⟩) l5).trans h6;have hs2:=hb.size;have lt2:bo<w2.heap.size:=by have:bo<W.heap.size:=l5;omega
  have POST:TryPost bt (ReadR W bo true Ok) (.returned (.tuple #[])) (w2.setCell ⟨bo,0,none⟩ v):=by
   refine ⟨(Below.heap_setCell _ _ _ _ hne).trans ((hb.block bt lt).trans hk),.inl ⟨rfl,Bas.gset (Bas.gbelow (Bas.grefl _ _) hb) 0 v,rfl,by simpa [go_sem] using f5,v,by simp [go_sem,c5],fun _=> ?_⟩⟩
   refine HK.out.base _ _ _ _ (HK.out.keep _ _ _ _ hok (fun g h _=>Below.heap_setCell _ _ _ _ (by have:bo<W.heap.size:=l5;show g≠bo;omega)) (by simp [World.setCell])) s1
  have HP:=Bas.hid POST;obtain HF:=HK.out.form _ _ _ hok;clear POST HT HK hb hb1 hb2 hok hk h1 h5 h6
  first|obtain ⟨ad,n,cp,rfl⟩:=HF|obtain ⟨pp,rfl⟩:=HF
  go_wp2_with (fail);exact bodyPost_ret (v:=.tuple #[]) (by simp [results,Tryz.results188,go_sem]) rfl HP.out
def ReadG(good:Bool)(Ok:World→Nat→Value→Prop)(w:World)(e:Ending)(w':World):Prop:=
 Below w.heap.size w w'∧if good then ∃v,e=.returned (.tuple #[v,.int .i64 0])∧Ok w' w.heap.size v else e=.returned (.tuple #[.slice none 0 0,.int .i64 2])
theorem read_any(a:Option Addr)(len cap:Nat)(bs:List Int)(good:Bool)(Ok:World→Nat→Value→Prop)(hK:Keeps Ok)(w:World)(hv:VB w a bs)
  (hT:∀w,VB w a bs→Calls Tryz.prog 189 #[.agg #[.slice a len cap]] w (TakeG good Ok w)):
  Calls Tryz.prog 140 #[.slice a len cap] w (ReadG good Ok w):=by
 have hmf:∀(fn:Fn) (first cap:Array Value) (w:World),(Instr.makeFunc fn first cap).run Tryz.prog w=.ok (.func fn first cap) w:=fun _ _ _ _=>rfl
 have hcf:∀(caps:Array Value) w,(callFunc 188 caps).run Tryz.prog w=.ok (.enter 188 caps) w:=fun caps w=>by simp [go_sem]
 have HCF:=Bas.hid hcf;have HH:=Bas.hid fun W bb bo bt h0=>read1_any a len cap bs good Ok hK bb bo bt W h0 hT
 have HV:=Bas.hid hv;have HK:=Bas.hid hK;clear hcf hv hT hK;go_enter Tryz.func140,Tryz.ntmps140
 go_wp2_with (fail);generalize hW:(w.alloc (.cells #[.slice a len cap] 47)).alloc (.cells #[.slice none 0 0] 356)=W;have hWs:W.heap.size=w.heap.size+2:=by rw [←hW];simp
 have HB:Below w.heap.size w W:=by rw [←hW];exact ((Below.refl w.heap.size w).alloc (Nat.le_refl _) _).alloc (by simp) _
 have cell:∀b o v,b<w.heap.size+2→W.cell? ⟨b,o,none⟩=some v→(W.alloc (.cells #[.bool false] 4)).cell? ⟨b,o,none⟩=some v:=fun b o v hb h=>by
  rw [World.cell?_alloc_lt _ _ _ (by show b<_;omega)];exact h
 have HC:=HH.out (W.alloc (.cells #[.bool false] 4)) w.heap.size (w.heap.size+1) W.heap.size ((HV.out.below HB).below ((Below.refl _ _).alloc (Nat.le_refl _) _))
  (cell _ _ _ (by omega) (by rw [←hW];simp [go_sem])) (cell _ _ _ (by omega) (by rw [←hW];simp [go_sem])) (by rw [frozen?_alloc_cells,←hW];simp [go_sem]) (by omega) (Bas.heap_new _ _)
 clear HH cell hW;refine (try_any 188 _ W _ (HCF.out _) HC).mono ?_;clear HC HCF;rintro e w5 ⟨ok,w2,rfl,⟨hg2,hok,hfz2,v,hcv,hm⟩,hlt2,hg5⟩;subst hok;have hs2:=hg2.size;simp only [World.size_alloc] at hs2;have hs5:=hg5.size;have hcv5:w5.cell? ⟨w.heap.size+1,0,none⟩=some v:=(Bas.gcell hg5 (by omega) (by simp;omega)).trans hcv
 have hfz5:w5.frozen? ⟨w.heap.size+1,0,none⟩=false:=by
  rw [Bas.gfrozen hg5 (by omega) (by simp;omega)]
  exact hfz2
 have HB5:Below w.heap.size w w5:=Bas.below_g (Bas.below_g (HB.alloc HB.size _) hg2 (by simp;omega) (by omega)) hg5 (by omega) (by omega)
 have hm5:ok=true→∀u,Ok (w5.setCell ⟨w.heap.size+1,0,none⟩ u) w.heap.size v:=fun h u=>by
  refine HK.out.base _ _ _ _ (HK.out.keep _ _ _ _ (hm h) (fun g h1 h2=> ?_) (by simp [World.setCell];omega)) (by simp;omega)
  simp only [World.size_alloc] at h1;exact (Below.heap_setCell _ _ _ _ (by show g≠w.heap.size+1;omega)).trans (hg5.block g h2 (by simp;omega))
 have HM:=Bas.hid hm5;have HMS:=Bas.hid (fun h=>HK.out.form _ _ _ (hm h))
 clear hcv hfz2 hm hm5 hg2 hg5 HK;cases ok with
 |false=>
  clear HMS HM;go_wp2_with (fail);exact bodyPost_ret (v:=.tuple #[.slice none 0 0,.int .i64 2]) (by simp [results,Tryz.results140,go_sem,hcv5]) rfl ⟨HB5.setCell (by simp) _,by simp⟩
 |true=>
  obtain ⟨ad,nn,cp,hv'⟩:=HMS.out rfl;subst hv';have HM2:=Bas.hid (HM.out rfl);clear HMS HM;go_wp2_with (fail);exact bodyPost_ret (v:=.tuple #[.slice ad nn cp,.int .i64 0]) (by simp [results,Tryz.results140,go_sem,hcv5]) rfl ⟨HB5.setCell (by simp) _,by simp only [if_true];exact ⟨_,rfl,HM2.out _⟩⟩
end Fo
namespace Fo
open Vw Wr
def okTabs(P:List PartD)(w:World)(base:Nat)(v:Value):Prop:=w.ownsRow base 360 3 v P.length ((tabsM P).flatMap tabC)
theorem okTabs_keeps(P:List PartD):Keeps (okTabs P):=
 ⟨fun _ _ _ _ h hk _=>Row.owned_keep h fun g hg=>hk g (Row.own_block h hg).1 (Row.own_block h hg).2,fun _ _ _ _ h hb=>Row.owned_base h hb,fun _ _ _ h=>by obtain ⟨a,c,rfl⟩:=own_slice h;exact ⟨_,_,_,rfl⟩⟩
theorem tables_ok(a:Option Addr)(len cap:Nat)(bs:List Int)(P:List PartD)(w:World)(hl:len≤cap)(hc:cap≤maxLen)(hv:VB w a bs)(hbl:bs.length=len)(hF:IsFont bs P):
  Calls Tryz.prog 140 #[.slice a len cap] w fun e w'=>Below w.heap.size w w'∧∃v,e=.returned (.tuple #[v,.int .i64 0])∧w'.ownsRow w.heap.size 360 3 v P.length ((tabsM P).flatMap tabC):=by
 refine (read_any a len cap bs true _ (okTabs_keeps P) w hv (fun w' hv'=>(stake_ok a len cap bs P w' hl hc hv' hbl hF).mono ?_)).mono ?_
 ·rintro e w'' ⟨hb,v,rfl,ho⟩;exact ⟨hb,by simp only [if_true];exact ⟨_,rfl,ho⟩⟩
 ·rintro e w' ⟨hb,h⟩;simp only [if_true] at h;obtain ⟨v,rfl,ho⟩:=h;exact ⟨hb,v,rfl,ho⟩
def cmpS(s t:ByteArray):Int:=if ltS s t then -1 else if gtS s t then 1 else 0
theorem nan_any(s:ByteArray)(w:World):Calls Tryz.prog 190 #[.string s] w fun e w'=>e=.returned (.bool false)∧w=w':=by
 go_enter Tryz.func190,Tryz.ntmps190
 go_wp2_with (fail);go_ret;exact ⟨rfl,rfl⟩
theorem compare_any(s t:ByteArray)(w:World):Calls Tryz.prog 143 #[.string s,.string t] w fun e w'=>e=.returned (.int .i64 (cmpS s t))∧w=w':=by
 cases h1:Op.bytesLess s.toList t.toList with
 |true=>
  have HC:Hid (cmpS s t=-1):=by unfold Hid cmpS ltS;rw [h1];rfl
  go_enter Tryz.func143,Tryz.ntmps143
  go_wp2_with (go_at_call 190;refine (nan_any _ _).mono ?_;rintro e w' ⟨rfl,rfl⟩);go_ret;exact ⟨by rw [HC.out];rfl,rfl⟩
 |false=>
  cases h2:s.toList==t.toList with
  |true=>
   have HC:Hid (cmpS s t=0):=by unfold Hid cmpS ltS gtS;rw [h1,h2];rfl
   go_enter Tryz.func143,Tryz.ntmps143
   go_wp2_with (go_at_call 190;refine (nan_any _ _).mono ?_;rintro e w' ⟨rfl,rfl⟩);go_ret;exact ⟨by rw [HC.out];rfl,rfl⟩
  |false=>
   have HC:Hid (cmpS s t=1):=by unfold Hid cmpS ltS gtS;rw [h1,h2];rfl
   go_enter Tryz.func143,Tryz.ntmps143
   go_wp2_with (go_at_call 190;refine (nan_any _ _).mono ?_;rintro e w' ⟨rfl,rfl⟩);go_ret;exact ⟨by rw [HC.out];rfl,rfl⟩
theorem find1_any(s t:ByteArray)(a l:Int)(w:World):Calls Tryz.prog 142 #[.agg #[.string s,.int .i64 a,.int .i64 l],.string t] w fun e w'=>e=.returned (.int .i64 (cmpS s t))∧Below w.heap.size w w':=by
 have HB:=Bas.hid ((Below.refl w.heap.size w).alloc (Nat.le_refl _) (.cells #[.string s,.int .i64 a,.int .i64 l] 360));go_enter Tryz.func142,Tryz.ntmps142
 go_wp2_with (go_at_call 143;refine (compare_any _ _ _).mono ?_;rintro e w' ⟨rfl,rfl⟩);go_ret;exact ⟨rfl,HB.out⟩
theorem bl_trans:∀x y z:List UInt8,Op.bytesLess x y=true→Op.bytesLess y z=true→Op.bytesLess x z=true
 |_,[],_,h,_=>by simp [Op.bytesLess] at h
 |_,_::_,[],_,h=>by simp [Op.bytesLess] at h
 |[],_::_,_::_,_,_=>by simp [Op.bytesLess]
 |a::x,b::y,c::z,h1,h2=>by
  simp only [Op.bytesLess,Bool.or_eq_true,Bool.and_eq_true,decide_eq_true_eq,beq_iff_eq,UInt8.lt_iff_toNat_lt] at h1 h2 ⊢;rcases h1 with h1|⟨rfl,h1⟩
  ·rcases h2 with h2|⟨rfl,h2⟩
   ·exact .inl (by omega)
   ·exact .inl h1
  ·rcases h2 with h2|⟨rfl,h2⟩
   ·exact .inl h2
   ·exact .inr ⟨rfl,bl_trans x y z h1 h2⟩
theorem ltS_trans{a b c:ByteArray}(h1:ltS a b=true)(h2:ltS b c=true):ltS a c=true:=bl_trans _ _ _ h1 h2
theorem bl_irrefl:∀x:List UInt8,Op.bytesLess x x=false
 |[]=>rfl
 |a::x=>by simp [Op.bytesLess,bl_irrefl x]
theorem cmpS_neg(s t:ByteArray):cmpS s t<0↔ltS s t=true:=by
 unfold cmpS;split
 ·rename_i h;simp [h]
 ·rename_i h;split<;>simp [h]
theorem cmpS_self(s:ByteArray):cmpS s s=0:=by
 unfold cmpS ltS gtS;rw [bl_irrefl];simp
def BsP(w:World)(T:Nat→ByteArray)(t:ByteArray)(n:Nat)(e:Ending)(w':World):Prop:=
 ∃k,k≤n∧(∀j,j<k→ltS (T j) t=true)∧(∀j,k≤j→j<n→ltS (T j) t=false)∧e=.returned (.tuple #[.int .i64 (k:Nat),.bool (decide (k<n)&&(cmpS (T k) t==0))])∧Below w.heap.size w w'
theorem bs_any(G n cp:Nat)(T:Nat→ByteArray)(A L:Nat→Int)(t:ByteArray)(w:World)(hn:n≤100000)(hc:∀j,j<n→w.cell? ⟨G,j*3,none⟩=some (.string (T j))∧w.cell? ⟨G,j*3+1,none⟩=some (.int .i64 (A j))∧w.cell? ⟨G,j*3+2,none⟩=some (.int .i64 (L j)))
  (hr:∀i j,i<j→j<n→ltS (T i) (T j)=true):
  Calls Tryz.prog 141 #[.slice (some ⟨G,0,none⟩) n cp,.string t,.func (.func 142) #[] #[]] w (BsP w T t n):=by
 have hcf:∀args w,(callFunc 142 args).run Tryz.prog w=.ok (.enter 142 args) w:=fun args w=>by simp [go_sem]
 have HC:=Bas.hid hc;have HR:=Bas.hid hr;have HB0:=Bas.hid (Below.refl w.heap.size w);clear hc hr;go_enter Tryz.func141,Tryz.ntmps141
 go_wp2_with (fail);go_loopw [9,10] (fun va vb wr=>∃lo hi:Nat,lo≤hi∧hi≤n∧va=.int .i64 lo∧vb=.int .i64 hi∧(∀j,j<lo→ltS (T j) t=true)∧(∀j,hi≤j→j<n→ltS (T j) t=false)∧Below w.heap.size w wr) (fun va vb _=>(intOf vb).toNat - (intOf va).toNat)
 case atStart=>exact ⟨0,n,by omega,by omega,rfl,rfl,fun j h=>by omega,fun j h h'=>by omega,HB0.out⟩
 case round=>
  obtain ⟨lo,hi,hlh,hhn,rfl,rfl,hA,hB,hb⟩:=hrel;have HA:=Bas.hid hA;have HBB:=Bas.hid hB;have HB:=Bas.hid hb;clear hA hB hb;by_cases hlt:lo<hi
  ·have e1:decide ((lo:Int)<(hi:Int))=true:=by simp;omega
   have e2:decide (lo<hi)=true:=by simp;omega
   obtain ⟨m,hm⟩:∃m:Nat,(lo+hi) / 2=m:=⟨_,rfl⟩;obtain ⟨h0,h1,h2⟩:=HC.out m (by omega)
   have c0:=(HB.out.cell (p:=⟨G,m*3,none⟩) (World.block_lt_of_cell? _ _ h0)).trans h0;have c1:=(HB.out.cell (p:=⟨G,m*3+1,none⟩) (World.block_lt_of_cell? _ _ h1)).trans h1;have c2:=(HB.out.cell (p:=⟨G,m*3+2,none⟩) (World.block_lt_of_cell? _ _ h2)).trans h2;have hmm:((lo:Int)+(hi:Int)) / 2=(m:Int):=by omega
   clear h0 h1 h2;go_wp2_with (fail);obtain ⟨cv,hcv⟩:∃cv,cmpS (T m) t=cv:=⟨_,rfl⟩;refine (find1_any (T m) t (A m) (L m) wr).mono ?_;rintro e w2 ⟨rfl,hb2⟩;have HB2:=Bas.hid (HB.out.trans (hb2.mono HB.out.size));have hneg:=cmpS_neg (T m) t;rw [hcv] at hneg ⊢;have HNEG:=Bas.hid hneg;clear hb2 hcv hneg c0 c1 c2;by_cases hl:cv<0
   ·have f1:decide (cv<0)=true:=by simpa using hl
    have hlm:=HNEG.out.1 hl;have HA2:Hid (∀j,j<m+1→ltS (T j) t=true):=fun j hj=>by
     by_cases hjm:j=m
     ·subst hjm;exact hlm
     ·exact ltS_trans (HR.out j m (by omega) (by omega)) hlm
    clear hl hlm;go_wp2_with (fail);go_roundw
    case rel=>exact ⟨m+1,hi,by omega,hhn,by go_num,rfl,HA2.out,HBB.out,HB2.out⟩
    case measure=>simp [intOf];omega
   ·have f1:decide (cv<0)=false:=by simpa using hl
    have hlm:ltS (T m) t=false:=by
     cases h:ltS (T m) t with
     |false=>rfl
     |true=>exact absurd (HNEG.out.2 h) hl
    have HB3:Hid (∀j,m≤j→j<n→ltS (T j) t=false):=fun j h1 h2=>by
     cases h:ltS (T j) t with
     |false=>rfl
     |true=>
      by_cases hjm:m=j
      ·subst hjm;rw [h] at hlm;cases hlm
      ·have:=ltS_trans (HR.out m j (by omega) h2) h
       rw [this] at hlm;cases hlm
    clear hl hlm;go_wp2_with (fail);go_roundw
    case rel=>exact ⟨lo,m,by omega,by omega,rfl,by go_num,HA.out,HB3.out,HB2.out⟩
    case measure=>simp [intOf];omega
  ·have hlh2:lo=hi:=by omega
   subst hlh2;clear hlt;by_cases hkn:lo<n
   ·have e1:decide ((lo:Int)<(n:Int))=true:=by simp;omega
    have e2:decide (lo<n)=true:=by simp;omega
    obtain ⟨h0,h1,h2⟩:=HC.out lo hkn;have c0:=(HB.out.cell (p:=⟨G,lo*3,none⟩) (World.block_lt_of_cell? _ _ h0)).trans h0;have c1:=(HB.out.cell (p:=⟨G,lo*3+1,none⟩) (World.block_lt_of_cell? _ _ h1)).trans h1;have c2:=(HB.out.cell (p:=⟨G,lo*3+2,none⟩) (World.block_lt_of_cell? _ _ h2)).trans h2;clear h0 h1 h2;go_wp2_with (fail);obtain ⟨cv,hcv⟩:∃cv,cmpS (T lo) t=cv:=⟨_,rfl⟩;refine (find1_any (T lo) t (A lo) (L lo) wr).mono ?_;rintro e w2 ⟨rfl,hb2⟩;have HB2:=Bas.hid (HB.out.trans (hb2.mono HB.out.size));have HCV:=Bas.hid hcv;rw [hcv];have E2:=Bas.hid e2;clear hb2 hcv c0 c1 c2 e2 e1;go_wp2_with (fail);refine bodyPost_ret (v:=.tuple #[.int .i64 (lo:Nat),.bool (cv==0)]) (by simp [results,Tryz.results141,go_sem]) rfl ⟨lo,hhn,HA.out,HBB.out, ?_,HB2.out⟩
    rw [E2.out,HCV.out];rfl
   ·have e1:decide ((lo:Int)<(n:Int))=false:=by simp;omega
    have e2:decide (lo<n)=false:=by simp;omega
    have E2:=Bas.hid e2;go_wp2_with (fail);refine bodyPost_ret (v:=.tuple #[.int .i64 (lo:Nat),.bool false]) (by simp [results,Tryz.results141,go_sem]) rfl ⟨lo,hhn,HA.out,HBB.out, ?_,HB.out⟩
    rw [E2.out];rfl
theorem toList_eq_data(s:ByteArray):s.toList=s.data.toList:=ByteArray.toList_eq s
theorem str_eq(s t:ByteArray)(h:(s.toList==t.toList)=true):s=t:=by
 have h1:s.toList=t.toList:=by simpa using h
 rw [toList_eq_data,toList_eq_data] at h1;cases s;cases t;simp only [ByteArray.mk.injEq];exact Array.toList_inj.1 h1
theorem cmpS_zero(s t:ByteArray)(h:cmpS s t=0):s=t:=by
 unfold cmpS at h;split at h
 ·cases h
 ·split at h
  ·cases h
  ·rename_i h1 h2
   unfold ltS at h1;unfold gtS at h2;refine str_eq s t ?_;cases h3:s.toList==t.toList with
   |true=>rfl
   |false=>
    rw [h3] at h2;simp at h1 h2;rw [h1] at h2;cases h2
theorem find_yes(a:Option Addr)(len cap:Nat)(bs:List Int)(P:List PartD)(s:ByteArray)(i:Nat)(p:PartD)(hp:P[i]? =some p)(hs:p.tag=s)(w:World)(hl:len≤cap)(hc:cap≤maxLen)(hv:VB w a bs)(hbl:bs.length=len)(hF:IsFont bs P):
  Calls Tryz.prog 93 #[.slice a len cap,.string s] w fun e w'=>e=.returned (.tuple #[.agg #[.slice (sub a (atM P i) p.data.length) p.data.length p.data.length],.bool true])∧Below w.heap.size w w':=by
 have hil:i<P.length:=(List.getElem?_eq_some_iff.1 hp).1;obtain ⟨n,hn⟩:∃n,P.length=n:=⟨_,rfl⟩;have HN:=Bas.hid hn;have HF:=Bas.hid hF;have HTAB:=Bas.hid (fun w' (hv':VB w' a bs)=>tables_ok a len cap bs P w' hl hc hv' hbl hF)
 have HV:=Bas.hid hv;have hn1:1≤n:=by omega
 have hn2:n≤100000:=by have:=hF.len;have:=hF.few;omega
 have HAL:=Bas.hid ((Below.refl w.heap.size w).alloc (Nat.le_refl _) (.cells #[.slice none 0 0] 190));have k4:=Bas.heap_new w (.cells #[.slice none 0 0] 190);have hgi:P.getD i default=p:=by rw [List.getD_eq_getElem?_getD,hp];rfl
 obtain ⟨-,hend⟩:=hF.data i p hp;rw [hbl] at hend;have HGI:=Bas.hid hgi;have HCUT:Hid (∀w',Calls Tryz.prog 95 #[.agg #[.slice a len cap],.int .i64 (atM P i:Nat),.int .i64 (p.data.length:Nat)] w' fun e w''=>e=.returned (.agg #[.slice (sub a (atM P i) p.data.length) p.data.length p.data.length])∧Below w'.heap.size w' w''):=fun w'=>by
  have h:=cut_ok a len cap (atM P i:Nat) (p.data.length:Nat) w' hl hc (by omega) (by omega) (by omega)
  simpa using h
 have HOF:=Bas.hid (fun w'=>of_any a len cap w')
 have hin:i<n:=by omega
 clear hv hF hgi hend;go_enter Tryz.func93,Tryz.ntmps93
 go_wp2_with (fail);generalize w.alloc (.cells #[.slice none 0 0] 190)=W at*;refine (HTAB.out _ (HV.out.below HAL.out)).mono ?_;rintro e w1 ⟨hb1,v,rfl,hown⟩;have j4:=(hb1.block _ (heap_lt k4)).trans k4;have HB1:=Bas.hid (HAL.out.trans (hb1.mono HAL.out.size));have hcells:∀j,j<n→∃GG C,v=.slice (some ⟨GG,0,none⟩) n C∧w1.cell? ⟨GG,j*3,none⟩=some (.string (P.getD j default).tag)∧w1.cell? ⟨GG,j*3+1,none⟩=some (.int .i64 (atM P j:Nat))∧w1.cell? ⟨GG,j*3+2,none⟩=some (.int .i64 ((P.getD j default).data.length:Nat)):=by
  intro j hj;obtain ⟨p',hp'⟩:∃p,P[j]? =some p:=⟨_,List.getElem?_eq_getElem (by omega)⟩
  obtain ⟨GG,C,hv,-,-,-,hcl⟩:=Row.elem_cells tabC_len hown (tabsM_get P j p' hp') (by omega) (by rw [tabsM_len])
  have hg:P.getD j default=p':=by rw [List.getD_eq_getElem?_getD,hp'];rfl
  rw [hg];exact ⟨GG,C,by rw [←hn];exact hv,hcl 0 _ rfl,hcl 1 _ rfl,hcl 2 _ rfl⟩
 obtain ⟨G,C,rfl,-⟩:=hcells 0 (by omega)
 have HC1:Hid (∀j,j<n→w1.cell? ⟨G,j*3,none⟩=some (.string (P.getD j default).tag)∧w1.cell? ⟨G,j*3+1,none⟩=some (.int .i64 (atM P j:Nat))∧w1.cell? ⟨G,j*3+2,none⟩=some (.int .i64 ((P.getD j default).data.length:Nat))):=by
  intro j hj;obtain ⟨GG,CC,hv,h⟩:=hcells j hj;cases hv;exact h
 have HBS:=Bas.hid (bs_any G n C (fun j=>(P.getD j default).tag) (fun j=>(atM P j:Nat)) (fun j=>((P.getD j default).data.length:Nat)) s w1 hn2 HC1.out (fun i j hij hj=>by
  obtain ⟨pi,hpi⟩:∃p,P[i]? =some p:=⟨_,List.getElem?_eq_getElem (by omega)⟩
  obtain ⟨pj,hpj⟩:∃p,P[j]? =some p:=⟨_,List.getElem?_eq_getElem (by omega)⟩
  simp only [List.getD_eq_getElem?_getD,hpi,hpj,Option.getD_some];exact HF.out.rise i j pi pj hij hpi hpj))
 clear hown hb1 k4 hcells HTAB HAL hn;go_wp2_with (fail);refine HBS.out.mono ?_;rintro e w2 ⟨k,hkn,hkA,hkB,rfl,hb2⟩;have hki:k=i:=by
  rcases Nat.lt_trichotomy k i with h|h|h
  ·have h1:=hkB k (Nat.le_refl _) (by omega)
   obtain ⟨pk,hpk⟩:∃p,P[k]? =some p:=⟨_,List.getElem?_eq_getElem (by omega)⟩
   simp only [List.getD_eq_getElem?_getD,hpk,Option.getD_some] at h1;rw [←hs,HF.out.rise k i pk p h hpk hp] at h1;cases h1
  ·exact h
  ·have h1:=hkA i h;simp only [HGI.out,hs] at h1;unfold ltS at h1;rw [bl_irrefl] at h1;cases h1
 subst hki;have hfnd:(decide (k<n)&&(cmpS (P.getD k default).tag s==0))=true:=by rw [HGI.out,hs,cmpS_self];simp [hin]
 rw [hfnd];have m4:=(hb2.block _ (heap_lt j4)).trans j4;have HB2:=Bas.hid (HB1.out.trans (hb2.mono HB1.out.size));obtain ⟨-,h1,h2⟩:=HC1.out k hin;rw [HGI.out] at h2;have lG:=World.block_lt_of_cell? _ _ h1;have c1:=(hb2.cell (p:=⟨G,k*3+1,none⟩) (World.block_lt_of_cell? _ _ h1)).trans h1;have c2:=(hb2.cell (p:=⟨G,k*3+2,none⟩) (World.block_lt_of_cell? _ _ h2)).trans h2;have lG2:=World.block_lt_of_cell? _ _ c1;clear hb2 j4 HB1 HC1 h1 h2 hkA hkB hfnd HBS hp hs;go_wp2_with (fail);refine' Pl.region_v0 37 [] [0,1,2,3,4,5,6,7,8,9,10,11,12] [13,14] _ (by kernel_rfl) (by kernel_rfl) (by simp) (fun _ _ _ _ e h=>⟨e▸h.1,h.2⟩) ?_ ?_
 rotate_left
 ·intro I F hI hF;simp only [Pl.selN,List.nil_append,List.drop_succ_cons,List.drop_zero];have x1:=fun q=>hF.cell lG2 c1 q
  have x2:=fun q=>hF.cell lG2 c2 q
  repeat (go_big_quiet_step ((first|(go_at_call 47;with_reducible exact hF.call (HOF.out _))|(go_at_call 95;with_reducible exact hF.call (HCUT.out _)))))
  refine wpQuiet_nil ?_;rfl
 intro u hu;simp only [Pl.selN,List.drop_succ_cons,List.drop_zero];have n4:=(hu.block _ (heap_lt m4)).trans m4;have HBU:=Bas.hid (HB2.out.trans (hu.mono HB2.out.size));have r0:=cell_of_heap (i:=0) (v:=.slice none 0 0) n4 rfl;have f0:=free_of_heap (i:=0) n4;clear hu m4 HB2 c1 c2;go_wp2_with (fail);refine bodyPost_ret (v:=.tuple #[.agg #[.slice (sub a (atM P k) p.data.length) p.data.length p.data.length],.bool true]) (by simp [results,Tryz.results93,go_sem,r0]) rfl ⟨rfl,HBU.out.setCell (p:=⟨w.heap.size,0,none⟩) (Nat.le_refl _) _⟩
theorem find_no(a:Option Addr)(len cap:Nat)(bs:List Int)(P:List PartD)(s:ByteArray)(hP:1≤P.length)(hs:∀p∈P,p.tag≠s)(w:World)(hl:len≤cap)(hc:cap≤maxLen)(hv:VB w a bs)(hbl:bs.length=len)(hF:IsFont bs P):
  Calls Tryz.prog 93 #[.slice a len cap,.string s] w fun e w'=>e=.returned (.tuple #[.agg #[.slice none 0 0],.bool false])∧Below w.heap.size w w':=by
 obtain ⟨n,hn⟩:∃n,P.length=n:=⟨_,rfl⟩;have HN:=Bas.hid hn;have HF:=Bas.hid hF;have HTAB:=Bas.hid (fun w' (hv':VB w' a bs)=>tables_ok a len cap bs P w' hl hc hv' hbl hF)
 have HV:=Bas.hid hv;have hn1:1≤n:=by omega
 have hn2:n≤100000:=by have:=hF.len;have:=hF.few;omega
 have HAL:=Bas.hid ((Below.refl w.heap.size w).alloc (Nat.le_refl _) (.cells #[.slice none 0 0] 190));have k4:=Bas.heap_new w (.cells #[.slice none 0 0] 190);clear hv hF;go_enter Tryz.func93,Tryz.ntmps93
 go_wp2_with (fail);generalize w.alloc (.cells #[.slice none 0 0] 190)=W at*;refine (HTAB.out _ (HV.out.below HAL.out)).mono ?_;rintro e w1 ⟨hb1,v,rfl,hown⟩;have j4:=(hb1.block _ (heap_lt k4)).trans k4;have HB1:=Bas.hid (HAL.out.trans (hb1.mono HAL.out.size));have hcells:∀j,j<n→∃GG C,v=.slice (some ⟨GG,0,none⟩) n C∧w1.cell? ⟨GG,j*3,none⟩=some (.string (P.getD j default).tag)∧w1.cell? ⟨GG,j*3+1,none⟩=some (.int .i64 (atM P j:Nat))∧w1.cell? ⟨GG,j*3+2,none⟩=some (.int .i64 ((P.getD j default).data.length:Nat)):=by
  intro j hj;obtain ⟨p',hp'⟩:∃p,P[j]? =some p:=⟨_,List.getElem?_eq_getElem (by omega)⟩
  obtain ⟨GG,C,hv,-,-,-,hcl⟩:=Row.elem_cells tabC_len hown (tabsM_get P j p' hp') (by omega) (by rw [tabsM_len])
  have hg:P.getD j default=p':=by rw [List.getD_eq_getElem?_getD,hp'];rfl
  rw [hg];exact ⟨GG,C,by rw [←hn];exact hv,hcl 0 _ rfl,hcl 1 _ rfl,hcl 2 _ rfl⟩
 obtain ⟨G,C,rfl,-⟩:=hcells 0 (by omega)
 have HC1:Hid (∀j,j<n→w1.cell? ⟨G,j*3,none⟩=some (.string (P.getD j default).tag)∧w1.cell? ⟨G,j*3+1,none⟩=some (.int .i64 (atM P j:Nat))∧w1.cell? ⟨G,j*3+2,none⟩=some (.int .i64 ((P.getD j default).data.length:Nat))):=by
  intro j hj;obtain ⟨GG,CC,hv,h⟩:=hcells j hj;cases hv;exact h
 have HBS:=Bas.hid (bs_any G n C (fun j=>(P.getD j default).tag) (fun j=>(atM P j:Nat)) (fun j=>((P.getD j default).data.length:Nat)) s w1 hn2 HC1.out (fun i j hij hj=>by
  obtain ⟨pi,hpi⟩:∃p,P[i]? =some p:=⟨_,List.getElem?_eq_getElem (by omega)⟩
  obtain ⟨pj,hpj⟩:∃p,P[j]? =some p:=⟨_,List.getElem?_eq_getElem (by omega)⟩
  simp only [List.getD_eq_getElem?_getD,hpi,hpj,Option.getD_some];exact HF.out.rise i j pi pj hij hpi hpj))
 clear hown hb1 k4 hcells HTAB HAL hn;go_wp2_with (fail);refine HBS.out.mono ?_;rintro e w2 ⟨k,hkn,hkA,hkB,rfl,hb2⟩;have hfnd:(decide (k<n)&&(cmpS (P.getD k default).tag s==0))=false:=by
  by_cases hk:k<n
  ·obtain ⟨pk,hpk⟩:∃p,P[k]? =some p:=⟨_,List.getElem?_eq_getElem (by have:=HN.out;omega)⟩
   have h1:¬cmpS (P.getD k default).tag s=0:=fun h=>by
    simp only [List.getD_eq_getElem?_getD,hpk,Option.getD_some] at h;exact hs pk (List.mem_of_getElem? hpk) (cmpS_zero _ _ h)
   simp [h1,-List.getD_eq_getElem?_getD]
  ·simp [hk]
 rw [hfnd];have m4:=(hb2.block _ (heap_lt j4)).trans j4;have HB2:=Bas.hid (HB1.out.trans (hb2.mono HB1.out.size));have r0:=cell_of_heap (i:=0) (v:=.slice none 0 0) m4 rfl;have f0:=free_of_heap (i:=0) m4;clear hb2 j4 HB1 HC1 hkA hkB hfnd HBS;go_wp2_with (fail);refine bodyPost_ret (v:=.tuple #[.agg #[.slice none 0 0],.bool false]) (by simp [results,Tryz.results93,go_sem,r0]) rfl ⟨rfl,by first|exact HB2.out|exact HB2.out.setCell (p:=⟨w.heap.size,0,none⟩) (Nat.le_refl _) _⟩
def sMaxp:ByteArray:=⟨#[109,97,120,112]⟩
def sHead:ByteArray:=⟨#[104,101,97,100]⟩
def sHhea:ByteArray:=⟨#[104,104,101,97]⟩
def zs(n:Nat):List Int:=List.replicate n 0
def maxpL(g:Int):List Int:=putB 65536 4++putB g 2
def headL(u:Int):List Int:=zs 12++putB 1594834165 4++[0,0]++putB u 2++zs 34
def hheaL(m:Int):List Int:=zs 34++putB m 2
theorem zs_len(n:Nat):(zs n).length=n:=by simp [zs]
theorem made_u8(n:Nat):madeCells (Value.int .u8 0).cells n=((zs n).map (Value.int .u8)).toArray:=by
 apply Array.ext
 ·simp [madeCells,zs]
 ·intro i h1 h2;simp [madeCells,Value.cells,zs,Nat.mod_one]
theorem mk_u8(w:World)(n:Nat)(hn:n≤1000000):(Instr.makeSlice 47 (.int .i64 n) (.int .i64 n)).run Tryz.prog w=.ok (.slice (some ⟨w.heap.size,0,none⟩) n n) (w.alloc (.cells ((zs n).map (Value.int .u8)).toArray 5)):=by
 obtain ⟨i8,hi,hz,hs,hb⟩:=info_parts info8;have h:=run_make (P:=Tryz.prog) w 47 5 i8 (.int .u8 0) Tryz.underlying47 hi hz .i64 .i64 n n (by omega) (Int.le_refl _) (by rw [hb];omega) (by omega)
 rw [hs,Nat.mul_one,made_u8] at h;simpa using h
theorem owned_alloc(w:World)(base:Nat)(xs:List Int)(hb:base≤w.heap.size)(hl:xs.length≤maxLen):(w.alloc (.cells (xs.map (Value.int .u8)).toArray 5)).ownsRow base 5 1 (.slice (some ⟨w.heap.size,0,none⟩) xs.length xs.length) xs.length (xs.map (Value.int .u8)):=
 ⟨by simp,.inr ⟨w.heap.size,xs.length,_,rfl,hb,Bas.heap_new _ _,Nat.le_refl _,hl,by simp,by simp only;exact List.take_of_length_le (by rw [List.length_map];omega)⟩⟩
theorem keep_row{w w':World}{base base':Nat}{v u u':Value}{xs ys:List Int}(h:w.ownsRow base 5 1 v xs.length (xs.map (Value.int .u8)))(g:Grown w base' u ys u' w')(ha:∀b,v.ownBlock=some b→u.ownBlock≠some b):
  w'.ownsRow base 5 1 v xs.length (xs.map (Value.int .u8)):=Row.owned_keep h fun b hb=>g.grow.block b (Row.own_block h hb).2 (fun e=>ha b hb e.symm)
theorem keep_apart{w w':World}{base base':Nat}{v u u':Value}{xs ys:List Int}(h:w.ownsRow base 5 1 v xs.length (xs.map (Value.int .u8)))(g:Grown w base' u ys u' w')(ha:∀b,v.ownBlock=some b→u.ownBlock≠some b):
  ∀b,v.ownBlock=some b→u'.ownBlock≠some b:=by
 intro b hb e;rcases g.at' with h1|⟨c,h1,h2⟩
 ·exact ha b hb (h1▸e)
 ·rw [h1] at e;cases e;exact absurd (Row.own_block h hb).2 (Nat.not_lt.2 h2)
def Own3(w:World)(base G:Nat)(t0 t1 t2:ByteArray)(r0 r1 r2:Value)(d0 d1 d2:List Int):Prop:=
 base≤G∧w.heap[G]? =some (.cells #[.string t0,r0,.string t1,r1,.string t2,r2] 101 (0,0))∧
 w.ownsRow base 5 1 r0 d0.length (d0.map (Value.int .u8))∧w.ownsRow base 5 1 r1 d1.length (d1.map (Value.int .u8))∧w.ownsRow base 5 1 r2 d2.length (d2.map (Value.int .u8))∧
 (∀b,r0.ownBlock=some b→r1.ownBlock≠some b)∧(∀b,r0.ownBlock=some b→r2.ownBlock≠some b)∧∀b,r1.ownBlock=some b→r2.ownBlock≠some b
theorem plain_any(g u m:Int)(w:World)(hg:0≤g∧g≤9223372036854775807)(hu:0≤u∧u≤9223372036854775807)(hm:0≤m∧m≤9223372036854775807):
  Calls Tryz.prog 32 #[.int .i64 g,.int .i64 u,.int .i64 m] w fun e w'=>∃G r0 r1 r2,e=.returned (.slice (some ⟨G,0,none⟩) 3 3)∧Own3 w' w.heap.size G sMaxp sHead sHhea r0 r1 r2 (maxpL g) (headL u) (hheaL m)∧Below w.heap.size w w':=by
 obtain ⟨g0,g1⟩:=hg;obtain ⟨u0,u1⟩:=hu;obtain ⟨m0,m1⟩:=hm;have mk12:=fun w=>mk_u8 w 12 (by omega)
 have mk34:=fun w=>mk_u8 w 34 (by omega)
 have c12:((12:Nat):Int)=12:=rfl;have c34:((34:Nat):Int)=34:=rfl;rw [c12] at mk12;rw [c34] at mk34;clear c12 c34;go_enter Tryz.func32,Tryz.ntmps32
 go_wp2_with (fail);refine (put_any 65536 4 w.heap.size _ [] w (by omega) (by omega) (by omega) (by simp []) (Nat.le_refl _) (Row.owned_nil _ _ _ _)).mono ?_
 rintro e x1 ⟨v1,rfl,gg1⟩;go_wp2_with (fail);refine (put_any g 2 w.heap.size _ _ x1 (by omega) (by omega) (by omega) (by simp [putB_len]) gg1.grow.size gg1.own).mono ?_
 rintro e x2 ⟨v2,rfl,gg2⟩;go_wp2_with (fail);have g2:=gg1.trans gg2;have HB2:=Bas.hid (g2.below (Below.refl w.heap.size w) (Nat.le_refl _) (fun g h=>by cases h))
 have hr0:x2.ownsRow w.heap.size 5 1 v2 (maxpL g).length ((maxpL g).map (Value.int .u8)):=by
  have h:=g2.own;simp only [List.nil_append] at h;exact h
 have hbM:=(Below.refl x2.heap.size x2).alloc (Nat.le_refl _) (.cells ((zs 12).map (Value.int .u8)).toArray 5);have T3:TwoRows (x2.alloc (.cells ((zs 12).map (Value.int .u8)).toArray 5)) w.heap.size v2 (maxpL g) (.slice (some ⟨x2.heap.size,0,none⟩) 12 12) (zs 12):=
  ⟨Row.owned_below hr0 hbM,owned_alloc x2 w.heap.size (zs 12) HB2.out.size (by rw [zs_len];unfold maxLen;omega),fun b hb e=>by cases e;exact Nat.lt_irrefl _ (Row.own_block hr0 hb).2⟩
 have HB3:=Bas.hid (Bas.on HB2.out hbM);have HT3:=Bas.hid T3;generalize x2.alloc (.cells ((zs 12).map (Value.int .u8)).toArray 5)=X3 at*;clear gg1 gg2 g2 hr0 hbM T3 HB2;refine (put_any 1594834165 4 w.heap.size _ (zs 12) X3 (by omega) (by omega) (by omega) (by rw [zs_len];omega) HB3.out.size HT3.out.r).mono ?_
 rintro e x4 ⟨v4,rfl,g4⟩;have HT4:=Bas.hid (HT3.out.growR g4);have HB4:=Bas.hid (g4.below HB3.out HB3.out.size (fun g h=>(Row.own_block HT3.out.r h).1))
 clear g4 HT3 HB3;have hl4:(zs 12++putB 1594834165 4).length=16:=by rw [List.length_append,zs_len,putB_len]
 obtain ⟨ad4,cp4,hv4⟩:=row_slice HT4.out.r;rw [hl4] at hv4;subst hv4;go_wp2_with (at_builtin;refine Row.fence ?_);refine Row.unfence ?_;have hb5:=(Below.refl x4.heap.size x4).alloc (Nat.le_refl _) (.cells #[.int .u8 0,.int .u8 0] 5);have k5:=Bas.heap_new x4 (.cells #[.int .u8 0,.int .u8 0] 5);have HT5:=Bas.hid (HT4.out.below hb5);have HB5:=Bas.hid (Bas.on HB4.out hb5);generalize x4.alloc (.cells #[.int .u8 0,.int .u8 0] 5)=X5 at*;refine (Row.append_at rfl _ _ 47 5 rfl (.int .u8 0) 1 1 Tryz.underlying47 info8 rfl (by decide) w.heap.size (.slice ad4 16 cp4) 16 _ rfl (hl4▸HT5.out.r) (.slice (some ⟨x4.heap.size,0,none⟩) 2 2) 2 [.int .u8 0,.int .u8 0] rfl (leads_heap k5) rfl (by simp;rfl) (by unfold maxLen;omega) (by omega) HB5.out.size ?_)
 intro v6 x6 h61 h62 _ h63;have g6:Grown X5 w.heap.size (.slice ad4 16 cp4) (zs 12++putB 1594834165 4++[0,0]) v6 x6:=⟨by rw [List.map_append,List.length_append,hl4];exact h61,h62,h63.imp id fun h=>⟨_,h,Nat.le_refl _⟩⟩
 have HT6:=Bas.hid (HT5.out.growR g6);have HB6:=Bas.hid (g6.below HB5.out HB5.out.size (fun g h=>(Row.own_block HT5.out.r h).1))
 clear h61 h62 h63 g6 k5 hb5 HT4 HT5 HB4 HB5 hl4;go_wp2_with (fail);refine (put_any u 2 w.heap.size _ _ x6 (by omega) (by omega) (by omega) (by simp [putB_len,zs_len]) HB6.out.size HT6.out.r).mono ?_
 rintro e x7 ⟨v7,rfl,g7⟩;have HT7:=Bas.hid (HT6.out.growR g7);have HB7:=Bas.hid (g7.below HB6.out HB6.out.size (fun g h=>(Row.own_block HT6.out.r h).1))
 clear g7 HT6 HB6;have hl7:(zs 12++putB 1594834165 4++[0,0]++putB u 2).length=20:=by simp [zs_len,putB_len]
 obtain ⟨ad7,cp7,hv7⟩:=row_slice HT7.out.r;rw [hl7] at hv7;subst hv7;go_wp2_with (at_builtin;refine Row.fence ?_);refine Row.unfence ?_;refine (Row.append_zeros rfl _ _ 47 3 5 rfl (.int .u8 0) 1 .i64 .i64 Tryz.underlying47 Tryz.underlying3 info8 rfl rfl w.heap.size (.slice ad7 20 cp7) 20 _ rfl (hl7▸HT7.out.r) 34 rfl (by unfold maxLen;omega) (by omega) HB7.out.size ?_)
 intro v8 x8 h81 h82 _ h83;have g8:Grown x7 w.heap.size (.slice ad7 20 cp7) (headL u) v8 x8:=⟨by
  have hzr:(zs 34).map (Value.int .u8)=List.replicate 34 (.int .u8 0):=by simp [zs]
  rw [headL,List.map_append,List.length_append,hl7,hzr,zs_len];exact h81,h82,h83.imp id fun h=>⟨_,h,Nat.le_refl _⟩⟩
 have HT8:=Bas.hid (HT7.out.growR g8);have HB8:=Bas.hid (g8.below HB7.out HB7.out.size (fun g h=>(Row.own_block HT7.out.r h).1))
 clear h81 h82 h83 g8 HT7 HB7 hl7;go_wp2_with (fail);have hbN:=(Below.refl x8.heap.size x8).alloc (Nat.le_refl _) (.cells ((zs 34).map (Value.int .u8)).toArray 5);have HT9:=Bas.hid (HT8.out.below hbN);have HB9:=Bas.hid (Bas.on HB8.out hbN);have HR9:Hid ((x8.alloc (.cells ((zs 34).map (Value.int .u8)).toArray 5)).ownsRow w.heap.size 5 1 (.slice (some ⟨x8.heap.size,0,none⟩) 34 34) (zs 34).length ((zs 34).map (Value.int .u8))):=
  owned_alloc x8 w.heap.size (zs 34) HB8.out.size (by rw [zs_len];unfold maxLen;omega)
 have ha0:∀b,v2.ownBlock=some b→Value.ownBlock (.slice (some ⟨x8.heap.size,0,none⟩) 34 34)≠some b:=fun b hb e=>by cases e;exact Nat.lt_irrefl _ (Row.own_block HT8.out.l hb).2
 have ha1:∀b,v8.ownBlock=some b→Value.ownBlock (.slice (some ⟨x8.heap.size,0,none⟩) 34 34)≠some b:=fun b hb e=>by cases e;exact Nat.lt_irrefl _ (Row.own_block HT8.out.r hb).2
 have HA0:=Bas.hid ha0;have HA1:=Bas.hid ha1;generalize x8.alloc (.cells ((zs 34).map (Value.int .u8)).toArray 5)=X9 at*;clear hbN HT8 HB8 ha0 ha1;refine (put_any m 2 w.heap.size _ (zs 34) X9 (by omega) (by omega) (by omega) (by rw [zs_len];omega) HB9.out.size HR9.out).mono ?_
 rintro e x10 ⟨v10,rfl,g10⟩;have HB10:=Bas.hid (g10.below HB9.out HB9.out.size (fun g h=>(Row.own_block HR9.out h).1))
 have HR0:=Bas.hid (keep_row HT9.out.l g10 HA0.out);have HR1:=Bas.hid (keep_row HT9.out.r g10 HA1.out);have HR2:Hid (x10.ownsRow w.heap.size 5 1 v10 (hheaL m).length ((hheaL m).map (Value.int .u8))):=g10.own;have HA02:=Bas.hid (keep_apart HT9.out.l g10 HA0.out);have HA12:=Bas.hid (keep_apart HT9.out.r g10 HA1.out);have HA01:=Bas.hid HT9.out.apart;obtain ⟨b0,p0,hv0⟩:=row_slice HR0.out;obtain ⟨b1,p1,hv1⟩:=row_slice HR1.out;obtain ⟨b2,p2,hv2⟩:=row_slice HR2.out;subst hv0 hv1 hv2;clear g10 HT9 HB9 HR9 HA0 HA1 mk12 mk34;go_wp2_with (fail);go_ret;have hbX:=(Below.refl x10.heap.size x10).alloc (Nat.le_refl _) (.cells #[.string sMaxp,.slice b0 (maxpL g).length p0,.string sHead,.slice b1 (headL u).length p1,.string sHhea,.slice b2 (hheaL m).length p2] 101);exact ⟨x10.heap.size,_,_,_,rfl,⟨HB10.out.size,Bas.heap_new _ _,Row.owned_below HR0.out hbX,Row.owned_below HR1.out hbX,Row.owned_below HR2.out hbX,HA01.out,HA02.out,HA12.out⟩,Bas.on HB10.out hbX⟩
theorem table_yes(a:Option Addr)(len cap:Nat)(bs:List Int)(P:List PartD)(s:ByteArray)(i:Nat)(p:PartD)(hp:P[i]? =some p)(hs:p.tag=s)(w:World)(hl:len≤cap)(hc:cap≤maxLen)(hv:VB w a bs)(hbl:bs.length=len)(hF:IsFont bs P):
  Calls Tryz.prog 187 #[.slice a len cap,.string s] w fun e w'=>e=.returned (.agg #[.slice (sub a (atM P i) p.data.length) p.data.length p.data.length])∧Below w.heap.size w w':=by
 have HAL:=Bas.hid ((Below.refl w.heap.size w).alloc (Nat.le_refl _) (.cells #[.slice none 0 0] 190));have k4:=Bas.heap_new w (.cells #[.slice none 0 0] 190);have HFI:=Bas.hid (find_yes a len cap bs P s i p hp hs _ hl hc (hv.below HAL.out) hbl hF);clear hv hF hp hs;go_enter Tryz.func187,Tryz.ntmps187
 go_wp2_with (fail);generalize w.alloc (.cells #[.slice none 0 0] 190)=W at*;refine HFI.out.mono ?_;rintro e w1 ⟨rfl,hb1⟩;have j4:=(hb1.block _ (heap_lt k4)).trans k4;have HB1:=Bas.hid (HAL.out.trans (hb1.mono HAL.out.size));have r0:=cell_of_heap (i:=0) (v:=.slice none 0 0) j4 rfl;have f0:=free_of_heap (i:=0) j4;have l4:=heap_lt j4;clear hb1 k4 HFI HAL;go_wp2_with (go_at_call 56;refine (need_yesb _ _ rfl).mono ?_;rintro e w' ⟨rfl,rfl⟩);refine bodyPost_ret (v:=.agg #[.slice (sub a (atM P i) p.data.length) p.data.length p.data.length]) (by simp [results,Tryz.results187,go_sem,r0,l4]) rfl ⟨rfl,by first|exact (HB1.out.alloc HB1.out.size _).setCell (p:=⟨w.heap.size,0,none⟩) (Nat.le_refl _) _|exact (HB1.out.setCell (p:=⟨w.heap.size,0,none⟩) (Nat.le_refl _) _).alloc (by simp [World.setCell];exact HB1.out.size) _⟩
def faceL(dm dh de:List Int):Option (Int×Int×Int):=
 if 54≤dh.length∧36≤de.length∧6≤dm.length∧
  (1≤be dm 4 2∧16≤be dh 18 2∧be dh 18 2≤16384∧1≤be de 34 2∧be de 34 2≤be dm 4 2) then some (be dm 4 2,be dh 18 2,be de 34 2) else none
def FaceP(w:World)(dm dh de:List Int)(e:Ending)(w':World):Prop:=
 Below w.heap.size w w'∧e=match faceL dm dh de with
  |none=>.panicked short
  |some x=>.returned (.agg #[.int .i64 x.1,.int .i64 x.2.1,.int .i64 x.2.2])
theorem ftake_any(a:Option Addr)(len cap:Nat)(am ah ae:Option Addr)(lm lh le:Nat)(dm dh de:List Int)(w:World)
  (hT1:∀w',Below w.heap.size w w'→Calls Tryz.prog 187 #[.slice a len cap,.string sMaxp] w' fun e w''=>e=.returned (.agg #[.slice am lm lm])∧Below w'.heap.size w' w'')
  (hT2:∀w',Below w.heap.size w w'→Calls Tryz.prog 187 #[.slice a len cap,.string sHead] w' fun e w''=>e=.returned (.agg #[.slice ah lh lh])∧Below w'.heap.size w' w'')
  (hT3:∀w',Below w.heap.size w w'→Calls Tryz.prog 187 #[.slice a len cap,.string sHhea] w' fun e w''=>e=.returned (.agg #[.slice ae le le])∧Below w'.heap.size w' w'')
  (hv1:VB w am dm) (hv2:VB w ah dh) (hv3:VB w ae de) (hl1:dm.length=lm) (hl2:dh.length=lh) (hl3:de.length=le) (hs1:lm≤1000000) (hs2:lh≤1000000) (hs3:le≤1000000) (hkd:4≤lm→be dm 0 4=65536) (hmg:54≤lh→be dh 12 4=1594834165):
  Calls Tryz.prog 139 #[.slice a len cap] w (FaceP w dm dh de):=by
 have hx1:lm≤maxLen:=by unfold maxLen;omega
 have hx2:lh≤maxLen:=by unfold maxLen;omega
 have hx3:le≤maxLen:=by unfold maxLen;omega
 have z0:(0:Int).toNat=0:=rfl;have z4:(4:Int).toNat=4:=rfl;have z12:(12:Int).toNat=12:=rfl;have z18:(18:Int).toNat=18:=rfl;have z34:(34:Int).toNat=34:=rfl;have z36:(36:Int).toNat=36:=rfl;have z54:(54:Int).toNat=54:=rfl;have U0:=fun (h:4≤lm) w' (hb:Below w.heap.size w w')=>u32_ok am lm lm dm 0 w' (Nat.le_refl _) hx1 (hv1.below hb) hl1 (by omega) (by omega)
 have HU0N:=Bas.hid fun w' (h:¬4≤lm)=>u32_no am lm lm 0 w' (Nat.le_refl _) hx1 (by omega)
 have C1:=fun (h:54≤lh) w'=>cut_ok ah lh lh 0 54 w' (Nat.le_refl _) hx2 (by omega) (by omega) (by omega)
 have HC1N:=Bas.hid fun w' (h:¬54≤lh)=>cut_no ah lh lh 0 54 w' (Nat.le_refl _) hx2 (by omega)
 have U12:=fun (h:54≤lh) w' (hb:Below w.heap.size w w')=>u32_ok ah lh lh dh 12 w' (Nat.le_refl _) hx2 (hv2.below hb) hl2 (by omega) (by omega)
 have C2:=fun (h:36≤le) w'=>cut_ok ae le le 0 36 w' (Nat.le_refl _) hx3 (by omega) (by omega) (by omega)
 have HC2N:=Bas.hid fun w' (h:¬36≤le)=>cut_no ae le le 0 36 w' (Nat.le_refl _) hx3 (by omega)
 have M4:=fun (h:6≤lm) w' (hb:Below w.heap.size w w')=>u16_ok am lm lm dm 4 w' (Nat.le_refl _) hx1 (hv1.below hb) hl1 (by omega) (by omega)
 have HM4N:=Bas.hid fun w' (h:¬6≤lm)=>u16_no am lm lm 4 w' (Nat.le_refl _) hx1 (by omega)
 have M18:=fun (h:54≤lh) w' (hb:Below w.heap.size w w')=>u16_ok ah lh lh dh 18 w' (Nat.le_refl _) hx2 (hv2.below hb) hl2 (by omega) (by omega)
 have M34:=fun (h:36≤le) w' (hb:Below w.heap.size w w')=>u16_ok ae le le de 34 w' (Nat.le_refl _) hx3 (hv3.below hb) hl3 (by omega) (by omega)
 simp only [z0,z4,z12,z18,z34,z36,z54] at U0 C1 U12 C2 M4 M18 M34;have HFL:Hid (faceL dm dh de=if 54≤lh∧36≤le∧6≤lm∧
  (1≤be dm 4 2∧16≤be dh 18 2∧be dh 18 2≤16384∧1≤be de 34 2∧be de 34 2≤be dm 4 2) then some (be dm 4 2,be dh 18 2,be de 34 2) else none):=by
  unfold Hid faceL;rw [hl1,hl2,hl3]
 have hgb:6≤lm→0≤be dm 4 2∧be dm 4 2≤65535:=fun h=>be2_bd dm hv1.byte 4 (by omega)
 have hub:54≤lh→0≤be dh 18 2∧be dh 18 2≤65535:=fun h=>be2_bd dh hv2.byte 18 (by omega)
 have hmb:36≤le→0≤be de 34 2∧be de 34 2≤65535:=fun h=>be2_bd de hv3.byte 34 (by omega)
 have HKD:=Bas.hid hkd;have HMG:=Bas.hid hmg;clear hkd hmg;generalize be dm 4 2=g at*;generalize be dh 18 2=u at*;generalize be de 34 2=m at*;have HU0:=Bas.hid U0;have HC1:=Bas.hid C1;have HU12:=Bas.hid U12;have HC2:=Bas.hid C2;have HM4:=Bas.hid M4;have HM18:=Bas.hid M18;have HM34:=Bas.hid M34;have HT1:=Bas.hid hT1;have HT2:=Bas.hid hT2;have HT3:=Bas.hid hT3;have HGB:=Bas.hid hgb;have HUB:=Bas.hid hub;have HMB:=Bas.hid hmb;have HAL:=Bas.hid ((Below.refl w.heap.size w).alloc (Nat.le_refl _) (.cells #[.int .i64 0,.int .i64 0,.int .i64 0] 196));have kr:=Bas.heap_new w (.cells #[.int .i64 0,.int .i64 0,.int .i64 0] 196);clear U0 C1 U12 C2 M4 M18 M34 hT1 hT2 hT3 hv1 hv2 hv3 z0 z4 z12 z18 z34 z36 z54 hl1 hl2 hl3 hgb hub hmb hx1 hx2 hx3;go_enter Tryz.func139,Tryz.ntmps139
 go_wp2_with (fail);generalize w.alloc (.cells #[.int .i64 0,.int .i64 0,.int .i64 0] 196)=W at*;refine (HT1.out _ HAL.out).mono ?_;rintro e x1 ⟨rfl,hb1⟩;have kr1:=(hb1.block _ (heap_lt kr)).trans kr;have HX1:=Bas.hid (HAL.out.trans (hb1.mono HAL.out.size));clear hb1 kr HAL;go_wp2_with (fail);refine (HT2.out _ HX1.out).mono ?_;rintro e x2 ⟨rfl,hb2⟩;have kr2:=(hb2.block _ (heap_lt kr1)).trans kr1;have HX2:=Bas.hid (HX1.out.trans (hb2.mono HX1.out.size));clear hb2 kr1 HX1;go_wp2_with (fail);refine (HT3.out _ HX2.out).mono ?_;rintro e x3 ⟨rfl,hb3⟩;have kr3:=(hb3.block _ (heap_lt kr2)).trans kr2;have HX3:=Bas.hid (HX2.out.trans (hb3.mono HX2.out.size));clear hb3 kr2 HX2 HT1 HT2 HT3;go_wp2_with (fail);have k3:=(Below.heap_alloc ((x3.alloc (.cells #[.slice am lm lm] 190)).alloc (.cells #[.slice ah lh lh] 190)) (.cells #[.slice ae le le] 190) x3.heap.size (by simp;omega)).trans ((Below.heap_alloc (x3.alloc (.cells #[.slice am lm lm] 190)) (.cells #[.slice ah lh lh] 190) x3.heap.size (by simp)).trans (Bas.heap_new x3 (.cells #[.slice am lm lm] 190)))
 have k4:=(Below.heap_alloc ((x3.alloc (.cells #[.slice am lm lm] 190)).alloc (.cells #[.slice ah lh lh] 190)) (.cells #[.slice ae le le] 190) (x3.heap.size+1) (by simp)).trans (Bas.heap_new2 x3 (.cells #[.slice am lm lm] 190) (.cells #[.slice ah lh lh] 190))
 have k5:=Bas.heap_new ((x3.alloc (.cells #[.slice am lm lm] 190)).alloc (.cells #[.slice ah lh lh] 190)) (.cells #[.slice ae le le] 190);have hs5:((x3.alloc (.cells #[.slice am lm lm] 190)).alloc (.cells #[.slice ah lh lh] 190)).heap.size=x3.heap.size+1+1:=by simp
 rw [hs5] at k5;have hbAA:Below x3.heap.size x3 (((x3.alloc (.cells #[.slice am lm lm] 190)).alloc (.cells #[.slice ah lh lh] 190)).alloc (.cells #[.slice ae le le] 190)):=(((Below.refl _ _).alloc (Nat.le_refl _) _).alloc (by simp) _).alloc (by simp;omega) _
 have kr:=(hbAA.block _ (heap_lt kr3)).trans kr3;have HB0:=Bas.hid (HX3.out.trans (hbAA.mono HX3.out.size));generalize ((x3.alloc (.cells #[.slice am lm lm] 190)).alloc (.cells #[.slice ah lh lh] 190)).alloc (.cells #[.slice ae le le] 190)=W0 at*;generalize x3.heap.size=T3 at*;clear hs5 hbAA kr3 HX3;by_cases hm4:4≤lm
 case neg=>
  have HNONE:Hid (faceL dm dh de=none):=by unfold Hid;rw [HFL.out,if_neg (fun h=>hm4 (by have:=h.2.2.1;omega))]
  refine (HU0N.out _ hm4).mono ?_;rintro e x ⟨rfl,hbx⟩;have HBX:=Bas.hid (HB0.out.trans (hbx.mono HB0.out.size));clear hbx;go_wp2_with (fail);exact ⟨rfl,HBX.out,by rw [HNONE.out]⟩
 have hkd:=HKD.out hm4;refine (HU0.out hm4 _ HB0.out).mono ?_;rintro e u1 ⟨rfl,hb1⟩;have HB1:=Bas.hid (HB0.out.trans (hb1.mono HB0.out.size));have nkr:=(hb1.block _ (heap_lt kr)).trans kr;have nk3:=(hb1.block _ (heap_lt k3)).trans k3;have nk4:=(hb1.block _ (heap_lt k4)).trans k4;have nk5:=(hb1.block _ (heap_lt k5)).trans k5;clear hb1 kr k3 k4 k5;have kr:=nkr;have k3:=nk3;have k4:=nk4;have k5:=nk5;clear nkr nk3 nk4 nk5;have c3:=cell_of_heap (i:=0) (v:=.slice am lm lm) k3 rfl;have c4:=cell_of_heap (i:=0) (v:=.slice ah lh lh) k4 rfl;have c5:=cell_of_heap (i:=0) (v:=.slice ae le le) k5 rfl;rw [hkd];clear hkd;go_wp2_with (go_at_call 56;refine (need_yesb _ _ (by first|rfl|(simp;done)|(simp;omega))).mono ?_;rintro e w' ⟨rfl,rfl⟩)
 by_cases hh:54≤lh
 case neg=>
  have HNONE:Hid (faceL dm dh de=none):=by unfold Hid;rw [HFL.out,if_neg (fun h=>hh h.1)]
  refine (HC1N.out _ hh).mono ?_;rintro e x ⟨rfl,hbx⟩;have HBX:=Bas.hid (HB1.out.trans (hbx.mono HB1.out.size));clear hbx;go_wp2_with (fail);exact ⟨rfl,HBX.out,by rw [HNONE.out]⟩
 clear c3 c4 c5;refine (HC1.out hh _).mono ?_;rintro e u2 ⟨rfl,hb2⟩;have HB2:=Bas.hid (HB1.out.trans (hb2.mono HB1.out.size));have nkr:=(hb2.block _ (heap_lt kr)).trans kr;have nk3:=(hb2.block _ (heap_lt k3)).trans k3;have nk4:=(hb2.block _ (heap_lt k4)).trans k4;have nk5:=(hb2.block _ (heap_lt k5)).trans k5;clear hb2 kr k3 k4 k5;have kr:=nkr;have k3:=nk3;have k4:=nk4;have k5:=nk5;clear nkr nk3 nk4 nk5;have c3:=cell_of_heap (i:=0) (v:=.slice am lm lm) k3 rfl;have c4:=cell_of_heap (i:=0) (v:=.slice ah lh lh) k4 rfl;have c5:=cell_of_heap (i:=0) (v:=.slice ae le le) k5 rfl;go_wp2_with (fail);clear c3 c4 c5;have hmg:=HMG.out hh;refine (HU12.out hh _ HB2.out).mono ?_;rintro e u3 ⟨rfl,hb3⟩;have HB3:=Bas.hid (HB2.out.trans (hb3.mono HB2.out.size));have nkr:=(hb3.block _ (heap_lt kr)).trans kr;have nk3:=(hb3.block _ (heap_lt k3)).trans k3;have nk4:=(hb3.block _ (heap_lt k4)).trans k4;have nk5:=(hb3.block _ (heap_lt k5)).trans k5;clear hb3 kr k3 k4 k5;have kr:=nkr;have k3:=nk3;have k4:=nk4;have k5:=nk5;clear nkr nk3 nk4 nk5;have c3:=cell_of_heap (i:=0) (v:=.slice am lm lm) k3 rfl;have c4:=cell_of_heap (i:=0) (v:=.slice ah lh lh) k4 rfl;have c5:=cell_of_heap (i:=0) (v:=.slice ae le le) k5 rfl;rw [hmg];clear hmg;go_wp2_with (go_at_call 56;refine (need_yesb _ _ (by first|rfl|(simp;done)|(simp;omega))).mono ?_;rintro e w' ⟨rfl,rfl⟩)
 by_cases he:36≤le
 case neg=>
  have HNONE:Hid (faceL dm dh de=none):=by unfold Hid;rw [HFL.out,if_neg (fun h=>he h.2.1)]
  refine (HC2N.out _ he).mono ?_;rintro e x ⟨rfl,hbx⟩;have HBX:=Bas.hid (HB3.out.trans (hbx.mono HB3.out.size));clear hbx;go_wp2_with (fail);exact ⟨rfl,HBX.out,by rw [HNONE.out]⟩
 clear c3 c4 c5;refine (HC2.out he _).mono ?_;rintro e u4 ⟨rfl,hb4⟩;have HB4:=Bas.hid (HB3.out.trans (hb4.mono HB3.out.size));have nkr:=(hb4.block _ (heap_lt kr)).trans kr;have nk3:=(hb4.block _ (heap_lt k3)).trans k3;have nk4:=(hb4.block _ (heap_lt k4)).trans k4;have nk5:=(hb4.block _ (heap_lt k5)).trans k5;clear hb4 kr k3 k4 k5;have kr:=nkr;have k3:=nk3;have k4:=nk4;have k5:=nk5;clear nkr nk3 nk4 nk5;have c3:=cell_of_heap (i:=0) (v:=.slice am lm lm) k3 rfl;have c4:=cell_of_heap (i:=0) (v:=.slice ah lh lh) k4 rfl;have c5:=cell_of_heap (i:=0) (v:=.slice ae le le) k5 rfl;go_wp2_with (fail);by_cases hm6:6≤lm
 case neg=>
  have HNONE:Hid (faceL dm dh de=none):=by unfold Hid;rw [HFL.out,if_neg (fun h=>hm6 h.2.2.1)]
  refine' Pl.region_vh 65 [] [0,2,4] [(7,7)] 1 32 [3,5,6,8] _ (fun ch w'=>ch=short∧Below w.heap.size w w') (by kernel_rfl) (by kernel_rfl) (by kernel_rfl) (by simp) (fun _ _ _ _ e h=>⟨e▸h.1,h.2⟩) ?_ ?_ ?_ ?_
  rotate_left
  ·intro I F hI hF;simp only [Pl.selN,List.nil_append,List.drop_succ_cons,List.drop_zero];have y3:=fun q=>hF.cell (heap_lt k3) c3 q
   have y4:=fun q=>hF.cell (heap_lt k4) c4 q
   have y5:=fun q=>hF.cell (heap_lt k5) c5 q
   repeat (go_big_quiet_step (fail))
   refine wpQuiet_nil ?_;rfl
  ·simp only [Pl.selN,List.drop_succ_cons,List.drop_zero,List.mem_singleton,forall_eq];intro u' hu
   go_simp
   simp only [Pl.valsAt];have hbu:=HB4.out.trans (hu.mono HB4.out.size);refine (HM4N.out u' hm6).mono ?_;rintro e w'' ⟨he,hb⟩;exact .inr ⟨short,he,rfl,hbu.trans (hb.mono hbu.size)⟩
  ·intro x hx;simp only [List.mem_singleton] at hx;subst hx;simp only [Pl.selN,List.drop_succ_cons,List.drop_zero,List.mem_singleton,forall_eq];intro u' hu
   go_simp
   simp only [Pl.valsAt];exact (Below.refl _ _).alloc (Nat.le_refl _) _
  ·rintro c a' u' hd ⟨rfl,hb⟩;exact ⟨hd,hb,by rw [HNONE.out]⟩
 have hgb:=HGB.out hm6;have hub:=HUB.out hh;have hmb:=HMB.out he;obtain ⟨g0,g1⟩:=hgb;obtain ⟨uu0,uu1⟩:=hub;obtain ⟨m0,m1⟩:=hmb;refine' Pl.region_v1 65 [] [0,1,2,3,4,5,6] 7 7 [8] _ (fun v x'=>∃G,v=.pointer (some ⟨G,0,none⟩)∧u4.heap.size≤G∧x'.heap[G]? =some (.cells #[.int .i64 0,.int .i64 0,.int .i64 0] 196 (0,0))) (by kernel_rfl) (by kernel_rfl) (by simp) (fun _ _ _ _ e h=>⟨e▸h.1,h.2⟩) ?_ ?_ ?_ ?_
 rotate_left
 ·intro I F hI hF;simp only [Pl.selN,List.nil_append,List.drop_succ_cons,List.drop_zero];have y3:=fun q=>hF.cell (heap_lt k3) c3 q
  have y4:=fun q=>hF.cell (heap_lt k4) c4 q
  have y5:=fun q=>hF.cell (heap_lt k5) c5 q
  repeat (go_big_quiet_step ((go_at_call 103;first|with_reducible exact hF.call (HM4.out hm6 _ (hF.on HB4.out _))|with_reducible exact hF.call (HM18.out hh _ (hF.on HB4.out _))|with_reducible exact hF.call (HM34.out he _ (hF.on HB4.out _)))))
  refine wpQuiet_nil ?_;rfl
 ·rintro v x x' ⟨G,h1,h2,h3⟩ hx hx';exact ⟨G,h1,h2,(hx'.block G (heap_lt h3)).trans h3⟩
 ·simp only [Pl.selN,List.drop_succ_cons,List.drop_zero,List.mem_singleton,forall_eq];intro u' hu
  go_simp
  simp only [Pl.valsAt];exact ⟨(Below.refl _ _).alloc (Nat.le_refl _) _,_,rfl,hu.size,Bas.heap_new _ _⟩
 intro v y hy hv;obtain ⟨T7,rfl,hT7,k7⟩:=hv;simp only [Pl.selN,List.drop_succ_cons,List.drop_zero,Act.put,List.setIfInBounds_toArray,List.set_cons_zero,List.set_cons_succ];have jr:=(hy.block _ (heap_lt kr)).trans kr;have HBY:=Bas.hid (HB4.out.trans (hy.mono HB4.out.size));have hr7:w.heap.size≠T7:=by have:=heap_lt kr;omega
 have hT7b:w.heap.size≤T7:=by have:=heap_lt kr;omega
 have c70:=cell_of_heap (i:=0) (v:=.int .i64 0) k7 rfl;have c71:=cell_of_heap (i:=1) (v:=.int .i64 0) k7 rfl;have c72:=cell_of_heap (i:=2) (v:=.int .i64 0) k7 rfl;have f7:=fun i=>free_of_heap (i:=i) k7
 have n7:(((y.setCell ⟨T7,0,none⟩ (.int .i64 g)).setCell ⟨T7,1,none⟩ (.int .i64 u)).setCell ⟨T7,2,none⟩ (.int .i64 m)).heap[T7]? =some (.cells #[.int .i64 g,.int .i64 u,.int .i64 m] 196 (0,0)):=heap_set (i:=2) (heap_set (i:=1) (heap_set (i:=0) k7 _) _) _;have nr:(((y.setCell ⟨T7,0,none⟩ (.int .i64 g)).setCell ⟨T7,1,none⟩ (.int .i64 u)).setCell ⟨T7,2,none⟩ (.int .i64 m)).heap[w.heap.size]? =some (.cells #[.int .i64 0,.int .i64 0,.int .i64 0] 196 (0,0)):=((Below.heap_setCell _ _ _ _ hr7).trans ((Below.heap_setCell _ _ _ _ hr7).trans (Below.heap_setCell _ _ _ _ hr7))).trans jr;have HBZ:Hid (Below w.heap.size w (((y.setCell ⟨T7,0,none⟩ (.int .i64 g)).setCell ⟨T7,1,none⟩ (.int .i64 u)).setCell ⟨T7,2,none⟩ (.int .i64 m))):=((HBY.out.setCell (p:=⟨T7,0,none⟩) hT7b _).setCell (p:=⟨T7,1,none⟩) hT7b _).setCell (p:=⟨T7,2,none⟩) hT7b _;clear hy kr k3 k4 k5 c3 c4 c5 HBY HB4 HM4 HM18 HM34;have l7:=heap_lt k7;have lr:=heap_lt jr;have r0:=cell_of_heap (i:=0) (v:=.int .i64 0) jr rfl;have r1:=cell_of_heap (i:=1) (v:=.int .i64 0) jr rfl;have r2:=cell_of_heap (i:=2) (v:=.int .i64 0) jr rfl;have fr:=fun i=>free_of_heap (i:=i) jr
 have hr7':T7≠w.heap.size:=Ne.symm hr7;clear k7 jr n7 nr;by_cases q0:1≤g
 case neg=>
  have HNONE:Hid (faceL dm dh de=none):=by unfold Hid;rw [HFL.out,if_neg (fun h=>q0 h.2.2.2.1)]
  have t0:decide (1≤g)=false:=by simpa using q0
  clear q0;go_wp2_with (go_at_call 56;refine (need_nob _ _ (by first|rfl|(simp;done)|(simp;omega))).mono ?_;rintro e w' ⟨rfl,rfl⟩)
  exact ⟨rfl,HBZ.out,by rw [HNONE.out]⟩
 by_cases q1:16≤u
 case neg=>
  have HNONE:Hid (faceL dm dh de=none):=by unfold Hid;rw [HFL.out,if_neg (fun h=>q1 h.2.2.2.2.1)]
  have t0:decide (1≤g)=true:=by simpa using q0
  have t1:decide (16≤u)=false:=by simpa using q1
  clear q0 q1;go_wp2_with (go_at_call 56;refine (need_nob _ _ (by first|rfl|(simp;done)|(simp;omega))).mono ?_;rintro e w' ⟨rfl,rfl⟩)
  exact ⟨rfl,HBZ.out,by rw [HNONE.out]⟩
 by_cases q2:u≤16384
 case neg=>
  have HNONE:Hid (faceL dm dh de=none):=by unfold Hid;rw [HFL.out,if_neg (fun h=>q2 h.2.2.2.2.2.1)]
  have t0:decide (1≤g)=true:=by simpa using q0
  have t1:decide (16≤u)=true:=by simpa using q1
  have t2:decide (u≤16384)=false:=by simpa using q2
  clear q0 q1 q2;go_wp2_with (go_at_call 56;refine (need_nob _ _ (by first|rfl|(simp;done)|(simp;omega))).mono ?_;rintro e w' ⟨rfl,rfl⟩)
  exact ⟨rfl,HBZ.out,by rw [HNONE.out]⟩
 by_cases q3:1≤m
 case neg=>
  have HNONE:Hid (faceL dm dh de=none):=by unfold Hid;rw [HFL.out,if_neg (fun h=>q3 h.2.2.2.2.2.2.1)]
  have t0:decide (1≤g)=true:=by simpa using q0
  have t1:decide (16≤u)=true:=by simpa using q1
  have t2:decide (u≤16384)=true:=by simpa using q2
  have t3:decide (1≤m)=false:=by simpa using q3
  clear q0 q1 q2 q3;go_wp2_with (go_at_call 56;refine (need_nob _ _ (by first|rfl|(simp;done)|(simp;omega))).mono ?_;rintro e w' ⟨rfl,rfl⟩)
  exact ⟨rfl,HBZ.out,by rw [HNONE.out]⟩
 by_cases q4:m≤g
 case neg=>
  have HNONE:Hid (faceL dm dh de=none):=by unfold Hid;rw [HFL.out,if_neg (fun h=>q4 h.2.2.2.2.2.2.2)]
  have t0:decide (1≤g)=true:=by simpa using q0
  have t1:decide (16≤u)=true:=by simpa using q1
  have t2:decide (u≤16384)=true:=by simpa using q2
  have t3:decide (1≤m)=true:=by simpa using q3
  have t4:decide (m≤g)=false:=by simpa using q4
  clear q0 q1 q2 q3 q4;go_wp2_with (go_at_call 56;refine (need_nob _ _ (by first|rfl|(simp;done)|(simp;omega))).mono ?_;rintro e w' ⟨rfl,rfl⟩)
  exact ⟨rfl,HBZ.out,by rw [HNONE.out]⟩
 have t0:decide (1≤g)=true:=by simpa using q0
 have t1:decide (16≤u)=true:=by simpa using q1
 have t2:decide (u≤16384)=true:=by simpa using q2
 have t3:decide (1≤m)=true:=by simpa using q3
 have t4:decide (m≤g)=true:=by simpa using q4
 have HSOME:Hid (faceL dm dh de=some (g,u,m)):=by unfold Hid;rw [HFL.out,if_pos ⟨hh,he,hm6,q0,q1,q2,q3,q4⟩]
 clear q0 q1 q2 q3 q4;go_wp2_with (go_at_call 56;refine (need_yesb _ _ (by first|rfl|(simp;done)|(simp;omega))).mono ?_;rintro e w' ⟨rfl,rfl⟩)
 refine bodyPost_ret (v:=.agg #[.int .i64 g,.int .i64 u,.int .i64 m]) (by simp [results,Tryz.results139,go_sem,r0,r1,r2]) rfl ⟨((HBZ.out.setCell (p:=⟨w.heap.size,0,none⟩) (Nat.le_refl _) _).setCell (p:=⟨w.heap.size,1,none⟩) (Nat.le_refl _) _).setCell (p:=⟨w.heap.size,2,none⟩) (Nat.le_refl _) _,by rw [HSOME.out]⟩
def TakeF(X:Option (Int×Int×Int))(w:World)(e:Ending)(w':World):Prop:=
 Below w.heap.size w w'∧e=match X with
  |none=>.panicked short
  |some x=>.returned (.agg #[.int .i64 x.1,.int .i64 x.2.1,.int .i64 x.2.2])
def FR(W:World)(bo:Nat)(X:Option (Int×Int×Int))(ok:Bool)(w2:World):Prop:=
 W.grownBy w2 (some bo)∧ok=X.isSome∧w2.heap[bo]? =some (.cells #[.int .i64 (X.getD (0,0,0)).1,.int .i64 (X.getD (0,0,0)).2.1,.int .i64 (X.getD (0,0,0)).2.2] 196 (0,0))
theorem fread1_any(a:Option Addr)(len cap:Nat)(X:Option (Int×Int×Int))(bb bo bt:Nat)(W:World)(hT:∀w,Below W.heap.size W w→Calls Tryz.prog 139 #[.slice a len cap] w (TakeF X w))
  (h1:W.cell? ⟨bb,0,none⟩=some (.slice a len cap)) (h5:W.heap[bo]? =some (.cells #[.int .i64 0,.int .i64 0,.int .i64 0] 196 (0,0))) (hne:bt≠bo) (hk:W.heap[bt]? =some (.cells #[.bool false] 4 (0,0))):
  Calls Tryz.prog 138 #[.pointer (some ⟨bb,0,none⟩),.pointer (some ⟨bo,0,none⟩)] W (TryPost bt (FR W bo X)):=by
 have l5:=heap_lt h5;have lt:=heap_lt hk;have HT:=Bas.hid hT;clear hT;go_enter Tryz.func138,Tryz.ntmps138
 go_wp2_with (fail);refine (HT.out _ (Below.refl _ _)).mono ?_;rintro e w2 ⟨hb,he⟩;cases X with
 |none=>
  simp only at he;subst he;have HP:Hid (TryPost bt (FR W bo none) (.panicked short) w2):=⟨(hb.block bt lt).trans hk,.inr ⟨rfl,Bas.gbelow (Bas.grefl _ _) hb,rfl,(hb.block bo l5).trans h5⟩⟩;clear HT hb;go_wp2_with (fail);exact ⟨rfl,HP.out⟩
 |some x=>
  simp only at he;subst he;have k5:=(hb.block bo l5).trans h5;have HP:Hid (TryPost bt (FR W bo (some x)) (.returned (.tuple #[])) (((w2.setCell ⟨bo,0,none⟩ (.int .i64 x.1)).setCell ⟨bo,1,none⟩ (.int .i64 x.2.1)).setCell ⟨bo,2,none⟩ (.int .i64 x.2.2))):=by
   refine ⟨((Below.heap_setCell _ _ _ _ hne).trans ((Below.heap_setCell _ _ _ _ hne).trans (Below.heap_setCell _ _ _ _ hne))).trans ((hb.block bt lt).trans hk),.inl ⟨rfl, ?_,rfl, ?_⟩⟩
   ·exact Bas.gset (Bas.gset (Bas.gset (Bas.gbelow (Bas.grefl _ _) hb) _ _) _ _) _ _
   ·exact heap_set (i:=2) (heap_set (i:=1) (heap_set (i:=0) k5 _) _) _
  have c0:=cell_of_heap (i:=0) (v:=.int .i64 0) k5 rfl;have c1:=cell_of_heap (i:=1) (v:=.int .i64 0) k5 rfl;have c2:=cell_of_heap (i:=2) (v:=.int .i64 0) k5 rfl;have f0:=fun i=>free_of_heap (i:=i) k5
  clear HT hb h5 h1 hk k5;go_wp2_with (fail);exact bodyPost_ret (v:=.tuple #[]) (by simp [results,Tryz.results138,go_sem]) rfl HP.out
def ReadF(X:Option (Int×Int×Int))(w:World)(e:Ending)(w':World):Prop:=
 Below w.heap.size w w'∧e=.returned (.tuple #[.agg #[.int .i64 (X.getD (0,0,0)).1,.int .i64 (X.getD (0,0,0)).2.1,.int .i64 (X.getD (0,0,0)).2.2],.int .i64 (if X.isSome then 0 else 2)])
theorem fread_any(a:Option Addr)(len cap:Nat)(X:Option (Int×Int×Int))(w:World)(hT:∀w',Below w.heap.size w w'→Calls Tryz.prog 139 #[.slice a len cap] w' (TakeF X w')):
  Calls Tryz.prog 92 #[.slice a len cap] w (ReadF X w):=by
 have hmf:∀(fn:Fn) (first cap:Array Value) (w:World),(Instr.makeFunc fn first cap).run Tryz.prog w=.ok (.func fn first cap) w:=fun _ _ _ _=>rfl
 have hcf:∀(caps:Array Value) w,(callFunc 138 caps).run Tryz.prog w=.ok (.enter 138 caps) w:=fun caps w=>by simp [go_sem]
 have HCF:=Bas.hid hcf;have HT:=Bas.hid hT;clear hcf hT;go_enter Tryz.func92,Tryz.ntmps92
 go_wp2_with (fail);have kb:((w.alloc (.cells #[.slice a len cap] 47)).alloc (.cells #[.int .i64 0,.int .i64 0,.int .i64 0] 196)).heap[w.heap.size]? =some (.cells #[.slice a len cap] 47 (0,0)):=by
  rw [Below.heap_alloc _ _ _ (by simp)];exact Bas.heap_new _ _
 have ko:=Bas.heap_new2 w (.cells #[.slice a len cap] 47) (.cells #[.int .i64 0,.int .i64 0,.int .i64 0] 196);have hWs:((w.alloc (.cells #[.slice a len cap] 47)).alloc (.cells #[.int .i64 0,.int .i64 0,.int .i64 0] 196)).heap.size=w.heap.size+2:=by simp
 have HB:Below w.heap.size w ((w.alloc (.cells #[.slice a len cap] 47)).alloc (.cells #[.int .i64 0,.int .i64 0,.int .i64 0] 196)):=((Below.refl w.heap.size w).alloc (Nat.le_refl _) _).alloc (by simp) _
 generalize (w.alloc (.cells #[.slice a len cap] 47)).alloc (.cells #[.int .i64 0,.int .i64 0,.int .i64 0] 196)=W at*;have HC:=fread1_any a len cap X w.heap.size (w.heap.size+1) W.heap.size (W.alloc (.cells #[.bool false] 4)) (fun w' hb=>HT.out w' ((HB.alloc HB.size _).trans (hb.mono (by simp;omega))))
  (cell_of_heap (i:=0) ((Below.heap_alloc W _ _ (by omega)).trans kb) rfl) ((Below.heap_alloc W _ _ (by omega)).trans ko) (by omega) (Bas.heap_new _ _)
 refine (try_any 138 _ W _ (HCF.out _) HC).mono ?_;clear HC HCF HT;rintro e w5 ⟨ok,w2,rfl,⟨hg2,hok,ho2⟩,hlt2,hg5⟩;subst hok;have hs2:=hg2.size;simp only [World.size_alloc] at hs2;have hs5:=hg5.size;have ko5:=(hg5.block (w.heap.size+1) (by omega) (by simp;omega)).trans ho2
 have HB5:=Bas.hid (Bas.below_g (Bas.below_g (HB.alloc HB.size _) hg2 (by simp;omega) (by omega)) hg5 (by omega) (by omega))
 clear hg2 hg5 ho2 kb ko;have c0:=cell_of_heap (i:=0) ko5 rfl;have c1:=cell_of_heap (i:=1) ko5 rfl;have c2:=cell_of_heap (i:=2) ko5 rfl;have f0:=fun i=>free_of_heap (i:=i) ko5
 clear ko5;cases X with
 |none=>
  simp only [Option.isSome_none,Option.getD_none] at c0 c1 c2 ⊢;go_wp2_with (fail);exact bodyPost_ret (v:=.tuple #[.agg #[.int .i64 0,.int .i64 0,.int .i64 0],.int .i64 2]) (by simp [results,Tryz.results92,go_sem,c0,c1,c2]) rfl ⟨by first|exact HB5.out|exact ((HB5.out.setCell (p:=⟨w.heap.size+1,0,none⟩) (by simp) _).setCell (p:=⟨w.heap.size+1,1,none⟩) (by simp) _).setCell (p:=⟨w.heap.size+1,2,none⟩) (by simp) _,rfl⟩
 |some x=>
  obtain ⟨x1,x2,x3⟩:=x;simp only [Option.isSome_some,Option.getD_some] at c0 c1 c2 ⊢;go_wp2_with (fail);exact bodyPost_ret (v:=.tuple #[.agg #[.int .i64 x1,.int .i64 x2,.int .i64 x3],.int .i64 0]) (by simp [results,Tryz.results92,go_sem,c0,c1,c2]) rfl ⟨by first|exact HB5.out|exact ((HB5.out.setCell (p:=⟨w.heap.size+1,0,none⟩) (by simp) _).setCell (p:=⟨w.heap.size+1,1,none⟩) (by simp) _).setCell (p:=⟨w.heap.size+1,2,none⟩) (by simp) _,rfl⟩
theorem make_font(v:Value)(L:List PartD)(O:List Nat)(w:World)(hin:PParts w v L)(hL0:0<L.length)(hL:L.length≤100)(hO:O.length=L.length)(hord:ordered (L.map PartD.tag) ⟨#[]⟩ true O)(P:List PartD)(hP:P=O.map fun i=>L.getD i default)
  (htot:atM P P.length≤1000000) (hby:∀p∈L,∀x∈p.data,0≤x∧x≤255) (hri:∀(i j:Nat) p q,i<j→P[i]? =some p→P[j]? =some q→ltS p.tag q.tag=true):
  Calls Tryz.prog 33 #[v] w fun e w'=>∃g cap bs,e=.returned (.slice (some ⟨g,0,none⟩) bs.length cap)∧bs.length≤cap∧cap≤maxLen∧VB w' (some ⟨g,0,none⟩) bs∧IsFont bs P∧w'.ownsRow w.heap.size 5 1 (.slice (some ⟨g,0,none⟩) bs.length cap) bs.length (bs.map (Value.int .u8))∧Below w.heap.size w w':=by
 refine (make_any v L O w hin hL0 hL hO hord P hP htot hby).mono ?_;rintro e w' ⟨near,most,v',rfl,hown,hb⟩;have hPl:P.length=L.length:=by rw [hP,List.length_map,hO]
 have hsz:∀p∈P,p.tag.size=4:=by
  intro p hp;rw [hP] at hp;obtain ⟨i,hi,rfl⟩:=List.mem_map.1 hp;exact ordered_size L O _ _ hord i hi
 have hbyP:∀p∈P,∀x∈p.data,0≤x∧x≤255:=by
  intro p hp x hx;rw [hP] at hp;obtain ⟨i,hi,rfl⟩:=List.mem_map.1 hp;rw [List.getD_eq_getElem?_getD] at hx;cases hi2:L[i]? with
  |none=>rw [hi2] at hx;cases hx
  |some q=>
   rw [hi2] at hx;exact hby q (List.mem_of_getElem? hi2) x hx
 have hF:=makeM_font P near most (by omega) hsz hbyP htot hri
 have hl:=hF.len;obtain ⟨g,cap,rfl,h1,h2,h3⟩:=written hown (by omega) hF.byte (by have:=hF.few;omega)
 exact ⟨g,cap,_,rfl,h1,h2,h3,hF,hown,hb⟩
theorem maxpL_len(g:Int):(maxpL g).length=6:=by simp [maxpL,putB_len]
theorem headL_len(u:Int):(headL u).length=54:=by simp [headL,putB_len,zs_len]
theorem hheaL_len(m:Int):(hheaL m).length=36:=by simp [hheaL,putB_len,zs_len]
theorem zs_byte(n:Nat):∀x∈zs n,0≤x∧x≤255:=fun x hx=>by have:=List.eq_of_mem_replicate hx;omega
theorem maxpL_byte(g:Int):∀x∈maxpL g,0≤x∧x≤255:=by
 intro x hx;rcases List.mem_append.1 hx with hx|hx<;>exact putB_byte _ _ x hx
theorem headL_byte(u:Int):∀x∈headL u,0≤x∧x≤255:=by
 intro x hx;simp only [headL,List.mem_append] at hx;rcases hx with (((hx|hx)|hx)|hx)|hx
 ·exact zs_byte _ x hx
 ·exact putB_byte _ _ x hx
 ·simp at hx;omega
 ·exact putB_byte _ _ x hx
 ·exact zs_byte _ x hx
theorem hheaL_byte(m:Int):∀x∈hheaL m,0≤x∧x≤255:=by
 intro x hx;rcases List.mem_append.1 hx with hx|hx
 ·exact zs_byte _ x hx
 ·exact putB_byte _ _ x hx
theorem maxp_kind(g:Int):be (maxpL g) 0 4=65536:=be_mid [] (putB g 2) 65536 4 0 rfl (by omega) (by rw [p256_4];omega)
theorem maxp_g(g:Int)(h:0≤g∧g≤65535):be (maxpL g) 4 2=g:=by
 have e:maxpL g=putB 65536 4++(putB g 2++[]):=by simp [maxpL]
 rw [e];exact be_mid _ _ _ 2 4 (by simp [putB_len]) h.1 (by rw [p256_2];omega)
theorem head_kind(u:Int):be (headL u) 12 4=1594834165:=by
 have e:headL u=zs 12++(putB 1594834165 4++([0,0]++putB u 2++zs 34)):=by simp [headL]
 rw [e];exact be_mid _ _ _ 4 12 (by simp [zs_len]) (by omega) (by rw [p256_4];omega)
theorem head_u(u:Int)(h:0≤u∧u≤65535):be (headL u) 18 2=u:=by
 have e:headL u=(zs 12++putB 1594834165 4++[0,0])++(putB u 2++zs 34):=by simp [headL]
 rw [e];exact be_mid _ _ _ 2 18 (by simp [zs_len,putB_len]) h.1 (by rw [p256_2];omega)
theorem hhea_m(m:Int)(h:0≤m∧m≤65535):be (hheaL m) 34 2=m:=by
 have e:hheaL m=zs 34++(putB m 2++[]):=by simp [hheaL]
 rw [e];exact be_mid _ _ _ 2 34 (by simp [zs_len]) h.1 (by rw [p256_2];omega)
theorem bl_data(a b:Array UInt8):ltS ⟨a⟩ ⟨b⟩=Op.bytesLess a.toList b.toList:=by unfold ltS;rw [toList_eq_data,toList_eq_data]
theorem gt_data(a b:Array UInt8):gtS ⟨a⟩ ⟨b⟩= !(Op.bytesLess a.toList b.toList||a.toList==b.toList):=by unfold gtS;rw [toList_eq_data,toList_eq_data]
theorem fread_font(a:Option Addr)(cap:Nat)(bs:List Int)(P:List PartD)(w:World)(hl:bs.length≤cap)(hc:cap≤maxLen)(hv:VB w a bs)(hF:IsFont bs P)
  (i0 i1 i2:Nat) (d0 d1 d2:List Int) (h0:P[i0]? =some ⟨sMaxp,d0⟩) (h1:P[i1]? =some ⟨sHead,d1⟩) (h2:P[i2]? =some ⟨sHhea,d2⟩) (hkd:4≤d0.length→be d0 0 4=65536) (hmg:54≤d1.length→be d1 12 4=1594834165):
  Calls Tryz.prog 92 #[.slice a bs.length cap] w (ReadF (faceL d0 d1 d2) w):=by
 obtain ⟨e0,b0⟩:=hF.data i0 _ h0;obtain ⟨e1,b1⟩:=hF.data i1 _ h1;obtain ⟨e2,b2⟩:=hF.data i2 _ h2;have hfew:=hF.few;simp only at e0 e1 e2 b0 b1 b2;refine fread_any a bs.length cap (faceL d0 d1 d2) w fun w' hb=> ?_
 have V:=fun w'' (hb'':Below w'.heap.size w' w'')=>hv.below (hb.trans (hb''.mono hb.size))
 have v0:=(hv.below hb).sub (atM P i0) d0.length (by omega)
 have v1:=(hv.below hb).sub (atM P i1) d1.length (by omega)
 have v2:=(hv.below hb).sub (atM P i2) d2.length (by omega)
 rw [e0] at v0;rw [e1] at v1;rw [e2] at v2;exact ftake_any a bs.length cap _ _ _ d0.length d1.length d2.length d0 d1 d2 w'
  (fun w'' hb''=>table_yes a bs.length cap bs P sMaxp i0 ⟨sMaxp,d0⟩ h0 rfl w'' hl hc (V w'' hb'') rfl hF)
  (fun w'' hb''=>table_yes a bs.length cap bs P sHead i1 ⟨sHead,d1⟩ h1 rfl w'' hl hc (V w'' hb'') rfl hF)
  (fun w'' hb''=>table_yes a bs.length cap bs P sHhea i2 ⟨sHhea,d2⟩ h2 rfl w'' hl hc (V w'' hb'') rfl hF)
  v0 v1 v2 rfl rfl rfl (by omega) (by omega) (by omega) hkd hmg
theorem plain_face(g u m:Int)(hg:0≤g∧g≤65535)(hu:0≤u∧u≤65535)(hm:0≤m∧m≤65535):faceL (maxpL g) (headL u) (hheaL m)=if 1≤g∧16≤u∧u≤16384∧1≤m∧m≤g then some (g,u,m) else none:=by
 unfold faceL;rw [maxp_g g hg,head_u u hu,hhea_m m hm,headL_len,hheaL_len,maxpL_len];by_cases h:1≤g∧16≤u∧u≤16384∧1≤m∧m≤g
 ·rw [if_pos h,if_pos ⟨by omega,by omega,by omega,h⟩]
 ·rw [if_neg h,if_neg (fun k=>h k.2.2.2)]
def sHmtx:ByteArray:=⟨#[104,109,116,120]⟩
def hmtxTo(A:List Int)(k:Nat):List Int:=(List.range k).flatMap fun i=>putB (A.getD i 0) 2++putB (i:Int) 2
def hmtxL(A:List Int)(more:Nat):List Int:=hmtxTo A A.length++zs (2*more)
theorem hmtxTo_succ(A:List Int)(k:Nat):hmtxTo A (k+1)=hmtxTo A k++putB (A.getD k 0) 2++putB (k:Int) 2:=by
 unfold hmtxTo;rw [List.range_succ,List.flatMap_append];simp
theorem hmtxTo_len(A:List Int):∀k,(hmtxTo A k).length=4*k
 |0=>rfl
 |k+1=>by rw [hmtxTo_succ,List.length_append,List.length_append,putB_len,putB_len,hmtxTo_len A k];omega
theorem hmtxL_len(A:List Int)(more:Nat):(hmtxL A more).length=4*A.length+2*more:=by rw [hmtxL,List.length_append,hmtxTo_len,zs_len]
theorem hmtxTo_byte(A:List Int)(k:Nat):∀x∈hmtxTo A k,0≤x∧x≤255:=by
 intro x hx;obtain ⟨i,_,hx⟩:=List.mem_flatMap.1 hx;rcases List.mem_append.1 hx with hx|hx<;>exact putB_byte _ _ x hx
theorem hmtxL_byte(A:List Int)(more:Nat):∀x∈hmtxL A more,0≤x∧x≤255:=by
 intro x hx;rcases List.mem_append.1 hx with hx|hx
 ·exact hmtxTo_byte A _ x hx
 ·exact zs_byte _ x hx
theorem ord4:ordered [sMaxp,sHead,sHhea,sHmtx] ⟨#[]⟩ true [1,2,3,0]:=by
 refine ⟨?_,by decide,rfl, ?_,by decide,rfl, ?_,by decide,rfl, ?_,by decide,rfl,trivial⟩
 all_goals (simp [leastTo,leastStep,sMaxp,sHead,sHhea,sHmtx,bl_data,gt_data,Op.bytesLess])
theorem rise4(d0 d1 d2 d3:List Int):∀(i j:Nat) p q,i<j→[(⟨sHead,d0⟩:PartD),⟨sHhea,d1⟩,⟨sHmtx,d2⟩,⟨sMaxp,d3⟩][i]? =some p→[(⟨sHead,d0⟩:PartD),⟨sHhea,d1⟩,⟨sHmtx,d2⟩,⟨sMaxp,d3⟩][j]? =some q→ltS p.tag q.tag=true:=by
 intro i j p q hij hp hq;have hj:j<4:=(List.getElem?_eq_some_iff.1 hq).1;rcases (by omega:(i=0∧j=1)∨(i=0∧j=2)∨(i=0∧j=3)∨(i=1∧j=2)∨(i=1∧j=3)∨(i=2∧j=3)) with ⟨rfl,rfl⟩|⟨rfl,rfl⟩|⟨rfl,rfl⟩|⟨rfl,rfl⟩|⟨rfl,rfl⟩|⟨rfl,rfl⟩
 all_goals (cases hp;cases hq;simp [sHead,sHhea,sHmtx,sMaxp,bl_data,Op.bytesLess])
theorem at4(d0 d1 d2 d3:List Int)(h0:d0.length≤100000)(h1:d1.length≤100000)(h2:d2.length≤100000)(h3:d3.length≤100000)(t0 t1 t2 t3:ByteArray):atM [⟨t0,d0⟩,⟨t1,d1⟩,⟨t2,d2⟩,⟨t3,d3⟩] 4≤1000000:=by
 have p0:=pad4_le d0.length;have p1:=pad4_le d1.length;have p2:=pad4_le d2.length;have p3:=pad4_le d3.length;simp only [atM,List.length_cons,List.length_nil,List.take_succ_cons,List.take_zero,List.flatMap_cons,List.flatMap_nil,List.length_append,bodyM_len,List.length_nil];omega
def widthP(g m:Int)(d:List Int):List PartD:=[⟨sHead,headL 1000⟩,⟨sHhea,hheaL m⟩,⟨sHmtx,d⟩,⟨sMaxp,maxpL g⟩]
theorem make4(v:Value)(g m:Int)(d:List Int)(w:World)(hin:PParts w v [⟨sMaxp,maxpL g⟩,⟨sHead,headL 1000⟩,⟨sHhea,hheaL m⟩,⟨sHmtx,d⟩])(hd:d.length≤100000)(hb:∀x∈d,0≤x∧x≤255):
  Calls Tryz.prog 33 #[v] w fun e w'=>∃g' cap bs,e=.returned (.slice (some ⟨g',0,none⟩) bs.length cap)∧bs.length≤cap∧cap≤maxLen∧VB w' (some ⟨g',0,none⟩) bs∧IsFont bs (widthP g m d)∧w'.ownsRow w.heap.size 5 1 (.slice (some ⟨g',0,none⟩) bs.length cap) bs.length (bs.map (Value.int .u8))∧Below w.heap.size w w':=
 make_font v _ [1,2,3,0] w hin (by simp) (by simp) rfl ord4 _ rfl (at4 _ _ _ _ (by rw [headL_len];omega) (by rw [hheaL_len];omega) hd (by rw [maxpL_len];omega) _ _ _ _) (fun p hp=>by
  simp only [List.mem_cons,List.not_mem_nil,or_false] at hp;rcases hp with rfl|rfl|rfl|rfl
  ·exact maxpL_byte g
  ·exact headL_byte 1000
  ·exact hheaL_byte m
  ·exact hb) (rise4 _ _ _ _)
theorem own3_row{w:World}{base G:Nat}{t0 t1 t2:ByteArray}{r0 r1 r2:Value}{d0 d1 d2:List Int}(h:Own3 w base G t0 t1 t2 r0 r1 r2 d0 d1 d2):w.ownsRow base 101 2 (.slice (some ⟨G,0,none⟩) 3 3) 3 [.string t0,r0,.string t1,r1,.string t2,r2]:=
 ⟨rfl,.inr ⟨G,3,_,rfl,h.1,h.2.1,Nat.le_refl _,by unfold maxLen;omega,rfl,rfl⟩⟩
def u16C(x:Int):List Value:=[.int .u16 x]
theorem font_any(v:Value)(A:List Int)(more:Nat)(w:World)(hin:Row.Leads w v A.length (A.flatMap u16C))(hA:∀x∈A,0≤x∧x≤65535)(hn:A.length≤200)(hmore:more≤255):
  Calls Tryz.prog 19 #[v,.int .i64 more,.slice none 0 0] w fun e w'=>∃g' cap bs,e=.returned (.slice (some ⟨g',0,none⟩) bs.length cap)∧bs.length≤cap∧cap≤maxLen∧VB w' (some ⟨g',0,none⟩) bs∧IsFont bs (widthP ((A.length+more:Nat):Int) (A.length:Nat) (hmtxL A more))∧w'.ownsRow w.heap.size 5 1 (.slice (some ⟨g',0,none⟩) bs.length cap) bs.length (bs.map (Value.int .u8))∧Below w.heap.size w w':=by
 obtain ⟨ad,cp,rfl⟩:=Row.leads_slice hin;have HIN:=Bas.hid hin;have HA:=Bas.hid hA;obtain ⟨n,hnn⟩:∃n,A.length=n:=⟨_,rfl⟩;have HN:=Bas.hid hnn;rw [hnn] at hn ⊢;have HP:=Bas.hid (fun w'=>plain_any ((n:Int)+(more:Int)) 1000 n w' (by omega) (by omega) (by omega))
 have HB0:=Bas.hid (Below.refl w.heap.size w);clear hin hA hnn;go_enter Tryz.func19,Tryz.ntmps19
 go_wp2_with (fail);go_loopw [7,13] (fun vb vi wr=>∃(i:Nat) (v7:Value),i≤n∧vi=.int .i64 i∧v7=vb∧wr.ownsRow w.heap.size 5 1 v7 (hmtxTo A i).length ((hmtxTo A i).map (Value.int .u8))∧Below w.heap.size w wr) (fun _ vi _=>n - (intOf vi).toNat)
 case atStart=>exact ⟨0,_,Nat.zero_le _,rfl,rfl,Row.owned_nil _ _ _ _,HB0.out⟩
 case round=>
  obtain ⟨i,v7,hi,rfl,hv7,hown,hb⟩:=hrel;rw [←hv7];clear hv7;have HO:=Bas.hid hown;have HB:=Bas.hid hb;have hil:=hmtxTo_len A i;have HIL:=Bas.hid hil;obtain ⟨bb,hbb⟩:∃bb,hmtxTo A i=bb:=⟨_,rfl⟩;rw [hbb] at HO hil;have HBBE:=Bas.hid hbb;have hbbl:bb.length≤800:=by omega
  clear hown hb hbb HB0;by_cases hin:i<n
  ·have e1:decide ((i:Int)<(n:Int))=true:=by simp;omega
   have e2:decide (i<n)=true:=by simp;omega
   obtain ⟨x,hx⟩:∃x,A[i]? =some x:=⟨_,List.getElem?_eq_getElem (by rw [HN.out];exact hin)⟩
   obtain ⟨B,Of,cp0,hv0,hcl⟩:=Row.leads_elem (m:=1) (fun _=>rfl) HIN.out hx (by omega)
   cases hv0;have h0:=hcl 0 _ rfl;simp only [Nat.mul_one,Nat.add_zero] at h0;have c0:=(HB.out.cell (p:=⟨B,Of+i,none⟩) (World.block_lt_of_cell? _ _ h0)).trans h0;have hxb:=HA.out x (List.mem_of_getElem? hx);have HNX:Hid (hmtxTo A (i+1)=bb++putB x 2++putB (i:Int) 2):=by
    unfold Hid;rw [hmtxTo_succ,HBBE.out,List.getD_eq_getElem?_getD,hx];rfl
   obtain ⟨x0,x1⟩:=hxb;clear hx hcl h0 hil;go_wp2_with (fail);refine (put_any x 2 w.heap.size _ bb wr (by omega) (by omega) (by omega) (by omega) HB.out.size HO.out).mono ?_
   rintro e w1 ⟨v1,rfl,g1⟩;have HB1:=Bas.hid (g1.below HB.out HB.out.size (fun g h=>(Row.own_block HO.out h).1))
   clear c0;go_wp2_with (fail);refine (put_any (i:Int) 2 w.heap.size _ _ w1 (by omega) (by omega) (by omega) (by rw [List.length_append,putB_len];omega) HB1.out.size g1.own).mono ?_
   rintro e w2 ⟨v2,rfl,g2⟩;have HB2:=Bas.hid (g2.below HB1.out HB1.out.size (fun g h=>(Row.own_block g1.own h).1))
   have HO2:=Bas.hid g2.own;clear g1 g2 HB1;go_wp2_with (fail);go_roundw
   case rel=>exact ⟨i+1,_,by omega,by go_num,rfl,by rw [HNX.out];exact HO2.out,HB2.out⟩
   case measure=>simp [intOf];omega
  ·have hin2:i=n:=by omega
   subst hin2;have HBF:Hid (hmtxL A more=bb++zs (2*more)):=by unfold Hid;rw [hmtxL,HN.out,HBBE.out]
   have H2M:Hid (2*(more:Int)=((2*more:Nat):Int)):=by unfold Hid;omega
   have hO:=HO.out;go_wp2_with (at_builtin;refine Row.fence ?_);refine Row.unfence ?_;refine (Row.append_zeros rfl _ _ 47 3 5 rfl (.int .u8 0) 1 .i64 .i64 Tryz.underlying47 Tryz.underlying3 info8 rfl rfl w.heap.size v7 bb.length _ rfl hO (2*more) (congrArg (Value.int .i64) H2M.out) (by unfold maxLen;omega) (by omega) HB.out.size ?_)
   intro v8 x8 h81 h82 _ h83;have g8:Grown wr w.heap.size v7 (hmtxL A more) v8 x8:=⟨by
    have hzr:(zs (2*more)).map (Value.int .u8)=List.replicate (2*more) (.int .u8 0):=by simp [zs]
    rw [HBF.out,List.map_append,List.length_append,hzr,zs_len];exact h81,h82,h83.imp id fun h=>⟨_,h,Nat.le_refl _⟩⟩
   have HB8:=Bas.hid (g8.below HB.out HB.out.size (fun g h=>(Row.own_block hO h).1))
   have HO8:=Bas.hid g8.own;have hl8:=hmtxL_len A more;obtain ⟨ad8,cp8,hv8⟩:=own_slice g8.own;rw [hl8,HN.out] at hv8;have HV8:=Bas.hid hv8;clear h81 h82 h83 g8 hO HO HB hl8 H2M;rw [hv8];clear hv8;go_wp2_with (fail);refine (HP.out x8).mono ?_;rintro e x9 ⟨G,r0,r1,r2,rfl,how,hb9⟩;have HB9:=Bas.hid (HB8.out.trans (hb9.mono HB8.out.size));have HO9:=Bas.hid (Row.owned_below HO8.out hb9);have HW9:=Bas.hid how;have HBS:=Bas.hid HB8.out.size;clear hb9 how HB8 HO8;go_wp2_with (at_builtin;refine Row.fence ?_);refine Row.unfence ?_;have hbX:=(Below.refl x9.heap.size x9).alloc (Nat.le_refl _) (.cells #[.string sHmtx,.slice ad8 (4*i+2*more) cp8] 101);have kX:=Bas.heap_new x9 (.cells #[.string sHmtx,.slice ad8 (4*i+2*more) cp8] 101);have HBX:=Bas.hid (HB9.out.trans (hbX.mono HB9.out.size));have HOX:=Bas.hid (Row.owned_below HO9.out hbX);have HWX:Hid (Own3 (x9.alloc (.cells #[.string sHmtx,.slice ad8 (4*i+2*more) cp8] 101)) w.heap.size G sMaxp sHead sHhea r0 r1 r2 (maxpL ((i:Int)+more)) (headL 1000) (hheaL i)):=by
    obtain ⟨h1,h2,h3,h4,h5,h6⟩:=HW9.out;exact ⟨Nat.le_trans HBS.out h1,(hbX.block _ (heap_lt h2)).trans h2,Row.owned_base (Row.owned_below h3 hbX) HBS.out,Row.owned_base (Row.owned_below h4 hbX) HBS.out,Row.owned_base (Row.owned_below h5 hbX) HBS.out,h6⟩
   rw [show (⟨#[104,109,116,120]⟩:ByteArray)=sHmtx from rfl]
   generalize x9.alloc (.cells #[.string sHmtx,.slice ad8 (4*i+2*more) cp8] 101)=X at*;clear hbX HB9 HO9 HW9;have hOW:=own3_row HWX.out;refine (Row.append_any rfl _ _ 98 101 rfl (.agg #[.string ⟨#[]⟩,.slice none 0 0]) 2 40 Tryz.underlying98 infoP rfl (by decide) w.heap.size (.slice (some ⟨G,0,none⟩) 3 3) 3 _ rfl hOW (.slice (some ⟨x9.heap.size,0,none⟩) 1 1) 1 [.string sHmtx,.slice ad8 (4*i+2*more) cp8] rfl (leads_heap kX) rfl (by simp;exact ⟨rfl,rfl⟩) (by unfold maxLen;omega) (by omega) HBX.out.size ?_)
   intro v11 x11 hown11 hg11 _;obtain ⟨_,_,h3,h4,h5,_⟩:=HWX.out;have hkeep:∀{u:Value} {xs:List Int},X.ownsRow w.heap.size 5 1 u xs.length (xs.map (Value.int .u8))→x11.ownsRow w.heap.size 5 1 u xs.length (xs.map (Value.int .u8)):=fun {u xs} h=>Row.owned_keep h fun g hg=>hg11.block g (Row.own_block h hg).2 (fun e=>own_apart h hOW (by decide) g hg e.symm)
   have HR0:=Bas.hid (hkeep h3);have HR1:=Bas.hid (hkeep h4);have HR2:=Bas.hid (hkeep h5);have HR3:=Bas.hid (hkeep HOX.out);have HB11:=Bas.hid (HBX.out.grown hg11 HBX.out.size (fun g' hg'=>(Row.own_block hOW hg').1))
   have HO11:=Bas.hid hown11;obtain ⟨ad11,cp11,hv11⟩:=own_slice hown11;subst hv11;clear hown11 hg11 hOW h3 h4 h5 hkeep HOX HBX HWX kX;go_wp2_with (at_builtin;refine Row.fence ?_);refine Row.unfence ?_;refine (Row.append_any rfl _ _ 98 101 rfl (.agg #[.string ⟨#[]⟩,.slice none 0 0]) 2 40 Tryz.underlying98 infoP rfl (by decide) w.heap.size _ (3+1) _ rfl HO11.out (.slice none 0 0) 0 [] rfl (.inl ⟨rfl,rfl,rfl⟩) rfl (by simp) (by unfold maxLen;omega) (by omega) HB11.out.size ?_)
   intro v12 x12 hown12 hg12 _;have hkeep:∀{u:Value} {xs:List Int},x11.ownsRow w.heap.size 5 1 u xs.length (xs.map (Value.int .u8))→x12.ownsRow w.heap.size 5 1 u xs.length (xs.map (Value.int .u8)):=fun {u xs} h=>Row.owned_keep h fun g hg=>hg12.block g (Row.own_block h hg).2 (fun e=>own_apart h HO11.out (by decide) g hg e.symm)
   have hin4:PParts x12 v12 [⟨sMaxp,maxpL ((i:Int)+more)⟩,⟨sHead,headL 1000⟩,⟨sHhea,hheaL i⟩,⟨sHmtx,hmtxL A more⟩]:=by
    refine ⟨[r0,r1,r2,v8],rfl, ?_,fun j c r hc hr=> ?_⟩
    ·have h:=Row.leads_owned hown12;rw [HV8.out];simpa [pC] using h
    ·have hj:j<4:=(List.getElem?_eq_some_iff.1 hc).1;rcases (by omega:j=0∨j=1∨j=2∨j=3) with rfl|rfl|rfl|rfl
     ·cases hc;cases hr;rw [u8_flat];exact Row.leads_owned (hkeep HR0.out)
     ·cases hc;cases hr;rw [u8_flat];exact Row.leads_owned (hkeep HR1.out)
     ·cases hc;cases hr;rw [u8_flat];exact Row.leads_owned (hkeep HR2.out)
     ·cases hc;cases hr;rw [u8_flat];exact Row.leads_owned (hkeep HR3.out)
   have HB12:=Bas.hid (HB11.out.grown hg12 HB11.out.size (fun g' hg'=>(Row.own_block HO11.out hg').1))
   have HMK:=Bas.hid (make4 v12 ((i:Int)+more) i (hmtxL A more) x12 hin4 (by rw [hmtxL_len,HN.out];omega) (hmtxL_byte A more))
   obtain ⟨ad12,cp12,hv12⟩:=own_slice hown12;subst hv12;clear hown12 hg12 hkeep hin4 HR0 HR1 HR2 HR3 HB11 HO11;go_wp2_with (fail);refine HMK.out.mono ?_;rintro e x13 ⟨c,cap,bs,rfl,q1,q2,hv,hF,ho,hb13⟩;have HB13:=Bas.hid (HB12.out.trans (hb13.mono HB12.out.size));have hcast:((i+more:Nat):Int)=(i:Int)+more:=by omega
   have HFIN:Hid (bs.length≤cap∧cap≤maxLen∧VB x13 (some ⟨c,0,none⟩) bs∧IsFont bs (widthP ((i+more:Nat):Int) (i:Nat) (hmtxL A more))∧x13.ownsRow w.heap.size 5 1 (.slice (some ⟨c,0,none⟩) bs.length cap) bs.length (bs.map (Value.int .u8))):=⟨q1,q2,hv,hcast▸hF,Row.owned_base ho HB12.out.size⟩;clear q1 q2 hv hF ho hb13 HMK HB12 hcast;go_wp2_with (fail);go_ret;exact ⟨c,cap,bs,rfl,HFIN.out.1,HFIN.out.2.1,HFIN.out.2.2.1,HFIN.out.2.2.2.1,HFIN.out.2.2.2.2,HB13.out⟩
theorem vb_grown{w w':World}{g B:Nat}{bs:List Int}(h:VB w (some ⟨g,0,none⟩) bs)(hg:w.grownBy w' (some B))(hne:g≠B):VB w' (some ⟨g,0,none⟩) bs:=
 ⟨h.len, h.byte, fun i hi => by
  obtain ⟨b,o,ha,hc⟩:=h.cell i hi;cases ha;exact ⟨_,_,rfl,(Bas.gcell hg (World.block_lt_of_cell? _ _ hc) (fun e=>hne (by cases e;rfl))).trans hc⟩⟩
def WR(W:World)(T:Nat)(good:Bool)(bs:List Int)(ok:Bool)(w2:World):Prop:=
 W.grownBy w2 (some T)∧ok=good∧(good=true→∃gb cb,W.heap.size≤gb∧w2.heap[T]? =some (.cells #[.slice (some ⟨gb,0,none⟩) bs.length cb] 190 (0,0))∧bs.length≤cb∧cb≤maxLen∧VB w2 (some ⟨gb,0,none⟩) bs)
theorem wread1_any(X:Option Addr)(n g m L:Nat)(u:Int)(d:List Int)(T4 T6 bt:Nat)(W:World)(hv:VB W X d)(hdl:d.length=n)(hn:n≤1000000)(hL:4*m+2*(g - m)=L)(hm1:1≤m)(hmg:m≤g)(hgb:g≤65535)
  (h6:W.heap[T6]? =some (.cells #[.slice X n n] 190 (0,0))) (h4:W.heap[T4]? =some (.cells #[.int .i64 (g:Nat),.int .i64 u,.int .i64 (m:Nat)] 196 (0,0))) (hne:bt≠T6) (hk:W.heap[bt]? =some (.cells #[.bool false] 4 (0,0))):
  Calls Tryz.prog 94 #[.pointer (some ⟨T6,0,none⟩),.pointer (some ⟨T4,0,none⟩)] W (TryPost bt (WR W T6 (decide (L≤n)) (d.take L))):=by
 have l6:=heap_lt h6;have lt:=heap_lt hk;have hnm:n≤maxLen:=by unfold maxLen;omega
 have c6:=cell_of_heap (i:=0) (v:=.slice X n n) h6 rfl;have f6:=free_of_heap (i:=0) h6;have c40:=cell_of_heap (i:=0) (v:=.int .i64 (g:Nat)) h4 rfl;have c42:=cell_of_heap (i:=2) (v:=.int .i64 (m:Nat)) h4 rfl;have hLe:4*(m:Int)+2*((g:Int) - (m:Int))=(L:Int):=by omega
 by_cases hLn:L≤n
 ·have HCU:Hid (∀w',Calls Tryz.prog 95 #[.agg #[.slice X n n],.int .i64 0,.int .i64 (4*(m:Int)+2*((g:Int) - (m:Int)))] w' fun e w''=>e=.returned (.agg #[.slice (sub X 0 L) L L])∧Below w'.heap.size w' w''):=fun w'=>by
   have h:=cut_ok X n n 0 (L:Nat) w' (Nat.le_refl _) hnm (by omega) (by omega) (by omega)
   rw [hLe];simpa using h
  have HV:=Bas.hid (fun w' (hb:Below W.heap.size W w')=>(hv.below hb).sub 0 L (by omega))
  have hbl:((d.drop 0).take L).length=L:=by rw [List.drop_zero,List.length_take];omega
  have HBL:=Bas.hid hbl;have hd0:(d.drop 0).take L=d.take L:=by rw [List.drop_zero]
  have HD0:=Bas.hid hd0;have hL1:1≤L:=by omega
  have hLm:L≤maxLen:=by omega
  have HLE:=Bas.hid hLe;clear hv h4 hLe hbl hd0;go_enter Tryz.func94,Tryz.ntmps94
  go_wp2_with (fail);refine (HCU.out _).mono ?_;rintro e w1 ⟨rfl,hb1⟩;have HB1:=Bas.hid hb1;have hvx:=HV.out _ hb1;generalize sub X 0 L=X0 at*;have HBY:=Bas.hid (bytes_any X0 L L _ w1 (Nat.le_refl _) hLm hvx HBL.out (fun h=>by
   obtain ⟨b,o,hb,_⟩:=hvx.cell 0 (by rw [HBL.out];omega)
   rw [h] at hb;cases hb))
  clear hb1 HCU hvx;go_wp2_with (fail);refine HBY.out.mono ?_;rintro e w2 ⟨v,rfl,hown,-,hb2⟩;have hLB:=HBL.out;have hwr:=written hown (by omega) (fun x hx=>by rw [HD0.out] at hx;exact (HV.out _ (Below.refl _ _)).byte x (HD0.out.symm▸hx)) (by rw [hLB];omega)
  obtain ⟨gb,cb,rfl,hcb,hcm,hvb⟩:=hwr;have hgB:W.heap.size≤gb:=Nat.le_trans HB1.out.size (Row.own_block hown rfl).1;have HB2:=Bas.hid (HB1.out.trans (hb2.mono HB1.out.size));have HVB:=Bas.hid hvb;rw [hLB] at hcb;rw [hLB];clear hown hb2 hvb HBY HB1;go_wp2_with (fail);refine (of_any (some ⟨gb,0,none⟩) L cb w2).mono ?_;rintro e w3 ⟨rfl,hb3⟩;have HB3:=Bas.hid (HB2.out.trans (hb3.mono HB2.out.size));have HVB3:=Bas.hid (HVB.out.below hb3);have k6:=(HB3.out.block T6 l6).trans h6;have c6':=cell_of_heap (i:=0) (v:=.slice X n n) k6 rfl;have f6':=free_of_heap (i:=0) k6;have HP:Hid (TryPost bt (WR W T6 (decide (L≤n)) (d.take L)) (.returned (.tuple #[])) (w3.setCell ⟨T6,0,none⟩ (.slice (some ⟨gb,0,none⟩) L cb))):=by
   refine ⟨(Below.heap_setCell _ _ _ _ hne).trans ((HB3.out.block bt lt).trans hk),.inl ⟨rfl,Bas.gset (Bas.gbelow (Bas.grefl _ _) HB3.out) 0 _,by simp [hLn],fun _=>⟨gb,cb,hgB, ?_, ?_,hcm, ?_⟩⟩⟩
   ·rw [←HD0.out,hLB];exact heap_set (i:=0) k6 _
   ·rw [←HD0.out,hLB];exact hcb
   ·rw [←HD0.out];exact vb_grown HVB3.out ⟨rfl,rfl,rfl,by simp [World.setCell],fun k _ hk=>Below.heap_setCell _ _ _ _ (fun e=>hk (by rw [e]))⟩ (show gb≠T6 by omega)
  clear hb3 HB2 HVB HVB3 HB3 c6 f6 k6 h6;go_wp2_with (fail);exact bodyPost_ret (v:=.tuple #[]) (by simp [results,Tryz.results94,go_sem]) rfl HP.out
 ·have HCU:Hid (∀w',Calls Tryz.prog 95 #[.agg #[.slice X n n],.int .i64 0,.int .i64 (4*(m:Int)+2*((g:Int) - (m:Int)))] w' fun e w''=>e=.panicked short∧Below w'.heap.size w' w''):=fun w'=>by
   rw [hLe];exact cut_no X n n 0 (L:Nat) w' (Nat.le_refl _) hnm (by omega)
  have HG:Hid (∀w',W.grownBy w' (some T6)→w'.heap[bt]? =some (.cells #[.bool false] 4 (0,0))→TryPost bt (WR W T6 (decide (L≤n)) (d.take L)) (.panicked short) w'):=fun w' hg hb=>⟨hb,.inr ⟨rfl,hg,by simp [hLn],fun h=>absurd (of_decide_eq_true h) hLn⟩⟩
  generalize hQ:TryPost bt (WR W T6 (decide (L≤n)) (d.take L))=Q at HG ⊢;have HLn:=Bas.hid hLn;clear hv h4 hLe hLn hQ;go_enter Tryz.func94,Tryz.ntmps94
  go_wp2_with (fail);refine (HCU.out _).mono ?_;rintro e w1 ⟨rfl,hb1⟩;have HP:Hid (Q (.panicked short) w1):=HG.out _ (Bas.gbelow (Bas.grefl _ _) hb1) ((hb1.block bt lt).trans hk);clear hb1 HCU HG;go_wp2_with (fail);exact ⟨rfl,HP.out⟩
end Fo
end Go.Proofs.YtceihjjjmcgmaaaGreat
