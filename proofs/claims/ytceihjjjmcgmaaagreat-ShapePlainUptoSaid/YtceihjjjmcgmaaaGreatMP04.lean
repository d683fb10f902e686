/- Parts of a proof: texts LkTake, LkGet, StGet, LnNew, LnClone, LnGlyphs, PcD, PcOps, PcNew, ShAdv, CoverA, ShChk, PlanC, DrAct, ShRun, ShTab. -/
import Derived.Test.YtceihjjjmcgmaaaGreatMP03
import Derived.Laws.ResultCell
import Derived.Laws.Cover3
set_option maxHeartbeats 16000000
set_option maxRecDepth 100000
namespace Go.Proofs.YtceihjjjmcgmaaaGreat
open Go.RowKit
namespace Lk
open Vw Sk Ch
def LkTakeP(w:World)(bs:List Int)(gl size:Nat)(e:Ending)(w':World):Prop:=
 Below w.heap.size w w'∧match parseLk bs gl size with
  |none=>e=.panicked short
  |some ps=>∃v,e=.returned v∧Lives w.heap.size (fun u=>LkAt u v ps) w'
theorem rises_iff:∀ps:List PartD,rises ps=true↔∀i p q,ps[i]? =some p→ps[i+1]? =some q→p.last<q.first
 |[]=>by simp [rises]
 |[p]=>by
  simp only [rises,true_iff];intro i p' q h1 h2;simp at h2
 |p::q::l=>by
  have ih:=rises_iff (q::l);simp only [rises,Bool.and_eq_true,decide_eq_true_eq,ih];constructor
  ·rintro ⟨h1,h2⟩ i p' q' hp hq;cases i with
   |zero=>simp at hp hq;subst hp hq;exact h1
   |succ i=>exact h2 i p' q' (by simpa using hp) (by simpa using hq)
  ·intro h;exact ⟨h 0 p q rfl rfl,fun i p' q' hp hq=>h (i+1) p' q' (by simpa using hp) (by simpa using hq)⟩
theorem pRow_set{w:World}{base T i:Nat}{cs:Array Value}{t:TypeId}{v:Value}{ps:List PartD}{vs:List Value}(h:PRow w base v ps vs)(hT:w.heap[T]? =some (.cells cs t (0,0)))(h1:400≠t)(h2:3≠t)(x:Value):PRow (w.setCell ⟨T,i,none⟩ x) base v ps vs:=
 ⟨h.len,Row.owned_keep h.own fun g hg=>Below.heap_setCell _ _ _ _ (fun e=>own_ty h.own hT h1 (by rw [hg,e])),fun i p u hp hu=>Row.owned_keep (h.vals i p u hp hu) fun g hg=>Below.heap_setCell _ _ _ _ (fun e=>own_ty (h.vals i p u hp hu) hT h2 (by rw [hg,e]))⟩
theorem lkAt_of{w:World}{base T:Nat}{fmt:Int}{vp:Value}{ps:List PartD}{vs:List Value}(hT:w.heap[T]? =some (.cells #[.int .i64 fmt,vp] 397 (0,0)))(h:PRow w base vp ps vs):LkAt w (.pointer (some ⟨T,0,none⟩)) ps:=
 ⟨T,fmt,vp,vs,rfl,hT,h.len,Row.leads_owned h.own,fun i p u hp hu=>Row.leads_owned (h.vals i p u hp hu)⟩
theorem lkLives_of{w:World}{a base T:Nat}{fmt:Int}{vp:Value}{ps:List PartD}{vs:List Value}(hT:w.heap[T]? =some (.cells #[.int .i64 fmt,vp] 397 (0,0)))(h:PRow w base vp ps vs)(h1:a≤T)(h2:a≤base):Lives a (fun u=>LkAt u (.pointer (some ⟨T,0,none⟩)) ps) w:=
 fun u hu=>lkAt_of (lives_heap hT h1 u hu) (lives_prow h h2 u hu)
theorem lkTake_any(a:Option Addr)(len cap:Nat)(bs:List Int)(gl size:Nat)(w:World)(hl:len≤cap)(hc:cap≤maxLen)(hv:VB w a bs)(hbl:bs.length=len)(hs:size=2∨size=4)(hg1:1≤gl)(hg2:gl≤65536):
  Calls Tryz.prog 108 #[.agg #[.slice a len cap],.int .i64 gl,.int .i64 size] w (LkTakeP w bs gl size):=by
 have k1:=Bas.heap_new w (.cells #[.slice a len cap] 190);have BX:=((Below.refl w.heap.size w).alloc (Nat.le_refl _) (.cells #[.slice a len cap] 190)).alloc (by simp) (.cells #[.slice a len cap,.int .i64 gl,.int .i64 size] 394)
 have k1':=(Below.heap_alloc (w.alloc (.cells #[.slice a len cap] 190)) (.cells #[.slice a len cap,.int .i64 gl,.int .i64 size] 394) _ (by simp)).trans k1
 have kr:=Bas.heap_new2 w (.cells #[.slice a len cap] 190) (.cells #[.slice a len cap,.int .i64 gl,.int .i64 size] 394);have HV:=Bas.hid hv;have HB1:=Bas.hid BX;have HS:=Bas.hid hs;clear BX hv hs k1;by_cases f2:2≤len
 ·have U:=fun (w':World) (hb:Below w.heap.size w w')=>u16_ok a len cap bs 0 w' hl hc (HV.out.below hb) hbl (by omega) (by omega)
  simp only [show Int.toNat 0=0 from rfl] at U
  have b0:=be_rng2 HV.out.byte 0;have HL2:Hid (2≤bs.length):=by unfold Hid;omega
  obtain ⟨x,hx⟩:∃x,be bs 0 2=x:=⟨_,rfl⟩;rw [hx] at U b0;have HX:=Bas.hid hx;have HU:=Bas.hid U;obtain ⟨b00,b01⟩:=b0;clear U hx;go_enter Tryz.func108,Tryz.ntmps108
  go_wp2_with (fail);generalize (w.alloc (.cells #[.slice a len cap] 190)).alloc (.cells #[.slice a len cap,.int .i64 gl,.int .i64 size] 394)=W1 at*;refine (HU.out _ HB1.out).mono ?_;rintro e w1 ⟨rfl,hb1⟩;have k2:=(hb1.block _ (heap_lt k1')).trans k1';have kr2:=(hb1.block _ (heap_lt kr)).trans kr;have kT:=Bas.heap_new w1 (.cells #[.int .i64 x,.slice none 0 0] 397);have hb2:=(Below.refl w1.heap.size w1).alloc (Nat.le_refl _) (.cells #[.int .i64 x,.slice none 0 0] 397);have HB2:=Bas.hid (HB1.out.trans ((hb1.trans (hb2.mono hb1.size)).mono HB1.out.size));have k3:=(hb2.block _ (heap_lt k2)).trans k2;have kr3:=(hb2.block _ (heap_lt kr2)).trans kr2;have hwT:w.heap.size≤w1.heap.size:=Nat.le_trans HB1.out.size hb1.size;have hs2:(w1.alloc (.cells #[.int .i64 x,.slice none 0 0] 397)).heap.size=w1.heap.size+1:=by simp
  have c0:=cell_of_heap (i:=0) (v:=.slice a len cap) k2 rfl;have r0:=cell_of_heap (i:=0) (v:=.slice a len cap) kr2 rfl;have r1:=cell_of_heap (i:=1) (v:=.int .i64 gl) kr2 rfl;have r2:=cell_of_heap (i:=2) (v:=.int .i64 size) kr2 rfl;have lk2:=heap_lt k2;have lkr2:=heap_lt kr2;clear hb1 hb2 k1' kr HB1 HU;by_cases x0:x=0
  ·subst x0;have HFR:Hid (formL bs gl size=(listL bs 2 gl size).map fun vs=>[⟨0,(gl:Int) - 1,vs⟩]):=by unfold Hid formL;rw [HX.out];simp
   go_wp2_with (fail);generalize w1.alloc (.cells #[.int .i64 0,.slice none 0 0] 397)=w2 at*;obtain ⟨T,hT⟩:∃T,w1.heap.size=T:=⟨_,rfl⟩;rw [hT] at kT hwT ⊢;clear hT hs2 c0 r0 r1 r2 lk2 lkr2 k2 kr2;have LL:=Bas.hid (list_any a len cap bs 2 gl size w2 hl hc (HV.out.below HB2.out) hbl (by have:=HS.out;omega) (by omega) (by omega))
   clear k3 kr3;refine LL.out.mono ?_;rintro e w3 ⟨hb3,h3⟩;have kT3:=(hb3.block _ (heap_lt kT)).trans kT;have HB3:=Bas.hid (HB2.out.trans (hb3.mono HB2.out.size));have hw23:w.heap.size≤w2.heap.size:=HB2.out.size;clear hb3 LL;cases hls:listL bs 2 gl size with
   |none=>
    rw [hls] at h3;simp only at h3;subst h3;have HNO:Hid (parseLk bs gl size=none):=by unfold Hid parseLk;rw [if_pos HL2.out,HFR.out,hls];rfl
    clear hls;go_wp2_with (fail);exact ⟨rfl,HB3.out,by rw [HNO.out]⟩
   |some xs=>
    rw [hls] at h3;simp only at h3;obtain ⟨v3,rfl,ho3⟩:=h3;obtain ⟨av3,cv3,rfl⟩:=own_slice ho3;have hxl:xs.length=gl:=by simpa using ho3.1
    have HXL:=Bas.hid hxl;have HF:Hid (formL bs gl size=some [⟨0,(gl:Int) - 1,xs⟩]):=by unfold Hid;rw [HFR.out,hls];rfl
    have HO3:=Bas.hid (Row.owned_base ho3 hw23);have c0:=cell_of_heap (i:=1) kT3 rfl;have f0:=free_of_heap (i:=1) kT3;have lT3:=heap_lt kT3;clear ho3 hls kT hxl;go_wp2_with (fail);have q5:=heap_set (i:=1) kT3 (.slice (some ⟨w3.heap.size,0,none⟩) 1 1);have HO4:=Bas.hid (Row.owned_keep HO3.out (w':=w3.setCell ⟨T,1,none⟩ (.slice (some ⟨w3.heap.size,0,none⟩) 1 1)) fun g hg=>Below.heap_setCell _ _ _ _ (fun e=>own_ty HO3.out kT3 (by decide) (by rw [hg,e])))
    have HB4:=Bas.hid (HB3.out.setCell (p:=⟨T,1,none⟩) hwT (.slice (some ⟨w3.heap.size,0,none⟩) 1 1));have hs4:(w3.setCell ⟨T,1,none⟩ (.slice (some ⟨w3.heap.size,0,none⟩) 1 1)).heap.size=w3.heap.size:=by simp
    have hw3:w.heap.size≤w3.heap.size:=HB3.out.size;clear kT3 c0 f0 lT3;generalize w3.setCell ⟨T,1,none⟩ (.slice (some ⟨w3.heap.size,0,none⟩) 1 1)=w4 at*;have q6:=Bas.heap_new w4 (.cells #[.int .i64 0,.int .i64 ((gl:Int) - 1),.slice av3 gl cv3] 400);rw [hs4] at q6;have hb4:=(Below.refl w4.heap.size w4).alloc (Nat.le_refl _) (.cells #[.int .i64 0,.int .i64 ((gl:Int) - 1),.slice av3 gl cv3] 400);have kT5:=(hb4.block _ (heap_lt q5)).trans q5;have HB5:=Bas.hid (HB4.out.trans (hb4.mono HB4.out.size));have HO5':=Bas.hid (Row.owned_below HO4.out hb4);generalize w4.alloc (.cells #[.int .i64 0,.int .i64 ((gl:Int) - 1),.slice av3 gl cv3] 400)=W5 at*;have HP5:Hid (PRow W5 w.heap.size (.slice (some ⟨w3.heap.size,0,none⟩) 1 1) [⟨0,(gl:Int) - 1,xs⟩] [.slice av3 gl cv3]):=by
     refine ⟨rfl,own_one (cs:=[.int .i64 0,.int .i64 ((gl:Int) - 1),.slice av3 gl cv3]) q6 hw3 rfl,fun i q u' hq hu'=> ?_⟩
     have hi0:i=0:=by
      have:=(List.getElem?_eq_some_iff.1 hq).1;simpa using this
     subst hi0;simp at hq hu';subst hq hu';simp only [HXL.out];exact HO5'.out
    have kT6:W5.heap[T]? =some (.cells #[.int .i64 0,.slice (some ⟨w3.heap.size,0,none⟩) 1 1] 397 (0,0)):=kT5;have HYES:Hid (parseLk bs gl size=some [⟨0,(gl:Int) - 1,xs⟩]):=by
     unfold Hid parseLk;rw [if_pos HL2.out,HF.out];rfl
    have HAT:=Bas.hid (lkLives_of (a:=w.heap.size) kT6 HP5.out (by first|exact hwT|omega) (by first|exact Nat.le_refl _|exact hwT|omega))
    have t1:=cell_of_heap (i:=1) kT6 rfl;clear hb4 q5 q6 kT5;go_loopw [10] (fun vi wr=>vi=.int .i64 1∧wr=W5) (fun _ _=>0)
    case atStart=>exact ⟨rfl,rfl⟩
    case round=>
     obtain ⟨rfl,rfl⟩:=hrel;go_wp2_with (fail);go_ret;exact ⟨HB5.out,by rw [HYES.out];exact ⟨_,rfl,HAT.out⟩⟩
  by_cases x2:x=2
  ·subst x2;have HFR:Hid (formL bs gl size=segsL bs false size):=by unfold Hid formL;rw [HX.out];simp
   go_wp2_with (fail);generalize w1.alloc (.cells #[.int .i64 2,.slice none 0 0] 397)=w2 at*;obtain ⟨T,hT⟩:∃T,w1.heap.size=T:=⟨_,rfl⟩;rw [hT] at kT hwT ⊢;clear hT hs2 c0 r0 r1 r2 lk2 lkr2 k2 kr2;have PC:=Bas.hid (segs_false a len cap bs gl size w2 hl hc (HV.out.below HB2.out) hbl HS.out);clear k3 kr3;refine PC.out.mono ?_;rintro e w3 ⟨hb3,h3⟩;have kT3:=(hb3.block _ (heap_lt kT)).trans kT;have HB3:=Bas.hid (HB2.out.trans (hb3.mono HB2.out.size));have hw23:w.heap.size≤w2.heap.size:=HB2.out.size;clear hb3 PC;obtain ⟨r,hr⟩:∃r,formL bs gl size=r:=⟨_,rfl⟩;rw [←HFR.out,hr] at h3;cases r with
   |none=>
    simp only at h3;subst h3;have HNO:Hid (parseLk bs gl size=none):=by unfold Hid parseLk;rw [if_pos HL2.out,hr];rfl
    clear hr;go_wp2_with (fail);exact ⟨rfl,HB3.out,by rw [HNO.out]⟩
   |some ps=>
    simp only at h3;obtain ⟨v3,vs,rfl,hp3⟩:=h3;obtain ⟨av,cv,rfl⟩:=own_slice hp3.own;have HF:=Bas.hid hr;have HP3:=Bas.hid (pRow_base hp3 hw23);have c0:=cell_of_heap (i:=1) kT3 rfl;have f0:=free_of_heap (i:=1) kT3;have lT3:=heap_lt kT3;clear hp3 hr kT;go_wp2_with (fail);have kT5:=heap_set (i:=1) kT3 (.slice av ps.length cv);have HP5:=Bas.hid (pRow_set (i:=1) HP3.out kT3 (by decide) (by decide) (.slice av ps.length cv))
    have HB5:=Bas.hid (HB3.out.setCell (p:=⟨T,1,none⟩) hwT (.slice av ps.length cv));clear kT3 c0 f0 lT3;generalize w3.setCell ⟨T,1,none⟩ (.slice av ps.length cv)=W5 at*;have kT5:W5.heap[T]? =some (.cells #[.int .i64 2,.slice av ps.length cv] 397 (0,0)):=kT5;obtain ⟨n5,hn5⟩:∃n5,ps.length=n5:=⟨_,rfl⟩;have HN5:=Bas.hid hn5;have hown5:=HP5.out.own;rw [hn5] at hown5 kT5 ⊢;have HO5:=Bas.hid hown5;have hn63:n5≤9223372036854775807:=by have h1:=(own_cap hown5).2;have h2:=h1.1;have h3:=h1.2;unfold maxLen at h3;omega
    clear hown5 hn5;have t0:=cell_of_heap (i:=1) kT5 rfl;go_loopw [10] (fun vi wr=>∃j:Nat,1≤j∧(j≤n5∨j=1)∧vi=.int .i64 j∧(∀i p q,i+1<j→ps[i]? =some p→ps[i+1]? =some q→p.last<q.first)∧Below W5.heap.size W5 wr) (fun vi _=>n5+1 - (intOf vi).toNat)
    case atStart=>exact ⟨1,by omega,.inr rfl,rfl,fun i p q h=>by omega,Below.refl _ _⟩
    case round=>
     obtain ⟨j,hj1,hj2,rfl,hris,hb6⟩:=hrel;have HRIS:=Bas.hid hris;have HB6:=Bas.hid hb6;have kT6:=(hb6.block _ (heap_lt kT5)).trans kT5;have t1:=cell_of_heap (i:=1) kT6 rfl;have lT6:=heap_lt kT6;clear hris hb6 t0;by_cases hjn:j<n5
     ·have e1:decide ((j:Int)<(n5:Int))=true:=by simp;omega
      obtain ⟨i,hi⟩:∃i,j=i+1:=⟨j - 1,by omega⟩
      obtain ⟨p,hp⟩:∃p,ps[i]? =some p:=⟨_,List.getElem?_eq_getElem (by rw [HN5.out];omega)⟩
      obtain ⟨q,hq⟩:∃q,ps[j]? =some q:=⟨_,List.getElem?_eq_getElem (by rw [HN5.out];exact hjn)⟩
      obtain ⟨up,hup⟩:∃u,vs[i]? =some u:=⟨_,List.getElem?_eq_getElem (by rw [HP5.out.len,HN5.out];omega)⟩
      obtain ⟨uq,huq⟩:∃u,vs[j]? =some u:=⟨_,List.getElem?_eq_getElem (by rw [HP5.out.len,HN5.out];exact hjn)⟩
      have hL:=Row.leads_below (Row.leads_owned HO5.out) HB6.out;have hz1:(ps.zip vs)[i]? =some (p,up):=List.getElem?_zip_eq_some.2 ⟨hp,hup⟩;have hz2:(ps.zip vs)[j]? =some (q,uq):=List.getElem?_zip_eq_some.2 ⟨hq,huq⟩;obtain ⟨B1,O1,cp1,hv1,hcl1⟩:=Row.leads_elem prC_len hL hz1 (by omega)
      obtain ⟨B2,O2,cp2,hv2,hcl2⟩:=Row.leads_elem prC_len hL hz2 (by omega)
      cases hv1;cases hv2;have d1:=hcl1 1 _ rfl;have d0:=hcl2 0 _ rfl;simp only [Nat.add_zero] at d0 d1
      have lB:B1<wr.heap.size:=World.block_lt_of_cell? _ _ d1;have e3:(j:Int) - 1=(i:Int):=by omega
      have e4:decide ((i:Int)<(n5:Int))=true:=by simp;omega
      have hin:i<n5:=by omega
      have HPI:=Bas.hid hp;have hqi:ps[i+1]? =some q:=by rw [←hi];exact hq
      have HQI:=Bas.hid hqi;have HJ:=Bas.hid hi;obtain ⟨pl,hpl⟩:∃pl,p.last=pl:=⟨_,rfl⟩;obtain ⟨qf,hqf⟩:∃qf,q.first=qf:=⟨_,rfl⟩;rw [hpl] at d1;rw [hqf] at d0;have HPLL:=Bas.hid hpl;have HQF:=Bas.hid hqf;clear hL hcl1 hcl2 hz1 hz2 hp hq hup huq hi hpl hqf hqi;by_cases hr:pl<qf
      ·have dr:decide (pl<qf)=true:=decide_eq_true hr;have HRR:=Bas.hid hr;clear hr;go_wp2_with (fail);refine' Pl.region_v0 116 [] [0,1,2,3,4,5,6,7,8,9,10,11,12,13,14,15,16,17,18] [] _ (by kernel_rfl) (by kernel_rfl) (by simp) (fun _ _ _ _ e h=>⟨e▸h.1,h.2⟩) ?_ ?_
       rotate_left
       ·intro I F hI hF;simp only [Pl.selN,List.nil_append,List.drop_succ_cons,List.drop_zero];have x0:=fun i=>hF.cell lT6 t1 i
        have x1:=fun i=>hF.cell lB d1 i
        have x2:=fun i=>hF.cell lB d0 i
        repeat (go_big_quiet_step ((go_at_call 56;first|exact hF.same (need_yes _)|exact hF.same (need_yesb _ _ dr))))
        refine wpQuiet_nil ?_;rfl
       intro w7 hw7;simp only [Pl.selN];have HB7:=Bas.hid (HB6.out.trans (hw7.mono HB6.out.size));have HRIS2:Hid (∀i' p' q',i'+1<j+1→ps[i']? =some p'→ps[i'+1]? =some q'→p'.last<q'.first):=fun i' p' q' h hp' hq'=>by
        by_cases h':i'+1<j
        ·exact HRIS.out i' p' q' h' hp' hq'
        ·have e:i'=i:=by have:=HJ.out;omega
         subst e;rw [HPI.out] at hp';rw [HQI.out] at hq';cases hp';cases hq';rw [HPLL.out,HQF.out];exact HRR.out
       clear hw7 d0 d1 dr;go_wp2_with (fail);go_roundw
       case rel=>exact ⟨j+1,by omega,.inl (by omega),by go_num,HRIS2.out,HB7.out⟩
       case measure=>simp [intOf];omega
      ·have dr:decide (pl<qf)=false:=decide_eq_false hr;have HNO:Hid (parseLk bs gl size=none):=by
        unfold Hid parseLk;rw [if_pos HL2.out,HF.out,Option.bind_some,if_neg];intro h;have:=(rises_iff ps).1 h i p q HPI.out HQI.out;rw [HPLL.out,HQF.out] at this;exact hr this
       clear hr;go_wp2_with (fail);refine' Pl.region_vh 116 [] [0,1,2,3,4,5,6,7,8,9,10,11,12,13,14,15,16,17] [] 18 114 [] _ (fun ch w'=>ch=short∧Below w.heap.size w w') (by kernel_rfl) (by kernel_rfl) (by kernel_rfl) (by simp) (fun _ _ _ _ e h=>⟨e▸h.1,h.2⟩) ?_ ?_ ?_ ?_
       rotate_left
       ·intro I F hI hF;simp only [Pl.selN,List.nil_append,List.drop_succ_cons,List.drop_zero];have x0:=fun i=>hF.cell lT6 t1 i
        have x1:=fun i=>hF.cell lB d1 i
        have x2:=fun i=>hF.cell lB d0 i
        repeat (go_big_quiet_step (fail))
        refine wpQuiet_nil ?_;rfl
       ·simp only [Pl.selN,List.drop_succ_cons,List.drop_zero,List.mem_singleton,forall_eq];intro u hu
        go_simp
        simp only [Pl.valsAt];have hbu:=HB5.out.trans ((HB6.out.trans (hu.mono HB6.out.size)).mono HB5.out.size);refine (need_no u).mono ?_;rintro e w'' ⟨he,hb⟩;exact .inr ⟨short,he,rfl,by rw [←hb];exact hbu⟩
       ·intro z hz;cases hz
       ·rintro c' a' u hd ⟨rfl,hb⟩;exact ⟨hd,hb,by rw [HNO.out]⟩
     ·have e1:decide ((j:Int)<(n5:Int))=false:=by simp;omega
      have e2:decide (j<n5)=false:=by simp;omega
      have e3:¬(j:Int)<(n5:Int):=by omega
      have HYES:Hid (parseLk bs gl size=some ps):=by
       unfold Hid parseLk;rw [if_pos HL2.out,HF.out,Option.bind_some,if_pos];rw [rises_iff];intro i p q hp hq;refine HRIS.out i p q ?_ hp hq;have:=(List.getElem?_eq_some_iff.1 hq).1;rw [HN5.out] at this;omega
      have HBE:=Bas.hid (HB5.out.trans (HB6.out.mono HB5.out.size));have HAT:Hid (Lives w.heap.size (fun u=>LkAt u (.pointer (some ⟨T,0,none⟩)) ps) wr):=by
       have h:=pRow_below HP5.out HB6.out;rw [HN5.out] at h;exact lkLives_of kT6 h (by first|exact hwT|omega) (by first|exact Nat.le_refl _|exact hwT|omega)
      go_wp2_with (fail);go_ret;exact ⟨HBE.out,by rw [HYES.out];exact ⟨_,rfl,HAT.out⟩⟩
  by_cases x4:x=4
  ·subst x4;have HFR:Hid (formL bs gl size=segsL bs true size):=by unfold Hid formL;rw [HX.out];simp
   go_wp2_with (fail);generalize w1.alloc (.cells #[.int .i64 4,.slice none 0 0] 397)=w2 at*;obtain ⟨T,hT⟩:∃T,w1.heap.size=T:=⟨_,rfl⟩;rw [hT] at kT hwT ⊢;clear hT hs2 c0 r0 r1 r2 lk2 lkr2 k2 kr2;have PC:=Bas.hid (segs_true a len cap bs gl size w2 hl hc (HV.out.below HB2.out) hbl HS.out);clear k3 kr3;refine PC.out.mono ?_;rintro e w3 ⟨hb3,h3⟩;have kT3:=(hb3.block _ (heap_lt kT)).trans kT;have HB3:=Bas.hid (HB2.out.trans (hb3.mono HB2.out.size));have hw23:w.heap.size≤w2.heap.size:=HB2.out.size;clear hb3 PC;obtain ⟨r,hr⟩:∃r,formL bs gl size=r:=⟨_,rfl⟩;rw [←HFR.out,hr] at h3;cases r with
   |none=>
    simp only at h3;subst h3;have HNO:Hid (parseLk bs gl size=none):=by unfold Hid parseLk;rw [if_pos HL2.out,hr];rfl
    clear hr;go_wp2_with (fail);exact ⟨rfl,HB3.out,by rw [HNO.out]⟩
   |some ps=>
    simp only at h3;obtain ⟨v3,vs,rfl,hp3⟩:=h3;obtain ⟨av,cv,rfl⟩:=own_slice hp3.own;have HF:=Bas.hid hr;have HP3:=Bas.hid (pRow_base hp3 hw23);have c0:=cell_of_heap (i:=1) kT3 rfl;have f0:=free_of_heap (i:=1) kT3;have lT3:=heap_lt kT3;clear hp3 hr kT;go_wp2_with (fail);have kT5:=heap_set (i:=1) kT3 (.slice av ps.length cv);have HP5:=Bas.hid (pRow_set (i:=1) HP3.out kT3 (by decide) (by decide) (.slice av ps.length cv))
    have HB5:=Bas.hid (HB3.out.setCell (p:=⟨T,1,none⟩) hwT (.slice av ps.length cv));clear kT3 c0 f0 lT3;generalize w3.setCell ⟨T,1,none⟩ (.slice av ps.length cv)=W5 at*;have kT5:W5.heap[T]? =some (.cells #[.int .i64 4,.slice av ps.length cv] 397 (0,0)):=kT5;obtain ⟨n5,hn5⟩:∃n5,ps.length=n5:=⟨_,rfl⟩;have HN5:=Bas.hid hn5;have hown5:=HP5.out.own;rw [hn5] at hown5 kT5 ⊢;have HO5:=Bas.hid hown5;have hn63:n5≤9223372036854775807:=by have h1:=(own_cap hown5).2;have h2:=h1.1;have h3:=h1.2;unfold maxLen at h3;omega
    clear hown5 hn5;have t0:=cell_of_heap (i:=1) kT5 rfl;go_loopw [10] (fun vi wr=>∃j:Nat,1≤j∧(j≤n5∨j=1)∧vi=.int .i64 j∧(∀i p q,i+1<j→ps[i]? =some p→ps[i+1]? =some q→p.last<q.first)∧Below W5.heap.size W5 wr) (fun vi _=>n5+1 - (intOf vi).toNat)
    case atStart=>exact ⟨1,by omega,.inr rfl,rfl,fun i p q h=>by omega,Below.refl _ _⟩
    case round=>
     obtain ⟨j,hj1,hj2,rfl,hris,hb6⟩:=hrel;have HRIS:=Bas.hid hris;have HB6:=Bas.hid hb6;have kT6:=(hb6.block _ (heap_lt kT5)).trans kT5;have t1:=cell_of_heap (i:=1) kT6 rfl;have lT6:=heap_lt kT6;clear hris hb6 t0;by_cases hjn:j<n5
     ·have e1:decide ((j:Int)<(n5:Int))=true:=by simp;omega
      obtain ⟨i,hi⟩:∃i,j=i+1:=⟨j - 1,by omega⟩
      obtain ⟨p,hp⟩:∃p,ps[i]? =some p:=⟨_,List.getElem?_eq_getElem (by rw [HN5.out];omega)⟩
      obtain ⟨q,hq⟩:∃q,ps[j]? =some q:=⟨_,List.getElem?_eq_getElem (by rw [HN5.out];exact hjn)⟩
      obtain ⟨up,hup⟩:∃u,vs[i]? =some u:=⟨_,List.getElem?_eq_getElem (by rw [HP5.out.len,HN5.out];omega)⟩
      obtain ⟨uq,huq⟩:∃u,vs[j]? =some u:=⟨_,List.getElem?_eq_getElem (by rw [HP5.out.len,HN5.out];exact hjn)⟩
      have hL:=Row.leads_below (Row.leads_owned HO5.out) HB6.out;have hz1:(ps.zip vs)[i]? =some (p,up):=List.getElem?_zip_eq_some.2 ⟨hp,hup⟩;have hz2:(ps.zip vs)[j]? =some (q,uq):=List.getElem?_zip_eq_some.2 ⟨hq,huq⟩;obtain ⟨B1,O1,cp1,hv1,hcl1⟩:=Row.leads_elem prC_len hL hz1 (by omega)
      obtain ⟨B2,O2,cp2,hv2,hcl2⟩:=Row.leads_elem prC_len hL hz2 (by omega)
      cases hv1;cases hv2;have d1:=hcl1 1 _ rfl;have d0:=hcl2 0 _ rfl;simp only [Nat.add_zero] at d0 d1
      have lB:B1<wr.heap.size:=World.block_lt_of_cell? _ _ d1;have e3:(j:Int) - 1=(i:Int):=by omega
      have e4:decide ((i:Int)<(n5:Int))=true:=by simp;omega
      have hin:i<n5:=by omega
      have HPI:=Bas.hid hp;have hqi:ps[i+1]? =some q:=by rw [←hi];exact hq
      have HQI:=Bas.hid hqi;have HJ:=Bas.hid hi;obtain ⟨pl,hpl⟩:∃pl,p.last=pl:=⟨_,rfl⟩;obtain ⟨qf,hqf⟩:∃qf,q.first=qf:=⟨_,rfl⟩;rw [hpl] at d1;rw [hqf] at d0;have HPLL:=Bas.hid hpl;have HQF:=Bas.hid hqf;clear hL hcl1 hcl2 hz1 hz2 hp hq hup huq hi hpl hqf hqi;by_cases hr:pl<qf
      ·have dr:decide (pl<qf)=true:=decide_eq_true hr;have HRR:=Bas.hid hr;clear hr;go_wp2_with (fail);refine' Pl.region_v0 116 [] [0,1,2,3,4,5,6,7,8,9,10,11,12,13,14,15,16,17,18] [] _ (by kernel_rfl) (by kernel_rfl) (by simp) (fun _ _ _ _ e h=>⟨e▸h.1,h.2⟩) ?_ ?_
       rotate_left
       ·intro I F hI hF;simp only [Pl.selN,List.nil_append,List.drop_succ_cons,List.drop_zero];have x0:=fun i=>hF.cell lT6 t1 i
        have x1:=fun i=>hF.cell lB d1 i
        have x2:=fun i=>hF.cell lB d0 i
        repeat (go_big_quiet_step ((go_at_call 56;first|exact hF.same (need_yes _)|exact hF.same (need_yesb _ _ dr))))
        refine wpQuiet_nil ?_;rfl
       intro w7 hw7;simp only [Pl.selN];have HB7:=Bas.hid (HB6.out.trans (hw7.mono HB6.out.size));have HRIS2:Hid (∀i' p' q',i'+1<j+1→ps[i']? =some p'→ps[i'+1]? =some q'→p'.last<q'.first):=fun i' p' q' h hp' hq'=>by
        by_cases h':i'+1<j
        ·exact HRIS.out i' p' q' h' hp' hq'
        ·have e:i'=i:=by have:=HJ.out;omega
         subst e;rw [HPI.out] at hp';rw [HQI.out] at hq';cases hp';cases hq';rw [HPLL.out,HQF.out];exact HRR.out
       clear hw7 d0 d1 dr;go_wp2_with (fail);go_roundw
       case rel=>exact ⟨j+1,by omega,.inl (by omega),by go_num,HRIS2.out,HB7.out⟩
       case measure=>simp [intOf];omega
      ·have dr:decide (pl<qf)=false:=decide_eq_false hr;have HNO:Hid (parseLk bs gl size=none):=by
        unfold Hid parseLk;rw [if_pos HL2.out,HF.out,Option.bind_some,if_neg];intro h;have:=(rises_iff ps).1 h i p q HPI.out HQI.out;rw [HPLL.out,HQF.out] at this;exact hr this
       clear hr;go_wp2_with (fail);refine' Pl.region_vh 116 [] [0,1,2,3,4,5,6,7,8,9,10,11,12,13,14,15,16,17] [] 18 114 [] _ (fun ch w'=>ch=short∧Below w.heap.size w w') (by kernel_rfl) (by kernel_rfl) (by kernel_rfl) (by simp) (fun _ _ _ _ e h=>⟨e▸h.1,h.2⟩) ?_ ?_ ?_ ?_
       rotate_left
       ·intro I F hI hF;simp only [Pl.selN,List.nil_append,List.drop_succ_cons,List.drop_zero];have x0:=fun i=>hF.cell lT6 t1 i
        have x1:=fun i=>hF.cell lB d1 i
        have x2:=fun i=>hF.cell lB d0 i
        repeat (go_big_quiet_step (fail))
        refine wpQuiet_nil ?_;rfl
       ·simp only [Pl.selN,List.drop_succ_cons,List.drop_zero,List.mem_singleton,forall_eq];intro u hu
        go_simp
        simp only [Pl.valsAt];have hbu:=HB5.out.trans ((HB6.out.trans (hu.mono HB6.out.size)).mono HB5.out.size);refine (need_no u).mono ?_;rintro e w'' ⟨he,hb⟩;exact .inr ⟨short,he,rfl,by rw [←hb];exact hbu⟩
       ·intro z hz;cases hz
       ·rintro c' a' u hd ⟨rfl,hb⟩;exact ⟨hd,hb,by rw [HNO.out]⟩
     ·have e1:decide ((j:Int)<(n5:Int))=false:=by simp;omega
      have e2:decide (j<n5)=false:=by simp;omega
      have e3:¬(j:Int)<(n5:Int):=by omega
      have HYES:Hid (parseLk bs gl size=some ps):=by
       unfold Hid parseLk;rw [if_pos HL2.out,HF.out,Option.bind_some,if_pos];rw [rises_iff];intro i p q hp hq;refine HRIS.out i p q ?_ hp hq;have:=(List.getElem?_eq_some_iff.1 hq).1;rw [HN5.out] at this;omega
      have HBE:=Bas.hid (HB5.out.trans (HB6.out.mono HB5.out.size));have HAT:Hid (Lives w.heap.size (fun u=>LkAt u (.pointer (some ⟨T,0,none⟩)) ps) wr):=by
       have h:=pRow_below HP5.out HB6.out;rw [HN5.out] at h;exact lkLives_of kT6 h (by first|exact hwT|omega) (by first|exact Nat.le_refl _|exact hwT|omega)
      go_wp2_with (fail);go_ret;exact ⟨HBE.out,by rw [HYES.out];exact ⟨_,rfl,HAT.out⟩⟩
  by_cases x6:x=6
  ·subst x6;have HFR:Hid (formL bs gl size=singL bs size):=by unfold Hid formL;rw [HX.out];simp
   go_wp2_with (fail);generalize w1.alloc (.cells #[.int .i64 6,.slice none 0 0] 397)=w2 at*;obtain ⟨T,hT⟩:∃T,w1.heap.size=T:=⟨_,rfl⟩;rw [hT] at kT hwT ⊢;clear hT hs2 c0 r0 r1 r2 lk2 lkr2 k2 kr2;have PC:=Bas.hid (single_any a len cap bs gl size w2 hl hc (HV.out.below HB2.out) hbl HS.out);clear k3 kr3;refine PC.out.mono ?_;rintro e w3 ⟨hb3,h3⟩;have kT3:=(hb3.block _ (heap_lt kT)).trans kT;have HB3:=Bas.hid (HB2.out.trans (hb3.mono HB2.out.size));have hw23:w.heap.size≤w2.heap.size:=HB2.out.size;clear hb3 PC;obtain ⟨r,hr⟩:∃r,formL bs gl size=r:=⟨_,rfl⟩;rw [←HFR.out,hr] at h3;cases r with
   |none=>
    simp only at h3;subst h3;have HNO:Hid (parseLk bs gl size=none):=by unfold Hid parseLk;rw [if_pos HL2.out,hr];rfl
    clear hr;go_wp2_with (fail);exact ⟨rfl,HB3.out,by rw [HNO.out]⟩
   |some ps=>
    simp only at h3;obtain ⟨v3,vs,rfl,hp3⟩:=h3;obtain ⟨av,cv,rfl⟩:=own_slice hp3.own;have HF:=Bas.hid hr;have HP3:=Bas.hid (pRow_base hp3 hw23);have c0:=cell_of_heap (i:=1) kT3 rfl;have f0:=free_of_heap (i:=1) kT3;have lT3:=heap_lt kT3;clear hp3 hr kT;go_wp2_with (fail);have kT5:=heap_set (i:=1) kT3 (.slice av ps.length cv);have HP5:=Bas.hid (pRow_set (i:=1) HP3.out kT3 (by decide) (by decide) (.slice av ps.length cv))
    have HB5:=Bas.hid (HB3.out.setCell (p:=⟨T,1,none⟩) hwT (.slice av ps.length cv));clear kT3 c0 f0 lT3;generalize w3.setCell ⟨T,1,none⟩ (.slice av ps.length cv)=W5 at*;have kT5:W5.heap[T]? =some (.cells #[.int .i64 6,.slice av ps.length cv] 397 (0,0)):=kT5;obtain ⟨n5,hn5⟩:∃n5,ps.length=n5:=⟨_,rfl⟩;have HN5:=Bas.hid hn5;have hown5:=HP5.out.own;rw [hn5] at hown5 kT5 ⊢;have HO5:=Bas.hid hown5;have hn63:n5≤9223372036854775807:=by have h1:=(own_cap hown5).2;have h2:=h1.1;have h3:=h1.2;unfold maxLen at h3;omega
    clear hown5 hn5;have t0:=cell_of_heap (i:=1) kT5 rfl;go_loopw [10] (fun vi wr=>∃j:Nat,1≤j∧(j≤n5∨j=1)∧vi=.int .i64 j∧(∀i p q,i+1<j→ps[i]? =some p→ps[i+1]? =some q→p.last<q.first)∧Below W5.heap.size W5 wr) (fun vi _=>n5+1 - (intOf vi).toNat)
    case atStart=>exact ⟨1,by omega,.inr rfl,rfl,fun i p q h=>by omega,Below.refl _ _⟩
    case round=>
     obtain ⟨j,hj1,hj2,rfl,hris,hb6⟩:=hrel;have HRIS:=Bas.hid hris;have HB6:=Bas.hid hb6;have kT6:=(hb6.block _ (heap_lt kT5)).trans kT5;have t1:=cell_of_heap (i:=1) kT6 rfl;have lT6:=heap_lt kT6;clear hris hb6 t0;by_cases hjn:j<n5
     ·have e1:decide ((j:Int)<(n5:Int))=true:=by simp;omega
      obtain ⟨i,hi⟩:∃i,j=i+1:=⟨j - 1,by omega⟩
      obtain ⟨p,hp⟩:∃p,ps[i]? =some p:=⟨_,List.getElem?_eq_getElem (by rw [HN5.out];omega)⟩
      obtain ⟨q,hq⟩:∃q,ps[j]? =some q:=⟨_,List.getElem?_eq_getElem (by rw [HN5.out];exact hjn)⟩
      obtain ⟨up,hup⟩:∃u,vs[i]? =some u:=⟨_,List.getElem?_eq_getElem (by rw [HP5.out.len,HN5.out];omega)⟩
      obtain ⟨uq,huq⟩:∃u,vs[j]? =some u:=⟨_,List.getElem?_eq_getElem (by rw [HP5.out.len,HN5.out];exact hjn)⟩
      have hL:=Row.leads_below (Row.leads_owned HO5.out) HB6.out;have hz1:(ps.zip vs)[i]? =some (p,up):=List.getElem?_zip_eq_some.2 ⟨hp,hup⟩;have hz2:(ps.zip vs)[j]? =some (q,uq):=List.getElem?_zip_eq_some.2 ⟨hq,huq⟩;obtain ⟨B1,O1,cp1,hv1,hcl1⟩:=Row.leads_elem prC_len hL hz1 (by omega)
      obtain ⟨B2,O2,cp2,hv2,hcl2⟩:=Row.leads_elem prC_len hL hz2 (by omega)
      cases hv1;cases hv2;have d1:=hcl1 1 _ rfl;have d0:=hcl2 0 _ rfl;simp only [Nat.add_zero] at d0 d1
      have lB:B1<wr.heap.size:=World.block_lt_of_cell? _ _ d1;have e3:(j:Int) - 1=(i:Int):=by omega
      have e4:decide ((i:Int)<(n5:Int))=true:=by simp;omega
      have hin:i<n5:=by omega
      have HPI:=Bas.hid hp;have hqi:ps[i+1]? =some q:=by rw [←hi];exact hq
      have HQI:=Bas.hid hqi;have HJ:=Bas.hid hi;obtain ⟨pl,hpl⟩:∃pl,p.last=pl:=⟨_,rfl⟩;obtain ⟨qf,hqf⟩:∃qf,q.first=qf:=⟨_,rfl⟩;rw [hpl] at d1;rw [hqf] at d0;have HPLL:=Bas.hid hpl;have HQF:=Bas.hid hqf;clear hL hcl1 hcl2 hz1 hz2 hp hq hup huq hi hpl hqf hqi;by_cases hr:pl<qf
      ·have dr:decide (pl<qf)=true:=decide_eq_true hr;have HRR:=Bas.hid hr;clear hr;go_wp2_with (fail);refine' Pl.region_v0 116 [] [0,1,2,3,4,5,6,7,8,9,10,11,12,13,14,15,16,17,18] [] _ (by kernel_rfl) (by kernel_rfl) (by simp) (fun _ _ _ _ e h=>⟨e▸h.1,h.2⟩) ?_ ?_
       rotate_left
       ·intro I F hI hF;simp only [Pl.selN,List.nil_append,List.drop_succ_cons,List.drop_zero];have x0:=fun i=>hF.cell lT6 t1 i
        have x1:=fun i=>hF.cell lB d1 i
        have x2:=fun i=>hF.cell lB d0 i
        repeat (go_big_quiet_step ((go_at_call 56;first|exact hF.same (need_yes _)|exact hF.same (need_yesb _ _ dr))))
        refine wpQuiet_nil ?_;rfl
       intro w7 hw7;simp only [Pl.selN];have HB7:=Bas.hid (HB6.out.trans (hw7.mono HB6.out.size));have HRIS2:Hid (∀i' p' q',i'+1<j+1→ps[i']? =some p'→ps[i'+1]? =some q'→p'.last<q'.first):=fun i' p' q' h hp' hq'=>by
        by_cases h':i'+1<j
        ·exact HRIS.out i' p' q' h' hp' hq'
        ·have e:i'=i:=by have:=HJ.out;omega
         subst e;rw [HPI.out] at hp';rw [HQI.out] at hq';cases hp';cases hq';rw [HPLL.out,HQF.out];exact HRR.out
       clear hw7 d0 d1 dr;go_wp2_with (fail);go_roundw
       case rel=>exact ⟨j+1,by omega,.inl (by omega),by go_num,HRIS2.out,HB7.out⟩
       case measure=>simp [intOf];omega
      ·have dr:decide (pl<qf)=false:=decide_eq_false hr;have HNO:Hid (parseLk bs gl size=none):=by
        unfold Hid parseLk;rw [if_pos HL2.out,HF.out,Option.bind_some,if_neg];intro h;have:=(rises_iff ps).1 h i p q HPI.out HQI.out;rw [HPLL.out,HQF.out] at this;exact hr this
       clear hr;go_wp2_with (fail);refine' Pl.region_vh 116 [] [0,1,2,3,4,5,6,7,8,9,10,11,12,13,14,15,16,17] [] 18 114 [] _ (fun ch w'=>ch=short∧Below w.heap.size w w') (by kernel_rfl) (by kernel_rfl) (by kernel_rfl) (by simp) (fun _ _ _ _ e h=>⟨e▸h.1,h.2⟩) ?_ ?_ ?_ ?_
       rotate_left
       ·intro I F hI hF;simp only [Pl.selN,List.nil_append,List.drop_succ_cons,List.drop_zero];have x0:=fun i=>hF.cell lT6 t1 i
        have x1:=fun i=>hF.cell lB d1 i
        have x2:=fun i=>hF.cell lB d0 i
        repeat (go_big_quiet_step (fail))
        refine wpQuiet_nil ?_;rfl
       ·simp only [Pl.selN,List.drop_succ_cons,List.drop_zero,List.mem_singleton,forall_eq];intro u hu
        go_simp
        simp only [Pl.valsAt];have hbu:=HB5.out.trans ((HB6.out.trans (hu.mono HB6.out.size)).mono HB5.out.size);refine (need_no u).mono ?_;rintro e w'' ⟨he,hb⟩;exact .inr ⟨short,he,rfl,by rw [←hb];exact hbu⟩
       ·intro z hz;cases hz
       ·rintro c' a' u hd ⟨rfl,hb⟩;exact ⟨hd,hb,by rw [HNO.out]⟩
     ·have e1:decide ((j:Int)<(n5:Int))=false:=by simp;omega
      have e2:decide (j<n5)=false:=by simp;omega
      have e3:¬(j:Int)<(n5:Int):=by omega
      have HYES:Hid (parseLk bs gl size=some ps):=by
       unfold Hid parseLk;rw [if_pos HL2.out,HF.out,Option.bind_some,if_pos];rw [rises_iff];intro i p q hp hq;refine HRIS.out i p q ?_ hp hq;have:=(List.getElem?_eq_some_iff.1 hq).1;rw [HN5.out] at this;omega
      have HBE:=Bas.hid (HB5.out.trans (HB6.out.mono HB5.out.size));have HAT:Hid (Lives w.heap.size (fun u=>LkAt u (.pointer (some ⟨T,0,none⟩)) ps) wr):=by
       have h:=pRow_below HP5.out HB6.out;rw [HN5.out] at h;exact lkLives_of kT6 h (by first|exact hwT|omega) (by first|exact Nat.le_refl _|exact hwT|omega)
      go_wp2_with (fail);go_ret;exact ⟨HBE.out,by rw [HYES.out];exact ⟨_,rfl,HAT.out⟩⟩
  by_cases x8:x=8
  ·subst x8;have HFR:Hid (formL bs gl size=trimL bs 2 size):=by unfold Hid formL;rw [HX.out];simp
   go_wp2_with (fail);generalize w1.alloc (.cells #[.int .i64 8,.slice none 0 0] 397)=w2 at*;obtain ⟨T,hT⟩:∃T,w1.heap.size=T:=⟨_,rfl⟩;rw [hT] at kT hwT ⊢;clear hT hs2 c0 r0 r1 r2 lk2 lkr2 k2 kr2;have PC:=Bas.hid (trimmed_any a len cap bs gl size 2 size w2 hl hc (HV.out.below HB2.out) hbl (by have:=HS.out;omega) (by omega))
   clear k3 kr3;refine PC.out.mono ?_;rintro e w3 ⟨hb3,h3⟩;have kT3:=(hb3.block _ (heap_lt kT)).trans kT;have HB3:=Bas.hid (HB2.out.trans (hb3.mono HB2.out.size));have hw23:w.heap.size≤w2.heap.size:=HB2.out.size;clear hb3 PC;obtain ⟨r,hr⟩:∃r,formL bs gl size=r:=⟨_,rfl⟩;rw [←HFR.out,hr] at h3;cases r with
   |none=>
    simp only at h3;subst h3;have HNO:Hid (parseLk bs gl size=none):=by unfold Hid parseLk;rw [if_pos HL2.out,hr];rfl
    clear hr;go_wp2_with (fail);exact ⟨rfl,HB3.out,by rw [HNO.out]⟩
   |some ps=>
    simp only at h3;obtain ⟨v3,vs,rfl,hp3⟩:=h3;obtain ⟨av,cv,rfl⟩:=own_slice hp3.own;have HF:=Bas.hid hr;have HP3:=Bas.hid (pRow_base hp3 hw23);have c0:=cell_of_heap (i:=1) kT3 rfl;have f0:=free_of_heap (i:=1) kT3;have lT3:=heap_lt kT3;clear hp3 hr kT;go_wp2_with (fail);have kT5:=heap_set (i:=1) kT3 (.slice av ps.length cv);have HP5:=Bas.hid (pRow_set (i:=1) HP3.out kT3 (by decide) (by decide) (.slice av ps.length cv))
    have HB5:=Bas.hid (HB3.out.setCell (p:=⟨T,1,none⟩) hwT (.slice av ps.length cv));clear kT3 c0 f0 lT3;generalize w3.setCell ⟨T,1,none⟩ (.slice av ps.length cv)=W5 at*;have kT5:W5.heap[T]? =some (.cells #[.int .i64 8,.slice av ps.length cv] 397 (0,0)):=kT5;obtain ⟨n5,hn5⟩:∃n5,ps.length=n5:=⟨_,rfl⟩;have HN5:=Bas.hid hn5;have hown5:=HP5.out.own;rw [hn5] at hown5 kT5 ⊢;have HO5:=Bas.hid hown5;have hn63:n5≤9223372036854775807:=by have h1:=(own_cap hown5).2;have h2:=h1.1;have h3:=h1.2;unfold maxLen at h3;omega
    clear hown5 hn5;have t0:=cell_of_heap (i:=1) kT5 rfl;go_loopw [10] (fun vi wr=>∃j:Nat,1≤j∧(j≤n5∨j=1)∧vi=.int .i64 j∧(∀i p q,i+1<j→ps[i]? =some p→ps[i+1]? =some q→p.last<q.first)∧Below W5.heap.size W5 wr) (fun vi _=>n5+1 - (intOf vi).toNat)
    case atStart=>exact ⟨1,by omega,.inr rfl,rfl,fun i p q h=>by omega,Below.refl _ _⟩
    case round=>
     obtain ⟨j,hj1,hj2,rfl,hris,hb6⟩:=hrel;have HRIS:=Bas.hid hris;have HB6:=Bas.hid hb6;have kT6:=(hb6.block _ (heap_lt kT5)).trans kT5;have t1:=cell_of_heap (i:=1) kT6 rfl;have lT6:=heap_lt kT6;clear hris hb6 t0;by_cases hjn:j<n5
     ·have e1:decide ((j:Int)<(n5:Int))=true:=by simp;omega
      obtain ⟨i,hi⟩:∃i,j=i+1:=⟨j - 1,by omega⟩
      obtain ⟨p,hp⟩:∃p,ps[i]? =some p:=⟨_,List.getElem?_eq_getElem (by rw [HN5.out];omega)⟩
      obtain ⟨q,hq⟩:∃q,ps[j]? =some q:=⟨_,List.getElem?_eq_getElem (by rw [HN5.out];exact hjn)⟩
      obtain ⟨up,hup⟩:∃u,vs[i]? =some u:=⟨_,List.getElem?_eq_getElem (by rw [HP5.out.len,HN5.out];omega)⟩
      obtain ⟨uq,huq⟩:∃u,vs[j]? =some u:=⟨_,List.getElem?_eq_getElem (by rw [HP5.out.len,HN5.out];exact hjn)⟩
      have hL:=Row.leads_below (Row.leads_owned HO5.out) HB6.out;have hz1:(ps.zip vs)[i]? =some (p,up):=List.getElem?_zip_eq_some.2 ⟨hp,hup⟩;have hz2:(ps.zip vs)[j]? =some (q,uq):=List.getElem?_zip_eq_some.2 ⟨hq,huq⟩;obtain ⟨B1,O1,cp1,hv1,hcl1⟩:=Row.leads_elem prC_len hL hz1 (by omega)
      obtain ⟨B2,O2,cp2,hv2,hcl2⟩:=Row.leads_elem prC_len hL hz2 (by omega)
      cases hv1;cases hv2;have d1:=hcl1 1 _ rfl;have d0:=hcl2 0 _ rfl;simp only [Nat.add_zero] at d0 d1
      have lB:B1<wr.heap.size:=World.block_lt_of_cell? _ _ d1;have e3:(j:Int) - 1=(i:Int):=by omega
      have e4:decide ((i:Int)<(n5:Int))=true:=by simp;omega
      have hin:i<n5:=by omega
      have HPI:=Bas.hid hp;have hqi:ps[i+1]? =some q:=by rw [←hi];exact hq
      have HQI:=Bas.hid hqi;have HJ:=Bas.hid hi;obtain ⟨pl,hpl⟩:∃pl,p.last=pl:=⟨_,rfl⟩;obtain ⟨qf,hqf⟩:∃qf,q.first=qf:=⟨_,rfl⟩;rw [hpl] at d1;rw [hqf] at d0;have HPLL:=Bas.hid hpl;have HQF:=Bas.hid hqf;clear hL hcl1 hcl2 hz1 hz2 hp hq hup huq hi hpl hqf hqi;by_cases hr:pl<qf
      ·have dr:decide (pl<qf)=true:=decide_eq_true hr;have HRR:=Bas.hid hr;clear hr;go_wp2_with (fail);refine' Pl.region_v0 116 [] [0,1,2,3,4,5,6,7,8,9,10,11,12,13,14,15,16,17,18] [] _ (by kernel_rfl) (by kernel_rfl) (by simp) (fun _ _ _ _ e h=>⟨e▸h.1,h.2⟩) ?_ ?_
       rotate_left
       ·intro I F hI hF;simp only [Pl.selN,List.nil_append,List.drop_succ_cons,List.drop_zero];have x0:=fun i=>hF.cell lT6 t1 i
        have x1:=fun i=>hF.cell lB d1 i
        have x2:=fun i=>hF.cell lB d0 i
        repeat (go_big_quiet_step ((go_at_call 56;first|exact hF.same (need_yes _)|exact hF.same (need_yesb _ _ dr))))
        refine wpQuiet_nil ?_;rfl
       intro w7 hw7;simp only [Pl.selN];have HB7:=Bas.hid (HB6.out.trans (hw7.mono HB6.out.size));have HRIS2:Hid (∀i' p' q',i'+1<j+1→ps[i']? =some p'→ps[i'+1]? =some q'→p'.last<q'.first):=fun i' p' q' h hp' hq'=>by
        by_cases h':i'+1<j
        ·exact HRIS.out i' p' q' h' hp' hq'
        ·have e:i'=i:=by have:=HJ.out;omega
         subst e;rw [HPI.out] at hp';rw [HQI.out] at hq';cases hp';cases hq';rw [HPLL.out,HQF.out];exact HRR.out
       clear hw7 d0 d1 dr;go_wp2_with (fail);go_roundw
       case rel=>exact ⟨j+1,by omega,.inl (by omega),by go_num,HRIS2.out,HB7.out⟩
       case measure=>simp [intOf];omega
      ·have dr:decide (pl<qf)=false:=decide_eq_false hr;have HNO:Hid (parseLk bs gl size=none):=by
        unfold Hid parseLk;rw [if_pos HL2.out,HF.out,Option.bind_some,if_neg];intro h;have:=(rises_iff ps).1 h i p q HPI.out HQI.out;rw [HPLL.out,HQF.out] at this;exact hr this
       clear hr;go_wp2_with (fail);refine' Pl.region_vh 116 [] [0,1,2,3,4,5,6,7,8,9,10,11,12,13,14,15,16,17] [] 18 114 [] _ (fun ch w'=>ch=short∧Below w.heap.size w w') (by kernel_rfl) (by kernel_rfl) (by kernel_rfl) (by simp) (fun _ _ _ _ e h=>⟨e▸h.1,h.2⟩) ?_ ?_ ?_ ?_
       rotate_left
       ·intro I F hI hF;simp only [Pl.selN,List.nil_append,List.drop_succ_cons,List.drop_zero];have x0:=fun i=>hF.cell lT6 t1 i
        have x1:=fun i=>hF.cell lB d1 i
        have x2:=fun i=>hF.cell lB d0 i
        repeat (go_big_quiet_step (fail))
        refine wpQuiet_nil ?_;rfl
       ·simp only [Pl.selN,List.drop_succ_cons,List.drop_zero,List.mem_singleton,forall_eq];intro u hu
        go_simp
        simp only [Pl.valsAt];have hbu:=HB5.out.trans ((HB6.out.trans (hu.mono HB6.out.size)).mono HB5.out.size);refine (need_no u).mono ?_;rintro e w'' ⟨he,hb⟩;exact .inr ⟨short,he,rfl,by rw [←hb];exact hbu⟩
       ·intro z hz;cases hz
       ·rintro c' a' u hd ⟨rfl,hb⟩;exact ⟨hd,hb,by rw [HNO.out]⟩
     ·have e1:decide ((j:Int)<(n5:Int))=false:=by simp;omega
      have e2:decide (j<n5)=false:=by simp;omega
      have e3:¬(j:Int)<(n5:Int):=by omega
      have HYES:Hid (parseLk bs gl size=some ps):=by
       unfold Hid parseLk;rw [if_pos HL2.out,HF.out,Option.bind_some,if_pos];rw [rises_iff];intro i p q hp hq;refine HRIS.out i p q ?_ hp hq;have:=(List.getElem?_eq_some_iff.1 hq).1;rw [HN5.out] at this;omega
      have HBE:=Bas.hid (HB5.out.trans (HB6.out.mono HB5.out.size));have HAT:Hid (Lives w.heap.size (fun u=>LkAt u (.pointer (some ⟨T,0,none⟩)) ps) wr):=by
       have h:=pRow_below HP5.out HB6.out;rw [HN5.out] at h;exact lkLives_of kT6 h (by first|exact hwT|omega) (by first|exact Nat.le_refl _|exact hwT|omega)
      go_wp2_with (fail);go_ret;exact ⟨HBE.out,by rw [HYES.out];exact ⟨_,rfl,HAT.out⟩⟩
  by_cases x10:x=10
  ·subst x10;by_cases f4:4≤len
   ·have HU4:=Bas.hid (fun (w':World) (hb:Below w.heap.size w w')=>u16_ok a len cap bs 2 w' hl hc (HV.out.below hb) hbl (by omega) (by omega))
    simp only [show Int.toNat 2=2 from rfl] at HU4
    have b2:=be_rng2 HV.out.byte 2;obtain ⟨un,hun⟩:∃un,be bs 2 2=un:=⟨_,rfl⟩;rw [hun] at HU4;have HUN:=Bas.hid hun;clear b2 hun;by_cases hu:un=1
    ·subst hu;have HFR:Hid (formL bs gl size=trimL bs 4 1):=by unfold Hid formL;rw [HX.out,HUN.out];simp;omega
     have f4':=f4;go_wp2_with (fail);generalize w1.alloc (.cells #[.int .i64 10,.slice none 0 0] 397)=w2 at*;obtain ⟨T,hT⟩:∃T,w1.heap.size=T:=⟨_,rfl⟩;rw [hT] at kT hwT ⊢;have HB22:=Bas.hid HB2.out;clear hT hs2 c0 r0 r1 r2 lk2 lkr2 k2 kr2;refine (HU4.out _ HB22.out).mono ?_;rintro e w2' ⟨rfl,hb22⟩;have kT':=(hb22.block _ (heap_lt kT)).trans kT;have kr3':=(hb22.block _ (heap_lt kr3)).trans kr3;have HB2':=Bas.hid (HB2.out.trans (hb22.mono HB2.out.size));have r0:=cell_of_heap (i:=0) (v:=.slice a len cap) kr3' rfl;have r1:=cell_of_heap (i:=1) (v:=.int .i64 gl) kr3' rfl;have r2:=cell_of_heap (i:=2) (v:=.int .i64 size) kr3' rfl;clear hb22 kT kr3 k3 HB2 HB22 HU4;have kT:=kT';have HB2:=HB2';clear kT' HB2';go_wp2_with (go_at_call 56;refine (need_yes _).mono ?_;rintro e w' ⟨rfl,rfl⟩);have PC:=Bas.hid (trimmed_any a len cap bs gl size 4 1 w2' hl hc (HV.out.below HB2.out) hbl (by omega) (by omega))
     clear r0 r1 r2 kr3';refine PC.out.mono ?_;rintro e w3 ⟨hb3,h3⟩;have kT3:=(hb3.block _ (heap_lt kT)).trans kT;have HB3:=Bas.hid (HB2.out.trans (hb3.mono HB2.out.size));have hw23:w.heap.size≤w2'.heap.size:=HB2.out.size;clear hb3 PC;obtain ⟨r,hr⟩:∃r,formL bs gl size=r:=⟨_,rfl⟩;rw [←HFR.out,hr] at h3;cases r with
     |none=>
      simp only at h3;subst h3;have HNO:Hid (parseLk bs gl size=none):=by unfold Hid parseLk;rw [if_pos HL2.out,hr];rfl
      clear hr;go_wp2_with (fail);exact ⟨rfl,HB3.out,by rw [HNO.out]⟩
     |some ps=>
      simp only at h3;obtain ⟨v3,vs,rfl,hp3⟩:=h3;obtain ⟨av,cv,rfl⟩:=own_slice hp3.own;have HF:=Bas.hid hr;have HP3:=Bas.hid (pRow_base hp3 hw23);have c0:=cell_of_heap (i:=1) kT3 rfl;have f0:=free_of_heap (i:=1) kT3;have lT3:=heap_lt kT3;clear hp3 hr kT;go_wp2_with (fail);have kT5:=heap_set (i:=1) kT3 (.slice av ps.length cv);have HP5:=Bas.hid (pRow_set (i:=1) HP3.out kT3 (by decide) (by decide) (.slice av ps.length cv))
      have HB5:=Bas.hid (HB3.out.setCell (p:=⟨T,1,none⟩) hwT (.slice av ps.length cv));clear kT3 c0 f0 lT3;generalize w3.setCell ⟨T,1,none⟩ (.slice av ps.length cv)=W5 at*;have kT5:W5.heap[T]? =some (.cells #[.int .i64 10,.slice av ps.length cv] 397 (0,0)):=kT5;obtain ⟨n5,hn5⟩:∃n5,ps.length=n5:=⟨_,rfl⟩;have HN5:=Bas.hid hn5;have hown5:=HP5.out.own;rw [hn5] at hown5 kT5 ⊢;have HO5:=Bas.hid hown5;have hn63:n5≤9223372036854775807:=by have h1:=(own_cap hown5).2;have h2:=h1.1;have h3:=h1.2;unfold maxLen at h3;omega
      clear hown5 hn5;have t0:=cell_of_heap (i:=1) kT5 rfl;go_loopw [10] (fun vi wr=>∃j:Nat,1≤j∧(j≤n5∨j=1)∧vi=.int .i64 j∧(∀i p q,i+1<j→ps[i]? =some p→ps[i+1]? =some q→p.last<q.first)∧Below W5.heap.size W5 wr) (fun vi _=>n5+1 - (intOf vi).toNat)
      case atStart=>exact ⟨1,by omega,.inr rfl,rfl,fun i p q h=>by omega,Below.refl _ _⟩
      case round=>
       obtain ⟨j,hj1,hj2,rfl,hris,hb6⟩:=hrel;have HRIS:=Bas.hid hris;have HB6:=Bas.hid hb6;have kT6:=(hb6.block _ (heap_lt kT5)).trans kT5;have t1:=cell_of_heap (i:=1) kT6 rfl;have lT6:=heap_lt kT6;clear hris hb6 t0;by_cases hjn:j<n5
       ·have e1:decide ((j:Int)<(n5:Int))=true:=by simp;omega
        obtain ⟨i,hi⟩:∃i,j=i+1:=⟨j - 1,by omega⟩
        obtain ⟨p,hp⟩:∃p,ps[i]? =some p:=⟨_,List.getElem?_eq_getElem (by rw [HN5.out];omega)⟩
        obtain ⟨q,hq⟩:∃q,ps[j]? =some q:=⟨_,List.getElem?_eq_getElem (by rw [HN5.out];exact hjn)⟩
        obtain ⟨up,hup⟩:∃u,vs[i]? =some u:=⟨_,List.getElem?_eq_getElem (by rw [HP5.out.len,HN5.out];omega)⟩
        obtain ⟨uq,huq⟩:∃u,vs[j]? =some u:=⟨_,List.getElem?_eq_getElem (by rw [HP5.out.len,HN5.out];exact hjn)⟩
        have hL:=Row.leads_below (Row.leads_owned HO5.out) HB6.out;have hz1:(ps.zip vs)[i]? =some (p,up):=List.getElem?_zip_eq_some.2 ⟨hp,hup⟩;have hz2:(ps.zip vs)[j]? =some (q,uq):=List.getElem?_zip_eq_some.2 ⟨hq,huq⟩;obtain ⟨B1,O1,cp1,hv1,hcl1⟩:=Row.leads_elem prC_len hL hz1 (by omega)
        obtain ⟨B2,O2,cp2,hv2,hcl2⟩:=Row.leads_elem prC_len hL hz2 (by omega)
        cases hv1;cases hv2;have d1:=hcl1 1 _ rfl;have d0:=hcl2 0 _ rfl;simp only [Nat.add_zero] at d0 d1
        have lB:B1<wr.heap.size:=World.block_lt_of_cell? _ _ d1;have e3:(j:Int) - 1=(i:Int):=by omega
        have e4:decide ((i:Int)<(n5:Int))=true:=by simp;omega
        have hin:i<n5:=by omega
        have HPI:=Bas.hid hp;have hqi:ps[i+1]? =some q:=by rw [←hi];exact hq
        have HQI:=Bas.hid hqi;have HJ:=Bas.hid hi;obtain ⟨pl,hpl⟩:∃pl,p.last=pl:=⟨_,rfl⟩;obtain ⟨qf,hqf⟩:∃qf,q.first=qf:=⟨_,rfl⟩;rw [hpl] at d1;rw [hqf] at d0;have HPLL:=Bas.hid hpl;have HQF:=Bas.hid hqf;clear hL hcl1 hcl2 hz1 hz2 hp hq hup huq hi hpl hqf hqi;by_cases hr:pl<qf
        ·have dr:decide (pl<qf)=true:=decide_eq_true hr;have HRR:=Bas.hid hr;clear hr;go_wp2_with (fail);refine' Pl.region_v0 116 [] [0,1,2,3,4,5,6,7,8,9,10,11,12,13,14,15,16,17,18] [] _ (by kernel_rfl) (by kernel_rfl) (by simp) (fun _ _ _ _ e h=>⟨e▸h.1,h.2⟩) ?_ ?_
         rotate_left
         ·intro I F hI hF;simp only [Pl.selN,List.nil_append,List.drop_succ_cons,List.drop_zero];have x0:=fun i=>hF.cell lT6 t1 i
          have x1:=fun i=>hF.cell lB d1 i
          have x2:=fun i=>hF.cell lB d0 i
          repeat (go_big_quiet_step ((go_at_call 56;first|exact hF.same (need_yes _)|exact hF.same (need_yesb _ _ dr))))
          refine wpQuiet_nil ?_;rfl
         intro w7 hw7;simp only [Pl.selN];have HB7:=Bas.hid (HB6.out.trans (hw7.mono HB6.out.size));have HRIS2:Hid (∀i' p' q',i'+1<j+1→ps[i']? =some p'→ps[i'+1]? =some q'→p'.last<q'.first):=fun i' p' q' h hp' hq'=>by
          by_cases h':i'+1<j
          ·exact HRIS.out i' p' q' h' hp' hq'
          ·have e:i'=i:=by have:=HJ.out;omega
           subst e;rw [HPI.out] at hp';rw [HQI.out] at hq';cases hp';cases hq';rw [HPLL.out,HQF.out];exact HRR.out
         clear hw7 d0 d1 dr;go_wp2_with (fail);go_roundw
         case rel=>exact ⟨j+1,by omega,.inl (by omega),by go_num,HRIS2.out,HB7.out⟩
         case measure=>simp [intOf];omega
        ·have dr:decide (pl<qf)=false:=decide_eq_false hr;have HNO:Hid (parseLk bs gl size=none):=by
          unfold Hid parseLk;rw [if_pos HL2.out,HF.out,Option.bind_some,if_neg];intro h;have:=(rises_iff ps).1 h i p q HPI.out HQI.out;rw [HPLL.out,HQF.out] at this;exact hr this
         clear hr;go_wp2_with (fail);refine' Pl.region_vh 116 [] [0,1,2,3,4,5,6,7,8,9,10,11,12,13,14,15,16,17] [] 18 114 [] _ (fun ch w'=>ch=short∧Below w.heap.size w w') (by kernel_rfl) (by kernel_rfl) (by kernel_rfl) (by simp) (fun _ _ _ _ e h=>⟨e▸h.1,h.2⟩) ?_ ?_ ?_ ?_
         rotate_left
         ·intro I F hI hF;simp only [Pl.selN,List.nil_append,List.drop_succ_cons,List.drop_zero];have x0:=fun i=>hF.cell lT6 t1 i
          have x1:=fun i=>hF.cell lB d1 i
          have x2:=fun i=>hF.cell lB d0 i
          repeat (go_big_quiet_step (fail))
          refine wpQuiet_nil ?_;rfl
         ·simp only [Pl.selN,List.drop_succ_cons,List.drop_zero,List.mem_singleton,forall_eq];intro u hu
          go_simp
          simp only [Pl.valsAt];have hbu:=HB5.out.trans ((HB6.out.trans (hu.mono HB6.out.size)).mono HB5.out.size);refine (need_no u).mono ?_;rintro e w'' ⟨he,hb⟩;exact .inr ⟨short,he,rfl,by rw [←hb];exact hbu⟩
         ·intro z hz;cases hz
         ·rintro c' a' u hd ⟨rfl,hb⟩;exact ⟨hd,hb,by rw [HNO.out]⟩
       ·have e1:decide ((j:Int)<(n5:Int))=false:=by simp;omega
        have e2:decide (j<n5)=false:=by simp;omega
        have e3:¬(j:Int)<(n5:Int):=by omega
        have HYES:Hid (parseLk bs gl size=some ps):=by
         unfold Hid parseLk;rw [if_pos HL2.out,HF.out,Option.bind_some,if_pos];rw [rises_iff];intro i p q hp hq;refine HRIS.out i p q ?_ hp hq;have:=(List.getElem?_eq_some_iff.1 hq).1;rw [HN5.out] at this;omega
        have HBE:=Bas.hid (HB5.out.trans (HB6.out.mono HB5.out.size));have HAT:Hid (Lives w.heap.size (fun u=>LkAt u (.pointer (some ⟨T,0,none⟩)) ps) wr):=by
         have h:=pRow_below HP5.out HB6.out;rw [HN5.out] at h;exact lkLives_of kT6 h (by first|exact hwT|omega) (by first|exact Nat.le_refl _|exact hwT|omega)
        go_wp2_with (fail);go_ret;exact ⟨HBE.out,by rw [HYES.out];exact ⟨_,rfl,HAT.out⟩⟩
    have hu1:=hu;clear hu;by_cases hu:un=2
    ·subst hu;have HFR:Hid (formL bs gl size=trimL bs 4 2):=by unfold Hid formL;rw [HX.out,HUN.out];simp;omega
     have f4':=f4;go_wp2_with (fail);generalize w1.alloc (.cells #[.int .i64 10,.slice none 0 0] 397)=w2 at*;obtain ⟨T,hT⟩:∃T,w1.heap.size=T:=⟨_,rfl⟩;rw [hT] at kT hwT ⊢;have HB22:=Bas.hid HB2.out;clear hT hs2 c0 r0 r1 r2 lk2 lkr2 k2 kr2;refine (HU4.out _ HB22.out).mono ?_;rintro e w2' ⟨rfl,hb22⟩;have kT':=(hb22.block _ (heap_lt kT)).trans kT;have kr3':=(hb22.block _ (heap_lt kr3)).trans kr3;have HB2':=Bas.hid (HB2.out.trans (hb22.mono HB2.out.size));have r0:=cell_of_heap (i:=0) (v:=.slice a len cap) kr3' rfl;have r1:=cell_of_heap (i:=1) (v:=.int .i64 gl) kr3' rfl;have r2:=cell_of_heap (i:=2) (v:=.int .i64 size) kr3' rfl;clear hb22 kT kr3 k3 HB2 HB22 HU4;have kT:=kT';have HB2:=HB2';clear kT' HB2';go_wp2_with (go_at_call 56;refine (need_yes _).mono ?_;rintro e w' ⟨rfl,rfl⟩);have PC:=Bas.hid (trimmed_any a len cap bs gl size 4 2 w2' hl hc (HV.out.below HB2.out) hbl (by omega) (by omega))
     clear r0 r1 r2 kr3';refine PC.out.mono ?_;rintro e w3 ⟨hb3,h3⟩;have kT3:=(hb3.block _ (heap_lt kT)).trans kT;have HB3:=Bas.hid (HB2.out.trans (hb3.mono HB2.out.size));have hw23:w.heap.size≤w2'.heap.size:=HB2.out.size;clear hb3 PC;obtain ⟨r,hr⟩:∃r,formL bs gl size=r:=⟨_,rfl⟩;rw [←HFR.out,hr] at h3;cases r with
     |none=>
      simp only at h3;subst h3;have HNO:Hid (parseLk bs gl size=none):=by unfold Hid parseLk;rw [if_pos HL2.out,hr];rfl
      clear hr;go_wp2_with (fail);exact ⟨rfl,HB3.out,by rw [HNO.out]⟩
     |some ps=>
      simp only at h3;obtain ⟨v3,vs,rfl,hp3⟩:=h3;obtain ⟨av,cv,rfl⟩:=own_slice hp3.own;have HF:=Bas.hid hr;have HP3:=Bas.hid (pRow_base hp3 hw23);have c0:=cell_of_heap (i:=1) kT3 rfl;have f0:=free_of_heap (i:=1) kT3;have lT3:=heap_lt kT3;clear hp3 hr kT;go_wp2_with (fail);have kT5:=heap_set (i:=1) kT3 (.slice av ps.length cv);have HP5:=Bas.hid (pRow_set (i:=1) HP3.out kT3 (by decide) (by decide) (.slice av ps.length cv))
      have HB5:=Bas.hid (HB3.out.setCell (p:=⟨T,1,none⟩) hwT (.slice av ps.length cv));clear kT3 c0 f0 lT3;generalize w3.setCell ⟨T,1,none⟩ (.slice av ps.length cv)=W5 at*;have kT5:W5.heap[T]? =some (.cells #[.int .i64 10,.slice av ps.length cv] 397 (0,0)):=kT5;obtain ⟨n5,hn5⟩:∃n5,ps.length=n5:=⟨_,rfl⟩;have HN5:=Bas.hid hn5;have hown5:=HP5.out.own;rw [hn5] at hown5 kT5 ⊢;have HO5:=Bas.hid hown5;have hn63:n5≤9223372036854775807:=by have h1:=(own_cap hown5).2;have h2:=h1.1;have h3:=h1.2;unfold maxLen at h3;omega
      clear hown5 hn5;have t0:=cell_of_heap (i:=1) kT5 rfl;go_loopw [10] (fun vi wr=>∃j:Nat,1≤j∧(j≤n5∨j=1)∧vi=.int .i64 j∧(∀i p q,i+1<j→ps[i]? =some p→ps[i+1]? =some q→p.last<q.first)∧Below W5.heap.size W5 wr) (fun vi _=>n5+1 - (intOf vi).toNat)
      case atStart=>exact ⟨1,by omega,.inr rfl,rfl,fun i p q h=>by omega,Below.refl _ _⟩
      case round=>
       obtain ⟨j,hj1,hj2,rfl,hris,hb6⟩:=hrel;have HRIS:=Bas.hid hris;have HB6:=Bas.hid hb6;have kT6:=(hb6.block _ (heap_lt kT5)).trans kT5;have t1:=cell_of_heap (i:=1) kT6 rfl;have lT6:=heap_lt kT6;clear hris hb6 t0;by_cases hjn:j<n5
       ·have e1:decide ((j:Int)<(n5:Int))=true:=by simp;omega
        obtain ⟨i,hi⟩:∃i,j=i+1:=⟨j - 1,by omega⟩
        obtain ⟨p,hp⟩:∃p,ps[i]? =some p:=⟨_,List.getElem?_eq_getElem (by rw [HN5.out];omega)⟩
        obtain ⟨q,hq⟩:∃q,ps[j]? =some q:=⟨_,List.getElem?_eq_getElem (by rw [HN5.out];exact hjn)⟩
        obtain ⟨up,hup⟩:∃u,vs[i]? =some u:=⟨_,List.getElem?_eq_getElem (by rw [HP5.out.len,HN5.out];omega)⟩
        obtain ⟨uq,huq⟩:∃u,vs[j]? =some u:=⟨_,List.getElem?_eq_getElem (by rw [HP5.out.len,HN5.out];exact hjn)⟩
        have hL:=Row.leads_below (Row.leads_owned HO5.out) HB6.out;have hz1:(ps.zip vs)[i]? =some (p,up):=List.getElem?_zip_eq_some.2 ⟨hp,hup⟩;have hz2:(ps.zip vs)[j]? =some (q,uq):=List.getElem?_zip_eq_some.2 ⟨hq,huq⟩;obtain ⟨B1,O1,cp1,hv1,hcl1⟩:=Row.leads_elem prC_len hL hz1 (by omega)
        obtain ⟨B2,O2,cp2,hv2,hcl2⟩:=Row.leads_elem prC_len hL hz2 (by omega)
        cases hv1;cases hv2;have d1:=hcl1 1 _ rfl;have d0:=hcl2 0 _ rfl;simp only [Nat.add_zero] at d0 d1
        have lB:B1<wr.heap.size:=World.block_lt_of_cell? _ _ d1;have e3:(j:Int) - 1=(i:Int):=by omega
        have e4:decide ((i:Int)<(n5:Int))=true:=by simp;omega
        have hin:i<n5:=by omega
        have HPI:=Bas.hid hp;have hqi:ps[i+1]? =some q:=by rw [←hi];exact hq
        have HQI:=Bas.hid hqi;have HJ:=Bas.hid hi;obtain ⟨pl,hpl⟩:∃pl,p.last=pl:=⟨_,rfl⟩;obtain ⟨qf,hqf⟩:∃qf,q.first=qf:=⟨_,rfl⟩;rw [hpl] at d1;rw [hqf] at d0;have HPLL:=Bas.hid hpl;have HQF:=Bas.hid hqf;clear hL hcl1 hcl2 hz1 hz2 hp hq hup huq hi hpl hqf hqi;by_cases hr:pl<qf
        ·have dr:decide (pl<qf)=true:=decide_eq_true hr;have HRR:=Bas.hid hr;clear hr;go_wp2_with (fail);refine' Pl.region_v0 116 [] [0,1,2,3,4,5,6,7,8,9,10,11,12,13,14,15,16,17,18] [] _ (by kernel_rfl) (by kernel_rfl) (by simp) (fun _ _ _ _ e h=>⟨e▸h.1,h.2⟩) ?_ ?_
         rotate_left
         ·intro I F hI hF;simp only [Pl.selN,List.nil_append,List.drop_succ_cons,List.drop_zero];have x0:=fun i=>hF.cell lT6 t1 i
          have x1:=fun i=>hF.cell lB d1 i
          have x2:=fun i=>hF.cell lB d0 i
          repeat (go_big_quiet_step ((go_at_call 56;first|exact hF.same (need_yes _)|exact hF.same (need_yesb _ _ dr))))
          refine wpQuiet_nil ?_;rfl
         intro w7 hw7;simp only [Pl.selN];have HB7:=Bas.hid (HB6.out.trans (hw7.mono HB6.out.size));have HRIS2:Hid (∀i' p' q',i'+1<j+1→ps[i']? =some p'→ps[i'+1]? =some q'→p'.last<q'.first):=fun i' p' q' h hp' hq'=>by
          by_cases h':i'+1<j
          ·exact HRIS.out i' p' q' h' hp' hq'
          ·have e:i'=i:=by have:=HJ.out;omega
           subst e;rw [HPI.out] at hp';rw [HQI.out] at hq';cases hp';cases hq';rw [HPLL.out,HQF.out];exact HRR.out
         clear hw7 d0 d1 dr;go_wp2_with (fail);go_roundw
         case rel=>exact ⟨j+1,by omega,.inl (by omega),by go_num,HRIS2.out,HB7.out⟩
         case measure=>simp [intOf];omega
        ·have dr:decide (pl<qf)=false:=decide_eq_false hr;have HNO:Hid (parseLk bs gl size=none):=by
          unfold Hid parseLk;rw [if_pos HL2.out,HF.out,Option.bind_some,if_neg];intro h;have:=(rises_iff ps).1 h i p q HPI.out HQI.out;rw [HPLL.out,HQF.out] at this;exact hr this
         clear hr;go_wp2_with (fail);refine' Pl.region_vh 116 [] [0,1,2,3,4,5,6,7,8,9,10,11,12,13,14,15,16,17] [] 18 114 [] _ (fun ch w'=>ch=short∧Below w.heap.size w w') (by kernel_rfl) (by kernel_rfl) (by kernel_rfl) (by simp) (fun _ _ _ _ e h=>⟨e▸h.1,h.2⟩) ?_ ?_ ?_ ?_
         rotate_left
         ·intro I F hI hF;simp only [Pl.selN,List.nil_append,List.drop_succ_cons,List.drop_zero];have x0:=fun i=>hF.cell lT6 t1 i
          have x1:=fun i=>hF.cell lB d1 i
          have x2:=fun i=>hF.cell lB d0 i
          repeat (go_big_quiet_step (fail))
          refine wpQuiet_nil ?_;rfl
         ·simp only [Pl.selN,List.drop_succ_cons,List.drop_zero,List.mem_singleton,forall_eq];intro u hu
          go_simp
          simp only [Pl.valsAt];have hbu:=HB5.out.trans ((HB6.out.trans (hu.mono HB6.out.size)).mono HB5.out.size);refine (need_no u).mono ?_;rintro e w'' ⟨he,hb⟩;exact .inr ⟨short,he,rfl,by rw [←hb];exact hbu⟩
         ·intro z hz;cases hz
         ·rintro c' a' u hd ⟨rfl,hb⟩;exact ⟨hd,hb,by rw [HNO.out]⟩
       ·have e1:decide ((j:Int)<(n5:Int))=false:=by simp;omega
        have e2:decide (j<n5)=false:=by simp;omega
        have e3:¬(j:Int)<(n5:Int):=by omega
        have HYES:Hid (parseLk bs gl size=some ps):=by
         unfold Hid parseLk;rw [if_pos HL2.out,HF.out,Option.bind_some,if_pos];rw [rises_iff];intro i p q hp hq;refine HRIS.out i p q ?_ hp hq;have:=(List.getElem?_eq_some_iff.1 hq).1;rw [HN5.out] at this;omega
        have HBE:=Bas.hid (HB5.out.trans (HB6.out.mono HB5.out.size));have HAT:Hid (Lives w.heap.size (fun u=>LkAt u (.pointer (some ⟨T,0,none⟩)) ps) wr):=by
         have h:=pRow_below HP5.out HB6.out;rw [HN5.out] at h;exact lkLives_of kT6 h (by first|exact hwT|omega) (by first|exact Nat.le_refl _|exact hwT|omega)
        go_wp2_with (fail);go_ret;exact ⟨HBE.out,by rw [HYES.out];exact ⟨_,rfl,HAT.out⟩⟩
    have hu2:=hu;clear hu;by_cases hu:un=4
    ·subst hu;have HFR:Hid (formL bs gl size=trimL bs 4 4):=by unfold Hid formL;rw [HX.out,HUN.out];simp;omega
     have f4':=f4;go_wp2_with (fail);generalize w1.alloc (.cells #[.int .i64 10,.slice none 0 0] 397)=w2 at*;obtain ⟨T,hT⟩:∃T,w1.heap.size=T:=⟨_,rfl⟩;rw [hT] at kT hwT ⊢;have HB22:=Bas.hid HB2.out;clear hT hs2 c0 r0 r1 r2 lk2 lkr2 k2 kr2;refine (HU4.out _ HB22.out).mono ?_;rintro e w2' ⟨rfl,hb22⟩;have kT':=(hb22.block _ (heap_lt kT)).trans kT;have kr3':=(hb22.block _ (heap_lt kr3)).trans kr3;have HB2':=Bas.hid (HB2.out.trans (hb22.mono HB2.out.size));have r0:=cell_of_heap (i:=0) (v:=.slice a len cap) kr3' rfl;have r1:=cell_of_heap (i:=1) (v:=.int .i64 gl) kr3' rfl;have r2:=cell_of_heap (i:=2) (v:=.int .i64 size) kr3' rfl;clear hb22 kT kr3 k3 HB2 HB22 HU4;have kT:=kT';have HB2:=HB2';clear kT' HB2';go_wp2_with (go_at_call 56;refine (need_yes _).mono ?_;rintro e w' ⟨rfl,rfl⟩);have PC:=Bas.hid (trimmed_any a len cap bs gl size 4 4 w2' hl hc (HV.out.below HB2.out) hbl (by omega) (by omega))
     clear r0 r1 r2 kr3';refine PC.out.mono ?_;rintro e w3 ⟨hb3,h3⟩;have kT3:=(hb3.block _ (heap_lt kT)).trans kT;have HB3:=Bas.hid (HB2.out.trans (hb3.mono HB2.out.size));have hw23:w.heap.size≤w2'.heap.size:=HB2.out.size;clear hb3 PC;obtain ⟨r,hr⟩:∃r,formL bs gl size=r:=⟨_,rfl⟩;rw [←HFR.out,hr] at h3;cases r with
     |none=>
      simp only at h3;subst h3;have HNO:Hid (parseLk bs gl size=none):=by unfold Hid parseLk;rw [if_pos HL2.out,hr];rfl
      clear hr;go_wp2_with (fail);exact ⟨rfl,HB3.out,by rw [HNO.out]⟩
     |some ps=>
      simp only at h3;obtain ⟨v3,vs,rfl,hp3⟩:=h3;obtain ⟨av,cv,rfl⟩:=own_slice hp3.own;have HF:=Bas.hid hr;have HP3:=Bas.hid (pRow_base hp3 hw23);have c0:=cell_of_heap (i:=1) kT3 rfl;have f0:=free_of_heap (i:=1) kT3;have lT3:=heap_lt kT3;clear hp3 hr kT;go_wp2_with (fail);have kT5:=heap_set (i:=1) kT3 (.slice av ps.length cv);have HP5:=Bas.hid (pRow_set (i:=1) HP3.out kT3 (by decide) (by decide) (.slice av ps.length cv))
      have HB5:=Bas.hid (HB3.out.setCell (p:=⟨T,1,none⟩) hwT (.slice av ps.length cv));clear kT3 c0 f0 lT3;generalize w3.setCell ⟨T,1,none⟩ (.slice av ps.length cv)=W5 at*;have kT5:W5.heap[T]? =some (.cells #[.int .i64 10,.slice av ps.length cv] 397 (0,0)):=kT5;obtain ⟨n5,hn5⟩:∃n5,ps.length=n5:=⟨_,rfl⟩;have HN5:=Bas.hid hn5;have hown5:=HP5.out.own;rw [hn5] at hown5 kT5 ⊢;have HO5:=Bas.hid hown5;have hn63:n5≤9223372036854775807:=by have h1:=(own_cap hown5).2;have h2:=h1.1;have h3:=h1.2;unfold maxLen at h3;omega
      clear hown5 hn5;have t0:=cell_of_heap (i:=1) kT5 rfl;go_loopw [10] (fun vi wr=>∃j:Nat,1≤j∧(j≤n5∨j=1)∧vi=.int .i64 j∧(∀i p q,i+1<j→ps[i]? =some p→ps[i+1]? =some q→p.last<q.first)∧Below W5.heap.size W5 wr) (fun vi _=>n5+1 - (intOf vi).toNat)
      case atStart=>exact ⟨1,by omega,.inr rfl,rfl,fun i p q h=>by omega,Below.refl _ _⟩
      case round=>
       obtain ⟨j,hj1,hj2,rfl,hris,hb6⟩:=hrel;have HRIS:=Bas.hid hris;have HB6:=Bas.hid hb6;have kT6:=(hb6.block _ (heap_lt kT5)).trans kT5;have t1:=cell_of_heap (i:=1) kT6 rfl;have lT6:=heap_lt kT6;clear hris hb6 t0;by_cases hjn:j<n5
       ·have e1:decide ((j:Int)<(n5:Int))=true:=by simp;omega
        obtain ⟨i,hi⟩:∃i,j=i+1:=⟨j - 1,by omega⟩
        obtain ⟨p,hp⟩:∃p,ps[i]? =some p:=⟨_,List.getElem?_eq_getElem (by rw [HN5.out];omega)⟩
        obtain ⟨q,hq⟩:∃q,ps[j]? =some q:=⟨_,List.getElem?_eq_getElem (by rw [HN5.out];exact hjn)⟩
        obtain ⟨up,hup⟩:∃u,vs[i]? =some u:=⟨_,List.getElem?_eq_getElem (by rw [HP5.out.len,HN5.out];omega)⟩
        obtain ⟨uq,huq⟩:∃u,vs[j]? =some u:=⟨_,List.getElem?_eq_getElem (by rw [HP5.out.len,HN5.out];exact hjn)⟩
        have hL:=Row.leads_below (Row.leads_owned HO5.out) HB6.out;have hz1:(ps.zip vs)[i]? =some (p,up):=List.getElem?_zip_eq_some.2 ⟨hp,hup⟩;have hz2:(ps.zip vs)[j]? =some (q,uq):=List.getElem?_zip_eq_some.2 ⟨hq,huq⟩;obtain ⟨B1,O1,cp1,hv1,hcl1⟩:=Row.leads_elem prC_len hL hz1 (by omega)
        obtain ⟨B2,O2,cp2,hv2,hcl2⟩:=Row.leads_elem prC_len hL hz2 (by omega)
        cases hv1;cases hv2;have d1:=hcl1 1 _ rfl;have d0:=hcl2 0 _ rfl;simp only [Nat.add_zero] at d0 d1
        have lB:B1<wr.heap.size:=World.block_lt_of_cell? _ _ d1;have e3:(j:Int) - 1=(i:Int):=by omega
        have e4:decide ((i:Int)<(n5:Int))=true:=by simp;omega
        have hin:i<n5:=by omega
        have HPI:=Bas.hid hp;have hqi:ps[i+1]? =some q:=by rw [←hi];exact hq
        have HQI:=Bas.hid hqi;have HJ:=Bas.hid hi;obtain ⟨pl,hpl⟩:∃pl,p.last=pl:=⟨_,rfl⟩;obtain ⟨qf,hqf⟩:∃qf,q.first=qf:=⟨_,rfl⟩;rw [hpl] at d1;rw [hqf] at d0;have HPLL:=Bas.hid hpl;have HQF:=Bas.hid hqf;clear hL hcl1 hcl2 hz1 hz2 hp hq hup huq hi hpl hqf hqi;by_cases hr:pl<qf
        ·have dr:decide (pl<qf)=true:=decide_eq_true hr;have HRR:=Bas.hid hr;clear hr;go_wp2_with (fail);refine' Pl.region_v0 116 [] [0,1,2,3,4,5,6,7,8,9,10,11,12,13,14,15,16,17,18] [] _ (by kernel_rfl) (by kernel_rfl) (by simp) (fun _ _ _ _ e h=>⟨e▸h.1,h.2⟩) ?_ ?_
         rotate_left
         ·intro I F hI hF;simp only [Pl.selN,List.nil_append,List.drop_succ_cons,List.drop_zero];have x0:=fun i=>hF.cell lT6 t1 i
          have x1:=fun i=>hF.cell lB d1 i
          have x2:=fun i=>hF.cell lB d0 i
          repeat (go_big_quiet_step ((go_at_call 56;first|exact hF.same (need_yes _)|exact hF.same (need_yesb _ _ dr))))
          refine wpQuiet_nil ?_;rfl
         intro w7 hw7;simp only [Pl.selN];have HB7:=Bas.hid (HB6.out.trans (hw7.mono HB6.out.size));have HRIS2:Hid (∀i' p' q',i'+1<j+1→ps[i']? =some p'→ps[i'+1]? =some q'→p'.last<q'.first):=fun i' p' q' h hp' hq'=>by
          by_cases h':i'+1<j
          ·exact HRIS.out i' p' q' h' hp' hq'
          ·have e:i'=i:=by have:=HJ.out;omega
           subst e;rw [HPI.out] at hp';rw [HQI.out] at hq';cases hp';cases hq';rw [HPLL.out,HQF.out];exact HRR.out
         clear hw7 d0 d1 dr;go_wp2_with (fail);go_roundw
         case rel=>exact ⟨j+1,by omega,.inl (by omega),by go_num,HRIS2.out,HB7.out⟩
         case measure=>simp [intOf];omega
        ·have dr:decide (pl<qf)=false:=decide_eq_false hr;have HNO:Hid (parseLk bs gl size=none):=by
          unfold Hid parseLk;rw [if_pos HL2.out,HF.out,Option.bind_some,if_neg];intro h;have:=(rises_iff ps).1 h i p q HPI.out HQI.out;rw [HPLL.out,HQF.out] at this;exact hr this
         clear hr;go_wp2_with (fail);refine' Pl.region_vh 116 [] [0,1,2,3,4,5,6,7,8,9,10,11,12,13,14,15,16,17] [] 18 114 [] _ (fun ch w'=>ch=short∧Below w.heap.size w w') (by kernel_rfl) (by kernel_rfl) (by kernel_rfl) (by simp) (fun _ _ _ _ e h=>⟨e▸h.1,h.2⟩) ?_ ?_ ?_ ?_
         rotate_left
         ·intro I F hI hF;simp only [Pl.selN,List.nil_append,List.drop_succ_cons,List.drop_zero];have x0:=fun i=>hF.cell lT6 t1 i
          have x1:=fun i=>hF.cell lB d1 i
          have x2:=fun i=>hF.cell lB d0 i
          repeat (go_big_quiet_step (fail))
          refine wpQuiet_nil ?_;rfl
         ·simp only [Pl.selN,List.drop_succ_cons,List.drop_zero,List.mem_singleton,forall_eq];intro u hu
          go_simp
          simp only [Pl.valsAt];have hbu:=HB5.out.trans ((HB6.out.trans (hu.mono HB6.out.size)).mono HB5.out.size);refine (need_no u).mono ?_;rintro e w'' ⟨he,hb⟩;exact .inr ⟨short,he,rfl,by rw [←hb];exact hbu⟩
         ·intro z hz;cases hz
         ·rintro c' a' u hd ⟨rfl,hb⟩;exact ⟨hd,hb,by rw [HNO.out]⟩
       ·have e1:decide ((j:Int)<(n5:Int))=false:=by simp;omega
        have e2:decide (j<n5)=false:=by simp;omega
        have e3:¬(j:Int)<(n5:Int):=by omega
        have HYES:Hid (parseLk bs gl size=some ps):=by
         unfold Hid parseLk;rw [if_pos HL2.out,HF.out,Option.bind_some,if_pos];rw [rises_iff];intro i p q hp hq;refine HRIS.out i p q ?_ hp hq;have:=(List.getElem?_eq_some_iff.1 hq).1;rw [HN5.out] at this;omega
        have HBE:=Bas.hid (HB5.out.trans (HB6.out.mono HB5.out.size));have HAT:Hid (Lives w.heap.size (fun u=>LkAt u (.pointer (some ⟨T,0,none⟩)) ps) wr):=by
         have h:=pRow_below HP5.out HB6.out;rw [HN5.out] at h;exact lkLives_of kT6 h (by first|exact hwT|omega) (by first|exact Nat.le_refl _|exact hwT|omega)
        go_wp2_with (fail);go_ret;exact ⟨HBE.out,by rw [HYES.out];exact ⟨_,rfl,HAT.out⟩⟩
    have HNO:Hid (parseLk bs gl size=none):=by
     unfold Hid parseLk formL;rw [if_pos HL2.out,HX.out,HUN.out,if_neg (by omega),if_neg (by omega),if_neg (by omega),if_neg (by omega),if_neg (by omega),if_pos rfl,if_neg (by omega)];rfl
    have u1:(un==1)=false:=by simpa using hu1
    have u2:(un==2)=false:=by simpa using hu2
    have u4:(un==4)=false:=by simpa using hu
    clear hu hu1 hu2;go_wp2_with (fail);generalize w1.alloc (.cells #[.int .i64 10,.slice none 0 0] 397)=w2 at*;obtain ⟨T,hT⟩:∃T,w1.heap.size=T:=⟨_,rfl⟩;rw [hT] at kT hwT ⊢;have HB22:=Bas.hid HB2.out;clear hT hs2 c0 r0 r1 r2 lk2 lkr2 k2 kr2;refine (HU4.out _ HB22.out).mono ?_;rintro e w2' ⟨rfl,hb22⟩;have HB2':=Bas.hid (HB2.out.trans (hb22.mono HB2.out.size));clear hb22 kT kr3 k3 HB2 HB22 HU4;go_wp2_with (go_at_call 56;refine (need_no _).mono ?_;rintro e w' ⟨rfl,rfl⟩);exact ⟨rfl,HB2'.out,by rw [HNO.out]⟩
   ·have HNO:Hid (parseLk bs gl size=none):=by
     unfold Hid parseLk formL;rw [if_pos HL2.out,HX.out,if_neg (by omega),if_neg (by omega),if_neg (by omega),if_neg (by omega),if_neg (by omega),if_pos rfl,if_neg (by omega)];rfl
    have HU4:=Bas.hid (fun (w':World)=>u16_no a len cap 2 w' hl hc (by omega))
    go_wp2_with (fail);generalize w1.alloc (.cells #[.int .i64 10,.slice none 0 0] 397)=w2 at*;obtain ⟨T,hT⟩:∃T,w1.heap.size=T:=⟨_,rfl⟩;rw [hT] at kT hwT ⊢;have HB22:=Bas.hid HB2.out;clear hT hs2 c0 r0 r1 r2 lk2 lkr2 k2 kr2;refine (HU4.out _).mono ?_;rintro e w2' ⟨rfl,hb22⟩;have HB2':=Bas.hid (HB2.out.trans (hb22.mono HB2.out.size));clear hb22;go_wp2_with (fail);exact ⟨rfl,HB2'.out,by rw [HNO.out]⟩
  have HNO:Hid (parseLk bs gl size=none):=by
   unfold Hid parseLk formL;rw [if_pos HL2.out,HX.out,if_neg x0,if_neg x2,if_neg x4,if_neg x6,if_neg x8,if_neg x10];rfl
  have e0:(x==0)=false:=by simpa using x0
  have e2:(x==2)=false:=by simpa using x2
  have e4:(x==4)=false:=by simpa using x4
  have e6:(x==6)=false:=by simpa using x6
  have e8:(x==8)=false:=by simpa using x8
  have e10:(x==10)=false:=by simpa using x10
  clear x0 x2 x4 x6 x8 x10;go_wp2_with (fail);refine (fail_any _).mono ?_;rintro e w3 ⟨rfl,rfl⟩;exact ⟨rfl,HB2.out,by rw [HNO.out]⟩
 ·have HNO:Hid (parseLk bs gl size=none):=by unfold Hid parseLk;rw [if_neg (by omega)]
  have HU:=Bas.hid (fun (w':World)=>u16_no a len cap 0 w' hl hc (by omega))
  go_enter Tryz.func108,Tryz.ntmps108
  go_wp2_with (fail);generalize (w.alloc (.cells #[.slice a len cap] 190)).alloc (.cells #[.slice a len cap,.int .i64 gl,.int .i64 size] 394)=W1 at*;refine (HU.out _).mono ?_;rintro e w1 ⟨rfl,hb1⟩;have HB2:=Bas.hid (HB1.out.trans (hb1.mono HB1.out.size));clear hb1;go_wp2_with (fail);exact ⟨rfl,HB2.out,by rw [HNO.out]⟩
theorem at_any(p:PartD)(av:Option Addr)(cv:Nat)(id:Int)(w:World)(ho:PartOk p)(h0:p.first≤id)(h1:id≤p.last)(hl:Row.Leads w (.slice av p.vals.length cv) p.vals.length (p.vals.map (Value.int .i64))):
  Calls Tryz.prog 167 #[.agg #[.int .i64 p.first,.int .i64 p.last,.slice av p.vals.length cv],.int .i64 id] w fun e w'=>e=.returned (.int .i64 (pnum p id))∧Below w.heap.size w w':=by
 have a1:=ho.some;have a2:=ho.len;have a3:=ho.first0;have a4:=ho.last1;obtain ⟨q,hq⟩:=Int.eq_ofNat_of_zero_le (show 0≤min (id - p.first) ((p.vals.length:Int) - 1) by omega)
 have hqn:q<p.vals.length:=by omega
 obtain ⟨x,hx⟩:∃x,p.vals[q]? =some x:=⟨_,List.getElem?_eq_getElem hqn⟩;have hpn:pnum p id=x:=by
  unfold pnum;rw [hq,Int.toNat_natCast,List.getD_eq_getElem?_getD,hx];rfl
 rw [hpn];rcases hl with ⟨_,h2,_⟩|⟨ad,cp,hv,hc⟩
 ·omega
 cases hv;have c00:∃u,w.cell? (ad.add 0)=some u:=by
  obtain ⟨y,hy⟩:∃y,p.vals[0]? =some y:=⟨_,List.getElem?_eq_getElem a1⟩;exact ⟨_,hc 0 (.int .i64 y) (by rw [List.getElem?_map,hy];rfl)⟩
 obtain ⟨had,c⟩:=Bas.spot_add c00 (hc q (.int .i64 x) (by rw [List.getElem?_map,hx];rfl))
 obtain ⟨B,hB⟩:∃B,ad.block=B:=⟨_,rfl⟩;obtain ⟨O,hO⟩:∃O,ad.off=O:=⟨_,rfl⟩;rw [hB,hO] at had c;subst had;have lad:B<w.heap.size:=World.block_lt_of_cell? _ _ c;have HBX:=Bas.hid ((Below.refl w.heap.size w).alloc (Nat.le_refl _) (.cells #[.int .i64 p.first,.int .i64 p.last,.slice (some ⟨B,O,none⟩) p.vals.length cv] 400));generalize p.first=f at*;generalize p.last=l at*;generalize p.vals.length=n at*;have e1:decide ((q:Int)<(n:Int))=true:=by simp;omega
 have e2:decide (q<n)=true:=by simp;omega
 obtain ⟨d,hd⟩:=Int.eq_ofNat_of_zero_le (show 0≤id - f by omega)
 obtain ⟨m,hm⟩:=Int.eq_ofNat_of_zero_le (show 0≤(n:Int) - 1 by omega)
 rw [hd,hm] at hq;clear hc hx hpn ho c00 hB hO;by_cases hdm:d≤m
 ·have e3:decide ((d:Int)≤(m:Int))=true:=by simp;omega
  have e4:(d:Int)≤(m:Int):=by omega
  have hqd:q=d:=by omega
  subst hqd;clear hq;go_enter Tryz.func167,Tryz.ntmps167
  go_wp2_with (fail);go_ret;exact ⟨rfl,HBX.out⟩
 ·have e3:decide ((d:Int)≤(m:Int))=false:=by simp;omega
  have e4:¬(d:Int)≤(m:Int):=by omega
  have hqd:q=m:=by omega
  subst hqd;clear hq;go_enter Tryz.func167,Tryz.ntmps167
  go_wp2_with (fail);go_ret;exact ⟨rfl,HBX.out⟩
end Lk
namespace St
open Vw Sk Ch Lk
theorem leads_at{w:World}{v:Value}{n:Nat}{xs:List Value}{i:Nat}{u:Value}(h:Row.Leads w v n xs)(hu:xs[i]? =some u):∃b o cp,v=.slice (some ⟨b,o,none⟩) n cp∧w.cell? ⟨b,o+i,none⟩=some u:=by
 obtain ⟨b,o,cp,rfl,hc⟩:=Row.leads_elem (f:=fun x=>[x]) (m:=1) (fun _=>rfl) (by simpa using h) hu (by omega)
 exact ⟨b,o,cp,rfl,by simpa using hc 0 u rfl⟩
end St
namespace Ln
open Ch
def lnPre(ids:List Int)(i:Nat):List Gl:=(List.range i).map fun k=>(ids.getD k 0,(k:Int))
def lnNew(ids:List Int):List Gl:=lnPre ids ids.length
theorem lnPre_len(ids:List Int)(i:Nat):(lnPre ids i).length=i:=by simp [lnPre]
theorem lnPre_succ(ids:List Int)(i:Nat):lnPre ids (i+1)=lnPre ids i++[(ids.getD i 0,(i:Int))]:=by
 unfold lnPre;rw [List.range_succ,List.map_append];rfl
theorem line_snoc{w w7:World}{base g:Nat}{sv v':Value}{xs:List Gl}{x:Gl}(h:LineAt w base g sv xs)(hg:w.grownBy w7 sv.ownBlock)(ho:w7.ownsRow base 78 2 v' (xs.length+1) (xs.flatMap glC++glC x)):
  LineAt (w7.setCell ⟨g,0,none⟩ v') base g v' (xs++[x]):=by
 have h7:=(hg.block g h.lt (fun e=>h.ne e.symm)).trans h.head
 have k8:=heap_set (i:=0) h7 v';refine ⟨k8, ?_,h.low⟩;rw [List.length_append,List.flatMap_append];exact Row.owned_keep (by simpa using ho) fun k hk=>Below.heap_setCell _ _ _ _ (fun e=>own_ty ho h7 (by decide) (by rw [hk,e]))
theorem new_any(va:Value)(ids:List Int)(n:Nat)(w:World)(hl:Row.Leads w va n (ids.map (Value.int .i64)))(hn:ids.length=n)(hn2:n≤4294967296):
  Calls Tryz.prog 68 #[va] w fun e w'=>e=.returned (.pointer (some ⟨w.heap.size,0,none⟩))∧Below w.heap.size w w'∧∃sv,LineAt w' w.heap.size w.heap.size sv (lnNew ids):=by
 obtain ⟨ad,cp,rfl⟩:∃ad cp,va=.slice ad n cp:=by
  rcases hl with ⟨rfl,rfl,_⟩|⟨ad,cp,rfl,_⟩
  ·exact ⟨none,0,rfl⟩
  ·exact ⟨_,_,rfl⟩
 have HL:=Bas.hid hl;have hb1:=(Below.refl w.heap.size w).alloc (Nat.le_refl _) (.cells #[.slice none 0 0] 322);have HA:Hid (LineAt (w.alloc (.cells #[.slice none 0 0] 322)) w.heap.size w.heap.size (.slice none 0 0) []):=⟨Bas.heap_new _ _,Row.owned_nil _ _ _ _,Nat.le_refl _⟩;have HB:=Bas.hid hb1;have HN:=Bas.hid hn;clear hb1 hl hn;go_enter Tryz.func68,Tryz.ntmps68
 go_wp2_with (fail);generalize w.alloc (.cells #[.slice none 0 0] 322)=W1 at*;obtain ⟨G,hG⟩:∃G,w.heap.size=G:=⟨_,rfl⟩;have HG:=Bas.hid hG;rw [hG] at HA HB ⊢;clear hG;go_loopw [10] (fun vi wr=>∃(i:Nat) (sv:Value),i≤n∧vi=.int .i64 i∧LineAt wr G G sv (lnPre ids i)∧Below G w wr) (fun vi _=>n - (intOf vi).toNat)
 case atStart=>exact ⟨0,_,Nat.zero_le _,rfl,HA.out,HB.out⟩
 case round=>
  obtain ⟨i,sv,hi,rfl,hA,hB⟩:=hrel;have HA2:=Bas.hid hA;have HB2:=Bas.hid hB;by_cases hin:i<n
  ·have e1:decide ((i:Int)<(n:Int))=true:=by simp;omega
   have e2:decide (i<n)=true:=by simp;omega
   obtain ⟨x,hx⟩:∃x,ids[i]? =some x:=⟨_,List.getElem?_eq_getElem (by rw [HN.out];exact hin)⟩
   have hlw:Row.Leads wr (.slice ad n cp) n (ids.map (Value.int .i64)):=Row.leads_below HL.out (by rw [HG.out];exact hB)
   obtain ⟨bo,oo,c2,hv,hc⟩:=St.leads_at hlw (i:=i) (u:=.int .i64 x) (by rw [List.getElem?_map,hx];rfl)
   cases hv;obtain ⟨a3,cs,rfl⟩:=own_slice hA.own;have hhead:=hA.head;rw [lnPre_len] at hhead HA2;have g0:=cell_of_heap (i:=0) (v:=.slice a3 i cs) hhead rfl;have lG:=heap_lt hhead;have lb:=World.block_lt_of_cell? _ _ hc;have HX:Hid (lnPre ids (i+1)=lnPre ids i++[(x,(i:Int))]):=by unfold Hid;rw [lnPre_succ,List.getD_eq_getElem?_getD,hx];rfl
   clear hA hB hlw hx hhead HA HB;go_wp2_with (at_builtin;refine Row.fence ?_);refine Row.unfence ?_;have q2:=Bas.heap_new wr (.cells #[.int .i64 x,.int .i64 i] 78);have hb2:=(Below.refl wr.heap.size wr).alloc (Nat.le_refl _) (.cells #[.int .i64 x,.int .i64 i] 78);have HA3:=Bas.hid (HA2.out.below hb2);have hGw:G≤wr.heap.size:=Nat.le_of_lt lG;have HB3:=Bas.hid (HB2.out.trans (hb2.mono hGw));have hG3:G≤(wr.alloc (.cells #[.int .i64 x,.int .i64 i] 78)).heap.size:=Nat.le_trans hGw hb2.size;clear hb2 g0 hc lb;generalize wr.alloc (.cells #[.int .i64 x,.int .i64 i] 78)=W2 at*;have hO:=HA3.out.own;rw [lnPre_len] at hO;have HO:=Bas.hid hO;clear hO;refine Row.append_any rfl _ _ 248 78 rfl (.agg #[.int .i64 0,.int .i64 0]) 2 16 Tryz.underlying248 infoG rfl (by decide) G (.slice a3 i cs) i _ rfl HO.out (.slice (some ⟨wr.heap.size,0,none⟩) 1 1) 1 [.int .i64 x,.int .i64 i] rfl (leads_heap q2) rfl (by simp;first|exact ⟨rfl,rfl⟩|exact rfl) (by unfold maxLen;omega) (by omega) hG3 ?_
   intro v7 w7 ho7 hg7 _;obtain ⟨a7,c7,rfl⟩:=own_slice ho7;have HA8:=Bas.hid (line_snoc (x:=(x,(i:Int))) HA3.out hg7 (by rw [lnPre_len];exact ho7))
   have k7:=(hg7.block G HA3.out.lt (fun e=>HA3.out.ne e.symm)).trans HA3.out.head
   have c0:=cell_of_heap (i:=0) k7 rfl;have f0:=free_of_heap (i:=0) k7;have HB7:=Bas.hid (HB3.out.grown hg7 hG3 (fun g' hg'=>(Row.own_block HA3.out.own hg').1))
   have HB8:=Bas.hid (HB7.out.setCell (p:=⟨G,0,none⟩) (Nat.le_refl _) (.slice a7 (i+1) c7));clear hg7 ho7 q2;go_wp2_with (fail);go_roundw
   case rel=>exact ⟨i+1,_,by omega,by go_num,by rw [HX.out];exact HA8.out,HB8.out⟩
   case measure=>simp [intOf];omega
  ·have hin2:i=n:=by omega
   have e1:decide ((i:Int)<(n:Int))=false:=by simp;omega
   have e2:decide (i<n)=false:=by simp;omega
   have e3:¬(i:Int)<(n:Int):=by omega
   have HF:Hid (LineAt wr G G sv (lnNew ids)):=by unfold Hid lnNew;rw [HN.out,←hin2];exact hA
   clear hin2 hA hB;go_wp2_with (fail);go_ret;rw [HG.out];exact ⟨rfl,HB2.out,sv,HF.out⟩
theorem own_zero{w:World}{base g:Nat}{e:TypeId}{size:Nat}(hg:w.heap[g]? =some (.cells #[] e (0,0)))(hb:base≤g):w.ownsRow base e size (.slice (some ⟨g,0,none⟩) 0 0) 0 []:=
 ⟨by simp,.inr ⟨g,0,_,rfl,hb,hg,Nat.le_refl _,by unfold maxLen;omega,by simp,by simp⟩⟩
theorem clone_any(v:Value)(xs:List Gl)(n:Nat)(w:World)(hl:Row.Leads w v n (xs.flatMap glC))(hn:xs.length=n)(hn2:n≤4294967296):
  Calls Tryz.prog 128 #[v] w fun e w'=>Below w.heap.size w w'∧∃v',e=.returned v'∧w'.ownsRow w.heap.size 78 2 v' n (xs.flatMap glC):=by
 have HL:=Bas.hid hl;have hqe:∀(a:Option Addr) (n c:Nat) (w:World),(Go.binOp .eql 248 (.slice a n c) (.slice none 0 0)).run Tryz.prog w=Result.ok (.bool a.isNone) w:=fun a n c w=>by
  have h:(Op.equalIn Op.maxDepth 248 (.slice a n c) (.slice none 0 0)).run Tryz.prog w=Result.ok a.isNone w:=run_equalIn_slice_nil w (Op.maxDepth - 1) _ _ a n c Tryz.underlying248;simp [go_sem,Go.binOp,Op.equal,h,Result.andThen]
 rcases hl with ⟨rfl,rfl,hx⟩|⟨ad,cp,rfl,_⟩
 ·rw [hx];have HO:=Bas.hid (Row.owned_nil w w.heap.size 78 2);clear HL hx;go_enter Tryz.func128,Tryz.ntmps128
  go_wp2_with (fail);go_ret;exact ⟨Below.refl _ _,_,rfl,HO.out⟩
 ·have hb1:=(Below.refl w.heap.size w).alloc (Nat.le_refl _) (.cells #[] 78);have HO:=Bas.hid (own_zero (size:=2) (Bas.heap_new w (.cells #[] 78)) (Nat.le_refl w.heap.size));have HL1:=Bas.hid (Row.leads_below HL.out hb1);have HB1:=Bas.hid hb1;have hsz:=hb1.size;have HFL:=Bas.hid (glC_flat xs);have hon:=glC_one xs;clear HL hb1;go_enter Tryz.func128,Tryz.ntmps128
  go_wp2_with (at_builtin;refine Row.fence ?_);refine Row.unfence ?_;generalize w.alloc (.cells #[] 78)=W1 at*;refine Row.append_any rfl _ _ 248 78 rfl (.agg #[.int .i64 0,.int .i64 0]) 2 16 Tryz.underlying248 infoG rfl (by decide) w.heap.size (.slice (some ⟨w.heap.size,0,none⟩) 0 0) 0 [] rfl HO.out (.slice (some ad) n cp) n (xs.flatMap glC) rfl HL1.out (by rw [HFL.out,hn]) hon (by unfold maxLen;omega) (by omega) hsz ?_
  intro v7 w7 ho7 hg7 _;have HO7:=Bas.hid ho7;have HB7:=Bas.hid (HB1.out.grown hg7 hsz (fun g' hg'=>by cases hg';exact Nat.le_refl _))
  clear ho7 hg7;go_wp2_with (fail);go_ret;refine ⟨HB7.out,v7,rfl, ?_⟩;have h:=HO7.out;rw [Nat.zero_add,List.nil_append] at h;exact h
theorem glyphs_any(base g:Nat)(sv:Value)(xs:List Gl)(w:World)(h:LineAt w base g sv xs)(hn:xs.length≤4294967296):
  Calls Tryz.prog 78 #[.pointer (some ⟨g,0,none⟩)] w fun e w'=>Below w.heap.size w w'∧∃v',e=.returned v'∧w'.ownsRow w.heap.size 78 2 v' xs.length (xs.flatMap glC):=by
 have HC:=Bas.hid (clone_any sv xs xs.length w (Row.leads_owned h.own) rfl hn);obtain ⟨ad,cp,rfl⟩:=own_slice h.own;have g0:=cell_of_heap (i:=0) (v:=.slice ad xs.length cp) h.head rfl;have lg:=h.lt;clear h;go_enter Tryz.func78,Tryz.ntmps78
 go_wp2_with (fail);refine HC.out.mono ?_;rintro e w2 ⟨hb,v',rfl,ho⟩;have HB:=Bas.hid hb;have HO:=Bas.hid ho;clear hb ho HC;go_wp2_with (fail);go_ret;exact ⟨HB.out,v',rfl,HO.out⟩
end Ln
namespace Pc
open Ch
structure Pl where
 a:Int
 x:Int
 y:Int
def plC(p:Pl):List Value:=[.int .i32 p.a,.int .i32 p.x,.int .i32 p.y]
theorem plC_len(p:Pl):(plC p).length=3:=rfl
theorem plC_flat(l:List Pl):(l.flatMap plC).length=l.length*3:=by
 induction l with
 |nil=>rfl
 |cons s l ih=>rw [List.flatMap_cons,List.length_append,ih,plC_len,List.length_cons];omega
theorem plC_one(l:List Pl):∀u∈l.flatMap plC,u.oneCell'=true:=fun v hv=>by
 obtain ⟨s,_,hs⟩:=List.mem_flatMap.1 hv;simp [plC] at hs;rcases hs with rfl|rfl|rfl<;>rfl
theorem infoPl:(Tryz.prog.info? 80).map (fun i=>(i.zero,i.size,i.bytes))=some (some (.agg #[.int .i32 0,.int .i32 0,.int .i32 0]),3,12):=by kernel_rfl
def clampI(n:Int):Int:=if n< -2147483648 then -2147483648 else if 2147483647<n then 2147483647 else n
theorem clampI_bd(n:Int):-2147483648≤clampI n∧clampI n≤2147483647:=by
 unfold clampI;split
 ·omega
 ·split<;>omega
def addI(a n:Int):Int:=clampI (a+clampI n)
theorem addI_bd(a n:Int):-2147483648≤addI a n∧addI a n≤2147483647:=clampI_bd _
def plWf(p:Pl):Prop:=(-2147483648≤p.a∧p.a≤2147483647)∧(-2147483648≤p.x∧p.x≤2147483647)∧(-2147483648≤p.y∧p.y≤2147483647)
structure PlsAt (w:World) (base g:Nat) (dn:Bool) (sv:Value) (ps:List Pl):Prop where
 head:w.heap[g]? =some (.cells #[.bool dn,sv] 335 (0,0))
 own:w.ownsRow base 80 3 sv ps.length (ps.flatMap plC)
 low:base≤g
 wf:∀p∈ps,plWf p
def blk(g:Nat)(sv:Value)(k:Nat):Prop:=k=g∨sv.ownBlock=some k
theorem PlsAt.lt{w:World}{base g:Nat}{dn:Bool}{sv:Value}{ps:List Pl}(h:PlsAt w base g dn sv ps):g<w.heap.size:=heap_lt h.head
theorem PlsAt.blk_low{w:World}{base g:Nat}{dn:Bool}{sv:Value}{ps:List Pl}(h:PlsAt w base g dn sv ps):∀k,blk g sv k→base≤k∧k<w.heap.size:=fun k hk=>by
 rcases hk with rfl|hk
 ·exact ⟨h.low,h.lt⟩
 ·exact Row.own_block h.own hk
theorem PlsAt.mod{S:Nat→Prop}{w w':World}{base g:Nat}{dn:Bool}{sv:Value}{ps:List Pl}(h:PlsAt w base g dn sv ps)(hm:Mod S w w')(hS:∀k,blk g sv k→¬S k):PlsAt w' base g dn sv ps:=
 ⟨hm.heap h.head (hS g (.inl rfl)),hm.owned h.own fun k hk=>hS k (.inr hk),h.low,h.wf⟩
theorem PlsAt.below{w w':World}{base g:Nat}{dn:Bool}{sv:Value}{ps:List Pl}(h:PlsAt w base g dn sv ps)(hb:Below w.heap.size w w'):PlsAt w' base g dn sv ps:=
 h.mod (S:=fun _=>False) (Mod.of_below hb) (fun _ _ h=>h)
theorem PlsAt.ne{w:World}{base g:Nat}{dn:Bool}{sv:Value}{ps:List Pl}(h:PlsAt w base g dn sv ps):sv.ownBlock≠some g:=own_ty h.own h.head (by decide)
def PlTo(w:World)(base g:Nat)(dn:Bool)(sv:Value)(qs:List Pl)(w':World):Prop:=PlsAt w' base g dn sv qs∧Mod (blk g sv) w w'
def plAt(ps:List Pl)(i:Int):Option Nat:=if 0≤i∧i<ps.length then some i.toNat else none
def upd(ps:List Pl)(i:Int)(f:Pl→Pl):List Pl:=match plAt ps i with
 |some k=>ps.modify k f
 |none=>ps
def along(ps:List Pl)(i n:Int):List Pl:=upd ps i fun p=>{ p with a:=addI p.a n }
theorem upd_len(ps:List Pl)(i:Int)(f:Pl→Pl):(upd ps i f).length=ps.length:=by
 unfold upd;split
 ·rw [List.length_modify]
 ·rfl
theorem clamp_any(n:Int)(w:World):Calls Tryz.prog 120 #[.int .i64 n] w fun e w'=>e=.returned (.int .i32 (clampI n))∧w=w':=by
 obtain ⟨m,hm⟩:∃m,clampI n=m:=⟨_,rfl⟩;rw [hm];have HM:=Bas.hid hm;clear hm;by_cases h1:n< -2147483648
 ·obtain rfl:m=-2147483648:=by rw [←HM.out,clampI,if_pos h1]
  have e1:decide (n< -2147483648)=true:=by simpa using h1
  go_enter Tryz.func120,Tryz.ntmps120
  go_wp2_with (fail);go_ret;exact ⟨rfl,rfl⟩
 have e1:decide (n< -2147483648)=false:=by simpa using h1
 by_cases h2:2147483647<n
 ·obtain rfl:m=2147483647:=by rw [←HM.out,clampI,if_neg h1,if_pos h2]
  have e2:decide (2147483647<n)=true:=by simpa using h2
  go_enter Tryz.func120,Tryz.ntmps120
  go_wp2_with (fail);go_ret;exact ⟨rfl,rfl⟩
 obtain rfl:m=n:=by rw [←HM.out,clampI,if_neg h1,if_neg h2]
 have e2:decide (2147483647<m)=false:=by simpa using h2
 go_enter Tryz.func120,Tryz.ntmps120
 go_wp2_with (fail);go_ret;exact ⟨rfl,rfl⟩
theorem add_any(a n:Int)(w:World)(ha:-2147483648≤a∧a≤2147483647):Calls Tryz.prog 126 #[.int .i32 a,.int .i64 n] w fun e w'=>e=.returned (.int .i32 (addI a n))∧w=w':=by
 obtain ⟨a0,a1⟩:=ha;obtain ⟨b0,b1⟩:=clampI_bd n;have HA:Hid (addI a n=clampI (a+clampI n)):=rfl;have HC:=Bas.hid (fun w'=>clamp_any n w')
 obtain ⟨m,hm⟩:∃m,clampI n=m:=⟨_,rfl⟩;rw [hm] at b0 b1 HA HC;rw [HA.out];have HD:=Bas.hid (fun w'=>clamp_any (a+m) w')
 obtain ⟨r,hr⟩:∃r,clampI (a+m)=r:=⟨_,rfl⟩;rw [hr] at HD ⊢;clear hm hr HA;go_enter Tryz.func126,Tryz.ntmps126
 go_wp2_with (fail);refine (HC.out _).mono ?_;rintro e w' ⟨rfl,rfl⟩;go_wp2_with (fail);refine (HD.out _).mono ?_;rintro e w' ⟨rfl,rfl⟩;go_wp2_with (fail);go_ret;exact ⟨rfl,rfl⟩
theorem flat_set{α:Type}{f:α→List Value}{m:Nat}(hf:∀x,(f x).length=m):∀(l:List α) (k q:Nat) (x y:α) (v:Value),l[k]? =some x→q<m→f y=(f x).set q v→(l.flatMap f).set (k*m+q) v=(l.set k y).flatMap f
 |[],_,_,_,_,_,h,_,_=>by simp at h
 |z::l,0,q,x,y,v,h,hq,hy=>by
  have:z=x:=by simpa using h
  subst this;rw [List.set_cons_zero,List.flatMap_cons,List.flatMap_cons,hy,Nat.zero_mul,Nat.zero_add,List.set_append_left _ _ (by rw [hf];exact hq)]
 |z::l,k+1,q,x,y,v,h,hq,hy=>by
  have ih:=flat_set hf l k q x y v (by simpa using h) hq hy
  rw [List.set_cons_succ,List.flatMap_cons,List.flatMap_cons,←ih,List.set_append_right _ _ (by rw [hf,Nat.add_mul];omega),hf]
  congr 2
  rw [Nat.add_mul];omega
section
variable {w:World} {base g:Nat} {dn:Bool} {sv:Value} {ps:List Pl}
theorem pls_row(h:PlsAt w base g dn sv ps){k:Nat}{p:Pl}(hx:ps[k]? =some p):
  ∃bo cp,sv=.slice (some ⟨bo,0,none⟩) ps.length cp∧bo<w.heap.size∧base≤bo∧bo≠g∧w.cell? ⟨bo,k*3,none⟩=some (.int .i32 p.a)∧w.cell? ⟨bo,k*3+1,none⟩=some (.int .i32 p.x)∧w.cell? ⟨bo,k*3+2,none⟩=some (.int .i32 p.y)∧∀i,w.frozen? ⟨bo,i,none⟩=false:=by
 have hne:=h.ne;have hL:=Row.leads_elem plC_len (Row.leads_owned h.own) hx (by omega)
 obtain ⟨hlen,⟨h2,h3⟩|⟨bo,cap,cur,hv,hb,hh,hc,hm,hs,ht⟩⟩:=h.own
 ·have h4:=plC_flat ps;rw [h3] at hlen;have:=(List.getElem?_eq_some_iff.1 hx).1;omega
 ·obtain ⟨b2,o2,c2,hv2,hcell⟩:=hL;rw [hv] at hv2;cases hv2;refine ⟨bo,cap,hv,heap_lt hh,hb,fun e=>hne (by rw [hv,e];rfl),by simpa using hcell 0 _ rfl,by simpa using hcell 1 _ rfl,by simpa using hcell 2 _ rfl,fun i=>free_of_heap hh⟩
theorem pls_put{bo cp:Nat}(h:PlsAt w base g dn (.slice (some ⟨bo,0,none⟩) ps.length cp) ps)(hgb:bo≠g){k q:Nat}{p p':Pl}{v:Value}(hp:ps[k]? =some p)(hq:q<3)(hv:plC p'=(plC p).set q v)(hw:plWf p'):
  PlTo w base g dn (.slice (some ⟨bo,0,none⟩) ps.length cp) (ps.set k p') (w.setCell ⟨bo,k*3+q,none⟩ v):=by
 refine ⟨⟨(Below.heap_setCell _ _ _ _ (by exact fun e=>hgb e.symm)).trans h.head, ?_,h.low,fun r hr=> ?_⟩,(Mod.refl _ w).set v (.inl (.inr rfl))⟩
 ·have h2:=Ln.own_putN h.own (k*3+q) v;rw [flat_set plC_len ps k q p p' v hp hq hv] at h2;rw [List.length_set];exact h2
 ·rcases List.mem_or_eq_of_mem_set hr with h3|h3
  ·exact h.wf r h3
  ·rw [h3];exact hw
theorem plAt_in{i:Int}{k:Nat}(h:plAt ps i=some k):i=(k:Int)∧∃p,ps[k]? =some p:=by
 unfold plAt at h;split at h
 ·rename_i hi
  cases h;exact ⟨by omega,_,List.getElem?_eq_getElem (by omega)⟩
 ·cases h
theorem plAt_out{i:Int}(h:plAt ps i=none):i<0∨(ps.length:Int)≤i:=by
 unfold plAt at h;split at h
 ·cases h
 ·omega
theorem len_any(w:World)(h:PlsAt w base g dn sv ps):Calls Tryz.prog 75 #[.pointer (some ⟨g,0,none⟩)] w fun e w'=>e=.returned (.int .i64 ps.length)∧w=w':=by
 obtain ⟨a,c,rfl⟩:=own_slice h.own;have c1:=cell_of_heap (i:=1) (v:=.slice a ps.length c) h.head rfl;generalize ps.length=n at*;clear h;go_enter Tryz.func75,Tryz.ntmps75
 go_wp2_with (fail);go_ret;exact ⟨rfl,rfl⟩
theorem at_in(w:World)(h:PlsAt w base g dn sv ps)(i:Int)(k:Nat)(hk:plAt ps i=some k):∃bo cp,sv=.slice (some ⟨bo,0,none⟩) ps.length cp∧bo≠g∧
  Calls Tryz.prog 125 #[.pointer (some ⟨g,0,none⟩),.int .i64 i] w fun e w'=>e=.returned (.pointer (some ⟨bo,k*3,none⟩))∧w=w':=by
 obtain ⟨rfl,p,hp⟩:=plAt_in hk;obtain ⟨bo,cp,rfl,hlt,hb,hne,-⟩:=pls_row h hp;refine ⟨bo,cp,rfl,hne, ?_⟩;have c1:=cell_of_heap (i:=1) (v:=.slice (some ⟨bo,0,none⟩) ps.length cp) h.head rfl;have hkl:=(List.getElem?_eq_some_iff.1 hp).1;clear h hp hk;generalize ps.length=n at*;have e1:decide ((k:Int)<0)=false:=by simp
 have e2:decide ((k:Int)≥(n:Int))=false:=by simp;omega
 have e3:decide ((n:Int)≤(k:Int))=false:=by simp;omega
 have e4:decide (n≤k)=false:=by simp;omega
 have e5:decide ((k:Int)<(n:Int))=true:=by simp;omega
 go_enter Tryz.func125,Tryz.ntmps125
 go_wp2_with (fail);go_ret;exact ⟨rfl,rfl⟩
theorem at_out(w:World)(h:PlsAt w base g dn sv ps)(i:Int)(hk:plAt ps i=none):
  Calls Tryz.prog 125 #[.pointer (some ⟨g,0,none⟩),.int .i64 i] w fun e w'=>e=.returned (.pointer (some ⟨w.heap.size,0,none⟩))∧w'=w.alloc (.cells #[.int .i32 0,.int .i32 0,.int .i32 0] 80):=by
 have ho:=plAt_out hk;obtain ⟨a,c,rfl⟩:=own_slice h.own;have c1:=cell_of_heap (i:=1) (v:=.slice a ps.length c) h.head rfl;clear h hk;generalize ps.length=n at*;by_cases hi:i<0
 ·have e1:decide (i<0)=true:=by simpa using hi
  go_enter Tryz.func125,Tryz.ntmps125
  go_wp2_with (fail);go_ret;exact ⟨rfl,rfl⟩
 ·have e1:decide (i<0)=false:=by simpa using hi
  have hni:(n:Int)≤i:=by omega
  have e2:decide (i≥(n:Int))=true:=by simpa using hni
  have e3:decide ((n:Int)≤i)=true:=by simpa using hni
  go_enter Tryz.func125,Tryz.ntmps125
  go_wp2_with (fail);go_ret;exact ⟨rfl,rfl⟩
theorem along_any(w:World)(h:PlsAt w base g dn sv ps)(i n:Int):Calls Tryz.prog 76 #[.pointer (some ⟨g,0,none⟩),.int .i64 i,.int .i64 n] w fun e w'=>e=.returned (.tuple #[])∧PlTo w base g dn sv (along ps i n) w':=by
 cases hk:plAt ps i with
 |none=>
  have HA:=Bas.hid (at_out w h i hk);have HP:Hid (along ps i n=ps):=by unfold Hid along upd;rw [hk]
  rw [HP.out];have hb:=(Below.refl w.heap.size w).alloc (Nat.le_refl _) (.cells #[.int .i32 0,.int .i32 0,.int .i32 0] 80);have HR:Hid (∀v,PlTo w base g dn sv ps ((w.alloc (.cells #[.int .i32 0,.int .i32 0,.int .i32 0] 80)).setCell ⟨w.heap.size,0,none⟩ v)):=by
   intro v;have hb2:=hb.setCell (p:=⟨w.heap.size,0,none⟩) (Nat.le_refl _) v;exact ⟨h.below hb2,Mod.of_below hb2⟩
  have k1:=Bas.heap_new w (.cells #[.int .i32 0,.int .i32 0,.int .i32 0] 80);have HD:=Bas.hid (fun w'=>add_any 0 n w' (by omega))
  clear h hk hb;go_enter Tryz.func76,Tryz.ntmps76
  go_wp2_with (fail);refine HA.out.mono ?_;rintro e w2 ⟨rfl,rfl⟩;generalize w.alloc (.cells #[.int .i32 0,.int .i32 0,.int .i32 0] 80)=W1 at*;obtain ⟨T1,hT1⟩:∃T,w.heap.size=T:=⟨_,rfl⟩;rw [hT1] at k1 HR ⊢;clear hT1;have c0:=cell_of_heap (i:=0) k1 rfl;have f0:=free_of_heap (i:=0) k1;go_wp2_with (fail);refine (HD.out _).mono ?_;rintro e w3 ⟨rfl,rfl⟩;go_wp2_with (fail)
  go_end0
  exact ⟨rfl,HR.out _⟩
 |some k=>
  obtain ⟨bo,cp,rfl,hne,hA⟩:=at_in w h i k hk;obtain ⟨hik,p,hp⟩:=plAt_in hk;obtain ⟨_,_,hv,hlt,hb,_,c0,_,_,hfr⟩:=pls_row h hp;cases hv;have HA:=Bas.hid hA;have hwf:=h.wf p (List.mem_of_getElem? hp);have HP:Hid (along ps i n=ps.set k { p with a:=addI p.a n }):=by
   unfold Hid along upd;rw [hk];simp only [];refine List.ext_getElem? fun j=> ?_
   rw [List.getElem?_modify,List.getElem?_set];by_cases hj:k=j
   ·subst hj;rw [hp,if_pos (List.getElem?_eq_some_iff.1 hp).1];simp
   ·simp [hj]
  rw [HP.out];have HR:=Bas.hid (pls_put h hne (q:=0) (p':={ p with a:=addI p.a n }) (v:=.int .i32 (addI p.a n)) hp (by omega) rfl ⟨addI_bd _ _,hwf.2⟩)
  have HD:=Bas.hid (fun w'=>add_any p.a n w' hwf.1)
  have f0:=hfr (k*3);clear h hk hA hp hik hwf hfr HP;obtain ⟨pa,px,py⟩:=p;simp only [Nat.add_zero] at c0 HR HD;go_enter Tryz.func76,Tryz.ntmps76
  go_wp2_with (fail);refine HA.out.mono ?_;rintro e w2 ⟨rfl,rfl⟩;go_wp2_with (fail);refine (HD.out _).mono ?_;rintro e w3 ⟨rfl,rfl⟩;go_wp2_with (fail)
  go_end0
  exact ⟨rfl,HR.out⟩
end
theorem clone_any(v:Value)(xs:List Pl)(n:Nat)(w:World)(hl:Row.Leads w v n (xs.flatMap plC))(hn:xs.length=n)(hn2:n≤4294967296):
  Calls Tryz.prog 127 #[v] w fun e w'=>Below w.heap.size w w'∧∃v',e=.returned v'∧w'.ownsRow w.heap.size 80 3 v' n (xs.flatMap plC):=by
 have HL:=Bas.hid hl;have hqe:∀(a:Option Addr) (n c:Nat) (w:World),(Go.binOp .eql 246 (.slice a n c) (.slice none 0 0)).run Tryz.prog w=Result.ok (.bool a.isNone) w:=fun a n c w=>by
  have h:(Op.equalIn Op.maxDepth 246 (.slice a n c) (.slice none 0 0)).run Tryz.prog w=Result.ok a.isNone w:=run_equalIn_slice_nil w (Op.maxDepth - 1) _ _ a n c Tryz.underlying246;simp [go_sem,Go.binOp,Op.equal,h,Result.andThen]
 rcases hl with ⟨rfl,rfl,hx⟩|⟨ad,cp,rfl,_⟩
 ·rw [hx];have HO:=Bas.hid (Row.owned_nil w w.heap.size 80 3);clear HL hx;go_enter Tryz.func127,Tryz.ntmps127
  go_wp2_with (fail);go_ret;exact ⟨Below.refl _ _,_,rfl,HO.out⟩
 ·have hb1:=(Below.refl w.heap.size w).alloc (Nat.le_refl _) (.cells #[] 80);have HO:=Bas.hid (Ln.own_zero (size:=3) (Bas.heap_new w (.cells #[] 80)) (Nat.le_refl w.heap.size));have HL1:=Bas.hid (Row.leads_below HL.out hb1);have HB1:=Bas.hid hb1;have hsz:=hb1.size;have HFL:=Bas.hid (plC_flat xs);have hon:=plC_one xs;clear HL hb1;go_enter Tryz.func127,Tryz.ntmps127
  go_wp2_with (at_builtin;refine Row.fence ?_);refine Row.unfence ?_;generalize w.alloc (.cells #[] 80)=W1 at*;refine Row.append_any rfl _ _ 246 80 rfl (.agg #[.int .i32 0,.int .i32 0,.int .i32 0]) 3 12 Tryz.underlying246 infoPl rfl (by decide) w.heap.size (.slice (some ⟨w.heap.size,0,none⟩) 0 0) 0 [] rfl HO.out (.slice (some ad) n cp) n (xs.flatMap plC) rfl HL1.out (by rw [HFL.out,hn]) hon (by unfold maxLen;omega) (by omega) hsz ?_
  intro v7 w7 ho7 hg7 _;have HO7:=Bas.hid ho7;have HB7:=Bas.hid (HB1.out.grown hg7 hsz (fun g' hg'=>by cases hg';exact Nat.le_refl _))
  clear ho7 hg7;go_wp2_with (fail);go_ret;refine ⟨HB7.out,v7,rfl, ?_⟩;have h:=HO7.out;rw [Nat.zero_add,List.nil_append] at h;exact h
theorem all_any{w:World}{base g:Nat}{dn:Bool}{sv:Value}{ps:List Pl}(h:PlsAt w base g dn sv ps)(hn2:ps.length≤4294967296):
  Calls Tryz.prog 77 #[.pointer (some ⟨g,0,none⟩)] w fun e w'=>Below w.heap.size w w'∧∃v',e=.returned v'∧w'.ownsRow w.heap.size 80 3 v' ps.length (ps.flatMap plC):=by
 have HC:=Bas.hid (clone_any sv ps ps.length w (Row.leads_owned h.own) rfl hn2);obtain ⟨a,c,rfl⟩:=own_slice h.own;have c1:=cell_of_heap (i:=1) (v:=.slice a ps.length c) h.head rfl;clear h hn2;generalize ps.length=n at*;go_enter Tryz.func77,Tryz.ntmps77
 go_wp2_with (fail);refine HC.out.mono ?_;rintro e w2 ⟨hb,v',rfl,ho⟩;have HB:=Bas.hid hb;have HO:=Bas.hid ho;clear hb ho HC;go_wp2_with (fail);go_ret;exact ⟨HB.out,v',rfl,HO.out⟩
def plNew(adv:List Int):List Pl:=adv.map fun n=>⟨clampI n,0,0⟩
theorem plNew_len(adv:List Int):(plNew adv).length=adv.length:=by simp [plNew]
theorem plNew_wf(adv:List Int):∀p∈plNew adv,plWf p:=by
 intro p hp;obtain ⟨n,_,rfl⟩:=List.mem_map.1 hp;exact ⟨clampI_bd n,by simp,by simp⟩
theorem pls_snoc{w w7:World}{base g:Nat}{dn:Bool}{sv v':Value}{ps:List Pl}{p:Pl}(h:PlsAt w base g dn sv ps)(hp:plWf p)(hg:w.grownBy w7 sv.ownBlock)(ho:w7.ownsRow base 80 3 v' (ps.length+1) (ps.flatMap plC++plC p)):
  PlsAt (w7.setCell ⟨g,1,none⟩ v') base g dn v' (ps++[p]):=by
 have h7:=(hg.block g h.lt (fun e=>h.ne e.symm)).trans h.head
 have k8:=heap_set (i:=1) h7 v';refine ⟨k8, ?_,h.low,fun q hq=> ?_⟩
 ·rw [List.length_append,List.flatMap_append];exact Row.owned_keep (by simpa using ho) fun k hk=>Below.heap_setCell _ _ _ _ (fun e=>own_ty ho h7 (by decide) (by rw [hk,e]))
 ·rcases List.mem_append.1 hq with hq|hq
  ·exact h.wf q hq
  ·rw [List.mem_singleton] at hq;subst hq;exact hp
theorem new_any(d:Int)(dn:Bool)(va:Value)(adv:List Int)(n:Nat)(w:World)(hd:(d==2)=dn)(hl:Row.Leads w va n (adv.map (Value.int .i64)))(hn:adv.length=n)(hn2:n≤4294967296):
  Calls Tryz.prog 71 #[.int .i64 d,va] w fun e w'=>e=.returned (.pointer (some ⟨w.heap.size,0,none⟩))∧Below w.heap.size w w'∧∃sv,PlsAt w' w.heap.size w.heap.size dn sv (plNew adv):=by
 obtain ⟨ad,cp,rfl⟩:∃ad cp,va=.slice ad n cp:=by
  rcases hl with ⟨rfl,rfl,_⟩|⟨ad,cp,rfl,_⟩
  ·exact ⟨none,0,rfl⟩
  ·exact ⟨_,_,rfl⟩
 have HL:=Bas.hid hl;have hb1:=(Below.refl w.heap.size w).alloc (Nat.le_refl _) (.cells #[.bool dn,.slice none 0 0] 335);have HA:Hid (PlsAt (w.alloc (.cells #[.bool dn,.slice none 0 0] 335)) w.heap.size w.heap.size dn (.slice none 0 0) []):=⟨Bas.heap_new _ _,Row.owned_nil _ _ _ _,Nat.le_refl _,fun p hp=>by cases hp⟩
 have HB:=Bas.hid hb1;have HN:=Bas.hid hn;clear hb1 hl hn;go_enter Tryz.func71,Tryz.ntmps71
 go_wp2_with (fail);generalize w.alloc (.cells #[.bool dn,.slice none 0 0] 335)=W1 at*;obtain ⟨G,hG⟩:∃G,w.heap.size=G:=⟨_,rfl⟩;have HG:=Bas.hid hG;rw [hG] at HA HB ⊢;clear hG hd;go_loopw [14] (fun vi wr=>∃(i:Nat) (sv:Value),i≤n∧vi=.int .i64 i∧PlsAt wr G G dn sv (plNew (adv.take i))∧Below G w wr) (fun vi _=>n - (intOf vi).toNat)
 case atStart=>exact ⟨0,_,Nat.zero_le _,rfl,HA.out,HB.out⟩
 case round=>
  obtain ⟨i,sv,hi,rfl,hA,hB⟩:=hrel;have HA2:=Bas.hid hA;have HB2:=Bas.hid hB;by_cases hin:i<n
  ·have e1:decide ((i:Int)<(n:Int))=true:=by simp;omega
   have e2:decide (i<n)=true:=by simp;omega
   obtain ⟨x,hx⟩:∃x,adv[i]? =some x:=⟨_,List.getElem?_eq_getElem (by rw [HN.out];exact hin)⟩
   have hlw:Row.Leads wr (.slice ad n cp) n (adv.map (Value.int .i64)):=Row.leads_below HL.out (by rw [HG.out];exact hB)
   obtain ⟨bo,oo,c2,hv,hc⟩:=St.leads_at hlw (i:=i) (u:=.int .i64 x) (by rw [List.getElem?_map,hx];rfl)
   cases hv;obtain ⟨a3,cs,rfl⟩:=own_slice hA.own;have hPl:(plNew (adv.take i)).length=i:=by rw [plNew_len,List.length_take,Nat.min_eq_left (by rw [HN.out];exact hi)]
   have HPL:=Bas.hid hPl;have hhead:=hA.head;rw [hPl] at hhead HA2;have g0:=cell_of_heap (i:=1) (v:=.slice a3 i cs) hhead rfl;have lG:=heap_lt hhead;have lb:=World.block_lt_of_cell? _ _ hc;have hne:Value.ownBlock (.slice a3 i cs)≠some G:=HA2.out.ne;have HX:Hid (plNew (adv.take (i+1))=plNew (adv.take i)++[⟨clampI x,0,0⟩]):=by unfold Hid plNew;rw [List.take_add_one,hx,List.map_append];rfl
   have HCL:=Bas.hid (fun w'=>clamp_any x w')
   clear hA hB hlw hx hhead HA HB hPl;go_wp2_with (fail);obtain ⟨I,F,i0,F0,Fg,Fw,Fb⟩:=Pl.fam_g wr (Value.slice a3 i cs).ownBlock;have cc1:=fun j=>(Bas.gcell (Fb j) (b:=G) (o:=1) lG hne).trans g0
   have FH:=Bas.hid F0;have hI:Nonempty I:=⟨i0⟩;have FW:=Bas.hid Fw;clear F0 Fw Fg Fb;refine Pl.region_plan0 i0 [(true,0),(true,1),(true,2),(true,3),(true,4),(true,5),(false,6),(false,7),(false,8),(false,9),(false,10),(false,11),(false,12)] [9,10,11,12] (by kernel_rfl) (by kernel_rfl) (fun _ _ _ _ e h=>⟨e▸h.1,h.2⟩) FH.out ?_
   refine Pl.head_sel0 [(true,0),(true,1),(true,2),(true,3),(true,4),(true,5)] (by kernel_rfl) (by kernel_rfl) ?_
   simp only [Pl.sel,List.drop_succ_cons,List.drop_zero];repeat (go_big_quiet_step (fail))
   refine wpQuiet_nil ?_;rw [←FH.out];clear cc1 FH;refine Pl.one_sel (by kernel_rfl) ?_
   intro Q' hQ' hP';simp only [Pl.sel,List.drop_succ_cons,List.drop_zero];go_wp2_with (fail);refine (HCL.out _).mono ?_;rintro e x2 ⟨rfl,rfl⟩;go_wp2_with (fail);refine hQ' _ _ (fun _ _=>FW.out _ (Bas.gdrew (Bas.grefl _ _))) ?_
   clear hQ' hP' Q' HCL;refine Pl.one_sel (by kernel_rfl) ?_
   intro Q' hQ' hP';simp only [Pl.sel,List.drop_succ_cons,List.drop_zero];go_wp2_with (fail);refine hQ' _ _ (fun _ _=>FW.out _ (Bas.gdrew (Bas.grefl _ _))) ?_
   clear hQ' hP' Q';refine Pl.one_sel (by kernel_rfl) ?_
   intro Q' hQ' hP';simp only [Pl.sel,List.drop_succ_cons,List.drop_zero];go_wp2_with (fail);refine hQ' _ _ (fun _ _=>FW.out _ (by first|exact Bas.galloc (Bas.gdrew (Bas.grefl _ _)) _|exact Bas.gdrew (Bas.galloc (Bas.grefl _ _) _))) ?_
   clear hQ' hP' Q' FW;refine Pl.tail_sel [(false,9),(false,10),(false,11),(false,12)] (by kernel_rfl) (by kernel_rfl) ?_
   simp only [Pl.sel,List.drop_succ_cons,List.drop_zero];obtain ⟨cl,hcl⟩:∃c,clampI x=c:=⟨_,rfl⟩;have hcw:plWf ⟨cl,0,0⟩:=by rw [←hcl];exact ⟨clampI_bd x,by simp,by simp⟩
   rw [hcl] at HX ⊢;have HCW:=Bas.hid hcw;clear hcl hcw g0 hc lb hne;go_wp2_with (at_builtin;refine Row.fence ?_);refine Row.unfence ?_;have q2:(wr.alloc (.cells #[.int .i32 cl,.int .i32 0,.int .i32 0] 80)).drew.heap[wr.heap.size]? =_:=Bas.heap_new wr (.cells #[.int .i32 cl,.int .i32 0,.int .i32 0] 80);have hb2:=((Below.refl wr.heap.size wr).alloc (Nat.le_refl _) (.cells #[.int .i32 cl,.int .i32 0,.int .i32 0] 80)).drew;have HA3:=Bas.hid (HA2.out.below hb2);have hGw:G≤wr.heap.size:=Nat.le_of_lt lG;have HB3:=Bas.hid (HB2.out.trans (hb2.mono hGw));have hG3:G≤(wr.alloc (.cells #[.int .i32 cl,.int .i32 0,.int .i32 0] 80)).drew.heap.size:=Nat.le_trans hGw hb2.size;clear hb2;generalize (wr.alloc (.cells #[.int .i32 cl,.int .i32 0,.int .i32 0] 80)).drew=W2 at*;have hO:=HA3.out.own;rw [HPL.out] at hO;have HO:=Bas.hid hO;clear hO;refine Row.append_any rfl _ _ 246 80 rfl (.agg #[.int .i32 0,.int .i32 0,.int .i32 0]) 3 12 Tryz.underlying246 infoPl rfl (by decide) G (.slice a3 i cs) i _ rfl HO.out (.slice (some ⟨wr.heap.size,0,none⟩) 1 1) 1 [.int .i32 cl,.int .i32 0,.int .i32 0] rfl (leads_heap q2) rfl (by simp;first|exact ⟨rfl,rfl⟩|exact rfl) (by unfold maxLen;omega) (by omega) hG3 ?_
   intro v7 w7 ho7 hg7 _;obtain ⟨a7,c7,rfl⟩:=own_slice ho7;have HA8:=Bas.hid (pls_snoc (p:=⟨cl,0,0⟩) HA3.out HCW.out hg7 (by rw [HPL.out];exact ho7))
   have k7:=(hg7.block G HA3.out.lt (fun e=>HA3.out.ne e.symm)).trans HA3.out.head
   have c1:=cell_of_heap (i:=1) k7 rfl;have f1:=free_of_heap (i:=1) k7;have HB7:=Bas.hid (HB3.out.grown hg7 hG3 (fun g' hg'=>(Row.own_block HA3.out.own hg').1))
   have HB8:=Bas.hid (HB7.out.setCell (p:=⟨G,1,none⟩) (Nat.le_refl _) (.slice a7 (i+1) c7));clear hg7 ho7 q2;go_wp2_with (fail);go_roundw
   case rel=>exact ⟨i+1,_,by omega,by go_num,by rw [HX.out];exact HA8.out,HB8.out⟩
   case measure=>simp [intOf];omega
  ·have hin2:i=n:=by omega
   have e1:decide ((i:Int)<(n:Int))=false:=by simp;omega
   have e2:decide (i<n)=false:=by simp;omega
   have e3:¬(i:Int)<(n:Int):=by omega
   have HF:Hid (PlsAt wr G G dn sv (plNew adv)):=by
    unfold Hid;rw [List.take_of_length_le (by rw [HN.out];omega)] at hA
    exact hA
   clear hin2 hA hB;go_wp2_with (fail);go_ret;rw [HG.out];exact ⟨rfl,HB2.out,sv,HF.out⟩
end Pc
namespace Sh
open Fo Ln
theorem infoI:(Tryz.prog.info? 3).map (fun i=>(i.zero,i.size,i.bytes))=some (some (.int .i64 0),1,8):=by kernel_rfl
def advsOf(g m:Nat)(d:List Int)(down:Bool)(xs:List Gl):List Int:=xs.map fun x=>if down then 1000 else advL g m d x.1
theorem glyph_cells{w:World}{base n:Nat}{sv:Value}{xs:List Gl}(h:w.ownsRow base 78 2 sv n (xs.flatMap glC)){k:Nat}{x:Gl}(hx:xs[k]? =some x):
  ∃bo cp,sv=.slice (some ⟨bo,0,none⟩) n cp∧bo<w.heap.size∧w.cell? ⟨bo,k*2,none⟩=some (.int .i64 x.1)∧w.cell? ⟨bo,k*2+1,none⟩=some (.int .i64 x.2):=by
 have hL:=Row.leads_elem glC_len (Row.leads_owned h) hx (by omega)
 obtain ⟨hlen,⟨h2,h3⟩|⟨bo,cap,cur,hv,hb,hh,hc,hm,hs,ht⟩⟩:=h
 ·have h4:=glC_flat xs;rw [h3] at hlen;have:=(List.getElem?_eq_some_iff.1 hx).1;omega
 ·obtain ⟨b2,o2,c2,hv2,hcell⟩:=hL;rw [hv] at hv2;cases hv2;exact ⟨bo,cap,hv,heap_lt hh,by simpa using hcell 0 _ rfl,by simpa using hcell 1 _ rfl⟩
theorem face_em(a b c:Int)(w:World):(Instr.field 196 (.agg #[.int .i64 a,.int .i64 b,.int .i64 c]) 1).run Tryz.prog w=.ok (.int .i64 b) w:=by
 have h:=run_underlying (P:=Tryz.prog) Tryz.underlying196;simp [Instr.field,h,part,asAgg,go_sem]
theorem own_apart2{w:World}{base base':Nat}{e e':TypeId}{size size':Nat}{v v':Value}{n n':Nat}{xs xs':List Value}(h:w.ownsRow base e size v n xs)(h':w.ownsRow base' e' size' v' n' xs')(hne:e≠e'):∀g,v.ownBlock=some g→v'.ownBlock≠some g:=by
 intro g hg hg';obtain ⟨_,⟨rfl,_⟩|⟨g1,cp,cur,rfl,_,hh,_⟩⟩:=h
 ·cases hg
 ·cases hg;exact own_ty h' hh (Ne.symm hne) hg'
theorem advances_any(gf gw:Nat)(f1 f2 f3 f4 f5:Value)(baseW g m:Nat)(d:List Int)(dir:Int)(dn:Bool)(base gl:Nat)(sv:Value)(xs:List Gl)(w:World)(hf:w.heap[gf]? =some (.cells #[.pointer (some ⟨gw,0,none⟩),f1,f2,f3,f4,f5] 204 (0,0)))(hw:IsW w baseW gw g m d)(hd:d.length=4*m+2*(g - m))(hm1:1≤m)(hmg:m≤g)(hgb:g≤65535)
  (hdn:(dir==2)=dn) (hL:LineAt w base gl sv xs) (hn:xs.length≤4000000):
  Calls Tryz.prog 72 #[.pointer (some ⟨gf,0,none⟩),.pointer (some ⟨gl,0,none⟩),.int .i64 dir] w fun e w'=>Below w.heap.size w w'∧∃v',e=.returned v'∧w'.ownsRow w.heap.size 3 1 v' xs.length ((advsOf g m d dn xs).map (Value.int .i64)):=by
 have HG:=Bas.hid (glyphs_any base gl sv xs w hL (by omega))
 have HADV:=Bas.hid (fun u (hb:Below w.heap.size w u) id=>wadv_any u baseW gw g m d id (isW_below hw hb) hd hm1 hmg hgb)
 have HFACE:=Bas.hid (fun u (hb:Below w.heap.size w u)=>wface_any u baseW gw g m d (isW_below hw hb))
 have HF:=Bas.hid hf;have HB0:=Bas.hid (Below.refl w.heap.size w);have lgf:=heap_lt hf;obtain ⟨n,hnn⟩:∃n,xs.length=n:=⟨_,rfl⟩;have HN:=Bas.hid hnn;rw [hnn] at HG hn ⊢;clear hf hw hL hd hnn;go_enter Tryz.func72,Tryz.ntmps72
 go_wp2_with (fail);refine HG.out.mono ?_;rintro e w2 ⟨hb,v',rfl,ho⟩;obtain ⟨a2,c2,rfl⟩:=own_slice ho;have HO:=Bas.hid ho;have HB:=Bas.hid hb;clear hb ho HG;go_wp2_with (fail);obtain ⟨wo,hwo⟩:∃wo:World,wo=w2:=⟨_,rfl⟩;rw [←hwo] at HO HB;rw [←hwo];clear hwo;go_loopw [7,14] (fun vb vi wr=>∃(i:Nat) (vB:Value),i≤n∧vb=vB∧vi=.int .i64 i∧wr.ownsRow w.heap.size 3 1 vB i ((advsOf g m d dn (xs.take i)).map (Value.int .i64))∧wr.ownsRow w.heap.size 78 2 (.slice a2 n c2) n (xs.flatMap glC)∧Below w.heap.size w wr) (fun _ vi _=>n - (intOf vi).toNat)
 case atStart=>exact ⟨0,_,Nat.zero_le _,rfl,rfl,Row.owned_nil _ _ _ _,HO.out,HB.out⟩
 case round=>
  obtain ⟨i,vB,hi,hvb,rfl,hrow,hgl,hb⟩:=hrel;subst hvb;have HRW:=Bas.hid hrow;have HGL:=Bas.hid hgl;have HBR:=Bas.hid hb;by_cases hin:i<n
  ·have e1:decide ((i:Int)<(n:Int))=true:=by simp;omega
   have e2:decide (i<n)=true:=by simp;omega
   obtain ⟨⟨x0,x1⟩,hx⟩:∃x,xs[i]? =some x:=⟨_,List.getElem?_eq_getElem (by rw [HN.out];exact hin)⟩
   obtain ⟨bo,cp,hv,hlt,p0,p1⟩:=glyph_cells hgl hx;cases hv;obtain ⟨aB,cB,hvB⟩:=own_slice hrow;subst hvB;have HX:Hid ((advsOf g m d dn (xs.take (i+1))).map (Value.int .i64)=(advsOf g m d dn (xs.take i)).map (Value.int .i64)++[.int .i64 (if dn then 1000 else advL g m d x0)]):=by
    unfold Hid advsOf;rw [List.take_add_one,hx];simp
   have hb3:=(Below.refl wr.heap.size wr).alloc (Nat.le_refl _) (.cells #[.int .i64 x0,.int .i64 x1] 78);have k3:=Bas.heap_new wr (.cells #[.int .i64 x0,.int .i64 x1] 78);have HR3:=Bas.hid (Row.owned_below hrow hb3);have HG3:=Bas.hid (Row.owned_below hgl hb3);have HB3:=Bas.hid (Bas.on hb hb3);have kf:=(HB3.out.block gf lgf).trans HF.out;simp only at p0 p1;clear hrow hgl hb hx hb3;go_wp2_with (fail);generalize wr.alloc (.cells #[.int .i64 x0,.int .i64 x1] 78)=w3 at*;generalize wr.heap.size=T3 at*;have c0:=cell_of_heap (i:=0) (v:=.pointer (some ⟨gw,0,none⟩)) kf rfl;have q0:=cell_of_heap (i:=0) (v:=.int .i64 x0) k3 rfl;have lf3:=heap_lt kf;have lT3:=heap_lt k3;refine' Pl.region_v0 39 [] [0,1,2,3,4,5] [6,7] _ (by kernel_rfl) (by kernel_rfl) (by simp) (fun _ _ _ _ e h=>⟨e▸h.1,h.2⟩) ?_ ?_
   rotate_left
   ·intro I F hI hF;simp only [Pl.selN,List.nil_append,List.drop_succ_cons,List.drop_zero];have t0:=fun i=>hF.cell lf3 c0 i
    have t1:=fun i=>hF.cell lT3 q0 i
    repeat (go_big_quiet_step (fail))
    refine wpQuiet_nil ?_;rfl
   intro w5 hw5;simp only [Pl.selN,List.drop_succ_cons,List.drop_zero];have hb5:=HB3.out.trans (hw5.mono HB3.out.size);go_wp2_with (fail);refine (HADV.out w5 hb5 x0).mono ?_;rintro e w6 ⟨rfl,hb6⟩;have hb56:=hw5.trans (hb6.mono hw5.size);have HR6:=Bas.hid (Row.owned_below HR3.out hb56);have HG6:=Bas.hid (Row.owned_below HG3.out hb56);have HB6:=Bas.hid (hb5.trans (hb6.mono hb5.size));clear hb5 hb6 hb56 hw5 c0 q0 kf k3 HR3 HG3 HB3;have kf:=(HB6.out.block gf lgf).trans HF.out;have c0:=cell_of_heap (i:=0) (v:=.pointer (some ⟨gw,0,none⟩)) kf rfl;cases dn with
   |false=>
    simp only [Bool.false_eq_true,if_false] at HX;go_wp2_with (at_builtin;refine Row.fence ?_);refine Row.unfence ?_;have hb7:=(Below.refl w6.heap.size w6).alloc (Nat.le_refl _) (.cells #[.int .i64 (advL g m d x0)] 3);have k7:=Bas.heap_new w6 (.cells #[.int .i64 (advL g m d x0)] 3);have HR7:=Bas.hid (Row.owned_below HR6.out hb7);have HG7:=Bas.hid (Row.owned_below HG6.out hb7);have HB7:=Bas.hid (Bas.on HB6.out hb7);generalize w6.alloc (.cells #[.int .i64 (advL g m d x0)] 3)=w7 at*;refine Row.append_any rfl _ _ 24 3 rfl (.int .i64 0) 1 8 Tryz.underlying24 infoI rfl (by decide) w.heap.size (.slice aB i cB) i _ rfl HR7.out (.slice (some ⟨w6.heap.size,0,none⟩) 1 1) 1 [.int .i64 (advL g m d x0)] rfl (leads_heap k7) rfl (by simp;rfl) (by unfold maxLen;omega) (by omega) HB7.out.size ?_
    intro v8 w8 h81 h82 _;have HR8:Hid (w8.ownsRow w.heap.size 3 1 v8 (i+1) ((advsOf g m d false (xs.take (i+1))).map (Value.int .i64))):=by unfold Hid;rw [HX.out];exact h81
    have HG8:=Bas.hid (Row.owned_keep HG7.out fun b hbk=>h82.block b (Row.own_block HG7.out hbk).2 (fun e=>own_apart2 HG7.out HR7.out (by decide) b hbk e.symm))
    have HB8:=Bas.hid (HB7.out.grown h82 HB7.out.size (fun b hbk=>(Row.own_block HR7.out hbk).1))
    clear h81 h82 k7 hb7 HR7 HG7 HB7 c0 kf;go_wp2_with (fail);go_roundw
    case rel=>exact ⟨i+1,v8,by omega,rfl,by go_num,HR8.out,HG8.out,HB8.out⟩
    case measure=>simp [intOf];omega
   |true=>
    simp only [if_true] at HX;go_wp2_with (fail);refine (HFACE.out w6 HB6.out).mono ?_;rintro e wf ⟨rfl,hbf⟩;have HRf:=Bas.hid (Row.owned_below HR6.out hbf);have HGf:=Bas.hid (Row.owned_below HG6.out hbf);have HBf:=Bas.hid (HB6.out.trans (hbf.mono HB6.out.size));clear hbf HR6 HG6 HB6;have HR6:=HRf;have HG6:=HGf;have HB6:=HBf;clear HRf HGf HBf;have hfm:=face_em (g:Int) 1000 (m:Int) wf;go_wp2_with (at_builtin;refine Row.fence ?_);refine Row.unfence ?_;have hb7:=(Below.refl wf.heap.size wf).alloc (Nat.le_refl _) (.cells #[.int .i64 1000] 3);have k7:=Bas.heap_new wf (.cells #[.int .i64 1000] 3);have HR7:=Bas.hid (Row.owned_below HR6.out hb7);have HG7:=Bas.hid (Row.owned_below HG6.out hb7);have HB7:=Bas.hid (Bas.on HB6.out hb7);generalize wf.alloc (.cells #[.int .i64 1000] 3)=w7 at*;refine Row.append_any rfl _ _ 24 3 rfl (.int .i64 0) 1 8 Tryz.underlying24 infoI rfl (by decide) w.heap.size (.slice aB i cB) i _ rfl HR7.out (.slice (some ⟨wf.heap.size,0,none⟩) 1 1) 1 [.int .i64 1000] rfl (leads_heap k7) rfl (by simp;rfl) (by unfold maxLen;omega) (by omega) HB7.out.size ?_
    intro v8 w8 h81 h82 _;have HR8:Hid (w8.ownsRow w.heap.size 3 1 v8 (i+1) ((advsOf g m d true (xs.take (i+1))).map (Value.int .i64))):=by unfold Hid;rw [HX.out];exact h81
    have HG8:=Bas.hid (Row.owned_keep HG7.out fun b hbk=>h82.block b (Row.own_block HG7.out hbk).2 (fun e=>own_apart2 HG7.out HR7.out (by decide) b hbk e.symm))
    have HB8:=Bas.hid (HB7.out.grown h82 HB7.out.size (fun b hbk=>(Row.own_block HR7.out hbk).1))
    clear h81 h82 k7 hb7 HR7 HG7 HB7 c0 kf;go_wp2_with (fail);go_roundw
    case rel=>exact ⟨i+1,v8,by omega,rfl,by go_num,HR8.out,HG8.out,HB8.out⟩
    case measure=>simp [intOf];omega
  ·obtain rfl:n=i:=by omega
   have e1:decide ((n:Int)<(n:Int))=false:=by simp
   obtain ⟨aB,cB,hvB⟩:=own_slice hrow;subst hvB;have HFR:Hid (wr.ownsRow w.heap.size 3 1 (.slice aB n cB) n ((advsOf g m d dn xs).map (Value.int .i64))):=by
    unfold Hid;rw [List.take_of_length_le (by rw [HN.out];exact Nat.le_refl _)] at hrow
    exact hrow
   clear hrow hgl hb;go_wp2_with (fail);go_ret;exact ⟨HBR.out,_,rfl,HFR.out⟩
end Sh
namespace Cov
def bitB(w:Int)(n:Nat):Bool:=w / 2^n%2==1
theorem div_pow(w:Int)(k:Nat):w / 2^k / 2=w / 2^(k+1):=by
 rw [Int.pow_succ,Int.ediv_ediv_of_nonneg (Int.le_of_lt (Int.pow_pos (by omega)))]
def isDir(d:Int):Bool:=decide (0≤d)&&decide (d≤2)
theorem is_any(d:Int)(w:World):
  Calls Tryz.prog 13 #[.int .i64 d] w fun e w'=>e=.returned (.bool (isDir d))∧w=w':=by
 by_cases hd:0≤d
 ·have hd':decide (0≤d)=true:=by simpa using hd
  go_enter Tryz.func13,Tryz.ntmps13
  go_wp2;go_ret;exact ⟨by simp [isDir,hd],rfl⟩
 ·have hd':decide (0≤d)=false:=by simpa using hd
  go_enter Tryz.func13,Tryz.ntmps13
  go_wp2;go_ret;exact ⟨by simp [isDir];omega,rfl⟩
theorem is_eq(d:Int)(b:Bool)(hb:isDir d=b)(w:World):
  Calls Tryz.prog 13 #[.int .i64 d] w fun e w'=>e=.returned (.bool b)∧w=w':=hb▸is_any d w
def fits(v:Bool)(d:Int):Bool:=isDir d&&(v==(d==2))
def runsM(v both:Bool)(d:Int):Bool:=fits v d||both&&isDir d
def turnedM(back logical:Bool)(d:Int):Bool:=back !=(!logical&&d==1)
theorem fits_any(kind:Int)(v back:Bool)(d:Int)(w:World):
  Calls Tryz.prog 177 #[.agg #[.int .i64 kind,.bool v,.bool back],.int .i64 d] w fun e w'=>e=.returned (.bool (fits v d))∧Below w.heap.size w w':=by
 cases hb:isDir d
 all_goals
  go_enter Tryz.func177,Tryz.ntmps177
  go_wp2_with ((go_at_call 13;refine (is_eq _ _ hb _).mono ?_;rintro e w' ⟨rfl,rfl⟩));go_ret;exact ⟨by simp [fits,hb],(Below.refl _ _).alloc (Nat.le_refl _) _⟩
end Cov
namespace Sh
open Cov Fo
def badId(x:Int):Bool:=decide (x<0)||decide (65535≤x)
def checkN(d:Int)(ids:List Int):Int:=if 0≤d∧d≤2 then if 65536<ids.length then 5 else if ids.any badId then 1 else 0 else 1
theorem check_bad{d:Int}{ids:List Int}(h:0≤d∧d≤2)(hl:¬65536<ids.length){i:Nat}{x:Int}(hx:ids[i]? =some x)(hb:badId x=true):checkN d ids=1:=by
 unfold checkN;rw [if_pos h,if_neg hl,if_pos (List.any_eq_true.2 ⟨x,List.mem_of_getElem? hx,hb⟩)]
theorem check_ok{d:Int}{ids:List Int}(h:0≤d∧d≤2)(hl:¬65536<ids.length)(hk:∀j x,j<ids.length→ids[j]? =some x→badId x=false):checkN d ids=0:=by
 unfold checkN;rw [if_pos h,if_neg hl,if_neg];intro h;obtain ⟨x,hx,hb⟩:=List.any_eq_true.1 h;obtain ⟨j,hj⟩:=List.getElem?_of_mem hx;rw [hk j x (List.getElem?_eq_some_iff.1 hj).1 hj] at hb;cases hb
theorem leads_int{w:World}{a:Option Addr}{n cap:Nat}{ids:List Int}(hl:Row.Leads w (.slice a n cap) n (ids.map (Value.int .i64))){i:Nat}{x:Int}(hx:ids[i]? =some x):∃b o,a=some ⟨b,o,none⟩∧w.cell? ⟨b,o+i,none⟩=some (.int .i64 x):=by
 have h2:Row.Leads w (.slice a n cap) n (ids.flatMap fun x=>[Value.int .i64 x]):=by
  rwa [show (ids.flatMap fun x=>[Value.int .i64 x])=ids.map (Value.int .i64) by clear hl hx;induction ids with|nil=>rfl|cons y l ih=>simp [ih]]
 obtain ⟨b,o,c,hv,hc⟩:=Row.leads_elem (m:=1) (fun _=>rfl) h2 hx (by omega)
 cases hv;exact ⟨b,o,rfl,by simpa using hc 0 _ rfl⟩
theorem check_any(s1:Option Addr)(s2 s3:Nat)(d z:Int)(a:Option Addr)(n cap:Nat)(ids:List Int)(w:World)(hl:Row.Leads w (.slice a n cap) n (ids.map (Value.int .i64)))(hn:ids.length=n):
  Calls Tryz.prog 6 #[.agg #[.slice s1 s2 s3,.int .i64 d,.int .i32 z,.slice a n cap]] w fun e w'=>e=.returned (.int .i64 (checkN d ids))∧Below w.heap.size w w':=by
 have HB:=Bas.hid ((Below.refl w.heap.size w).alloc (Nat.le_refl _) (.cells #[.slice s1 s2 s3,.int .i64 d,.int .i32 z,.slice a n cap] 26));have HL:=Bas.hid (Row.leads_below hl ((Below.refl w.heap.size w).alloc (Nat.le_refl _) (.cells #[.slice s1 s2 s3,.int .i64 d,.int .i32 z,.slice a n cap] 26)));have HN:=Bas.hid hn;obtain ⟨m,hm⟩:∃m,checkN d ids=m:=⟨_,rfl⟩;rw [hm];have HM:=Bas.hid hm;clear hl hn hm;by_cases hd0:d<0
 ·have d1:decide (d<0)=true:=by simpa using hd0
  have hdir:isDir d=false:=by unfold isDir;simp;omega
  obtain rfl:m=1:=by rw [←HM.out,checkN,if_neg (by omega)]
  go_enter Tryz.func6,Tryz.ntmps6
  go_wp2_with (fail);refine (is_eq d false hdir _).mono ?_;rintro e w' ⟨rfl,rfl⟩;go_wp2_with (fail);go_ret;exact ⟨rfl,HB.out⟩
 have d1:decide (d<0)=false:=by simpa using hd0
 by_cases hd2:2<d
 ·have d2:decide (d>2)=true:=by simpa using hd2
  have d3:decide (2<d)=true:=by simpa using hd2
  have hdir:isDir d=false:=by unfold isDir;simp;omega
  obtain rfl:m=1:=by rw [←HM.out,checkN,if_neg (by omega)]
  go_enter Tryz.func6,Tryz.ntmps6
  go_wp2_with (fail);refine (is_eq d false hdir _).mono ?_;rintro e w' ⟨rfl,rfl⟩;go_wp2_with (fail);go_ret;exact ⟨rfl,HB.out⟩
 have d2:decide (d>2)=false:=by simpa using hd2
 have d3:decide (2<d)=false:=by simpa using hd2
 have hdir:isDir d=true:=by unfold isDir;simp;omega
 by_cases hbig:65536<n
 ·have b1:decide ((n:Int)>65536)=true:=by simp;omega
  have b2:decide ((65536:Int)<(n:Int))=true:=by simp;omega
  have b3:decide (65536<n)=true:=by simp;omega
  obtain rfl:m=5:=by rw [←HM.out,checkN,if_pos (by omega),if_pos (by rw [HN.out];exact hbig)]
  go_enter Tryz.func6,Tryz.ntmps6
  go_wp2_with (fail);refine (is_eq d true hdir _).mono ?_;rintro e w' ⟨rfl,rfl⟩;go_wp2_with (fail);go_ret;exact ⟨rfl,HB.out⟩
 have b1:decide ((n:Int)>65536)=false:=by simp;omega
 have b2:decide ((65536:Int)<(n:Int))=false:=by simp;omega
 have b3:decide (65536<n)=false:=by simp;omega
 go_enter Tryz.func6,Tryz.ntmps6
 go_wp2_with (fail);refine (is_eq d true hdir _).mono ?_;rintro e w' ⟨rfl,rfl⟩;go_wp2_with (fail);have k1:=Bas.heap_new w (.cells #[.slice s1 s2 s3,.int .i64 d,.int .i32 z,.slice a n cap] 26);generalize w.alloc (.cells #[.slice s1 s2 s3,.int .i64 d,.int .i32 z,.slice a n cap] 26)=W1 at*;obtain ⟨T1,hT1⟩:∃T,w.heap.size=T:=⟨_,rfl⟩;rw [hT1] at k1 ⊢;clear hT1;have c3:=cell_of_heap (i:=3) (v:=.slice a n cap) k1 rfl;go_loopw [16] (fun vi wr=>∃i:Nat,i≤n∧vi=.int .i64 i∧(∀j x,j<i→ids[j]? =some x→badId x=false)∧wr=W1) (fun vi _=>n - (intOf vi).toNat)
 case atStart=>exact ⟨0,Nat.zero_le _,rfl,fun j x hj=>by omega,rfl⟩
 case round=>
  obtain ⟨i,hi,rfl,hj,rfl⟩:=hrel;have HJ:=Bas.hid hj;clear hj;by_cases hin:i<n
  ·have e1:decide ((i:Int)<(n:Int))=true:=by simp;omega
   have e2:decide (i<n)=true:=by simp;omega
   obtain ⟨x,hx⟩:∃x,ids[i]? =some x:=⟨_,List.getElem?_eq_getElem (by rw [HN.out];exact hin)⟩
   obtain ⟨bo,o,rfl,hc⟩:=leads_int HL.out hx;have HX:=Bas.hid hx;clear hx;by_cases hx0:x<0
   ·have f1:decide (x<0)=true:=by simpa using hx0
    obtain rfl:m=1:=by rw [←HM.out];exact check_bad (by omega) (by rw [HN.out];exact hbig) HX.out (by unfold badId;rw [f1];rfl)
    go_wp2_with (fail);go_ret;exact ⟨rfl,HB.out⟩
   ·have f1:decide (x<0)=false:=by simpa using hx0
    by_cases hx5:65535≤x
    ·have f2:decide (x≥65535)=true:=by simpa using hx5
     have f3:decide (65535≤x)=true:=by simpa using hx5
     have f4:decide (x>65534)=true:=by simp;omega
     have f5:decide (65534<x)=true:=by simp;omega
     obtain rfl:m=1:=by rw [←HM.out];exact check_bad (by omega) (by rw [HN.out];exact hbig) HX.out (by unfold badId;rw [f3,Bool.or_true])
     go_wp2_with (fail);go_ret;exact ⟨rfl,HB.out⟩
    ·have f2:decide (x≥65535)=false:=by simpa using hx5
     have f3:decide (65535≤x)=false:=by simpa using hx5
     have f4:decide (x>65534)=false:=by simp;omega
     have f5:decide (65534<x)=false:=by simp;omega
     have HJ2:Hid (∀j y,j<i+1→ids[j]? =some y→badId y=false):=fun j y hj hy=>by
      by_cases hji:j=i
      ·subst hji;rw [HX.out] at hy;cases hy;unfold badId;rw [f1,f3];rfl
      ·exact HJ.out j y (by omega) hy
     go_wp2_with (fail);go_roundw
     case rel=>exact ⟨i+1,by omega,by go_num,HJ2.out,trivial⟩
     case measure=>simp [intOf];omega
  ·obtain rfl:n=i:=by omega
   have e1:decide ((n:Int)<(n:Int))=false:=by simp
   obtain rfl:m=0:=by rw [←HM.out];exact check_ok (by omega) (by rw [HN.out];exact hbig) (fun j x hj hx=>HJ.out j x (by rw [←HN.out];exact hj) hx)
   go_wp2_with (fail);go_ret;exact ⟨rfl,HB.out⟩
theorem rcheck_any(s1:Option Addr)(s2 s3:Nat)(d z:Int)(a:Option Addr)(n cap:Nat)(ids:List Int)(w:World)(hl:Row.Leads w (.slice a n cap) n (ids.map (Value.int .i64)))(hn:ids.length=n):
  Calls Tryz.prog 7 #[.agg #[.slice s1 s2 s3,.int .i64 d,.int .i32 z,.slice a n cap]] w fun e w'=>e=.returned (.int .i64 (checkN d ids))∧Below w.heap.size w w':=by
 have HB:=Bas.hid ((Below.refl w.heap.size w).alloc (Nat.le_refl _) (.cells #[.slice s1 s2 s3,.int .i64 d,.int .i32 z,.slice a n cap] 26));have HL:=Bas.hid (Row.leads_below hl ((Below.refl w.heap.size w).alloc (Nat.le_refl _) (.cells #[.slice s1 s2 s3,.int .i64 d,.int .i32 z,.slice a n cap] 26)));have HN:=Bas.hid hn;obtain ⟨m,hm⟩:∃m,checkN d ids=m:=⟨_,rfl⟩;rw [hm];have HM:=Bas.hid hm;clear hl hn hm;by_cases hd0:d<0
 ·have d1:decide (d<0)=true:=by simpa using hd0
  obtain rfl:m=1:=by rw [←HM.out,checkN,if_neg (by omega)]
  go_enter Tryz.func7,Tryz.ntmps7
  go_wp2_with (fail);go_ret;exact ⟨rfl,HB.out⟩
 have d1:decide (d<0)=false:=by simpa using hd0
 by_cases hd2:2<d
 ·have d2:decide (d>2)=true:=by simpa using hd2
  have d3:decide (2<d)=true:=by simpa using hd2
  obtain rfl:m=1:=by rw [←HM.out,checkN,if_neg (by omega)]
  go_enter Tryz.func7,Tryz.ntmps7
  go_wp2_with (fail);go_ret;exact ⟨rfl,HB.out⟩
 have d2:decide (d>2)=false:=by simpa using hd2
 have d3:decide (2<d)=false:=by simpa using hd2
 by_cases hbig:65536<n
 ·have b1:decide ((n:Int)>65536)=true:=by simp;omega
  have b2:decide ((65536:Int)<(n:Int))=true:=by simp;omega
  have b3:decide (65536<n)=true:=by simp;omega
  obtain rfl:m=5:=by rw [←HM.out,checkN,if_pos (by omega),if_pos (by rw [HN.out];exact hbig)]
  go_enter Tryz.func7,Tryz.ntmps7
  go_wp2_with (fail);go_ret;exact ⟨rfl,HB.out⟩
 have b1:decide ((n:Int)>65536)=false:=by simp;omega
 have b2:decide ((65536:Int)<(n:Int))=false:=by simp;omega
 have b3:decide (65536<n)=false:=by simp;omega
 go_enter Tryz.func7,Tryz.ntmps7
 go_wp2_with (fail);have k1:=Bas.heap_new w (.cells #[.slice s1 s2 s3,.int .i64 d,.int .i32 z,.slice a n cap] 26);generalize w.alloc (.cells #[.slice s1 s2 s3,.int .i64 d,.int .i32 z,.slice a n cap] 26)=W1 at*;obtain ⟨T1,hT1⟩:∃T,w.heap.size=T:=⟨_,rfl⟩;rw [hT1] at k1 ⊢;clear hT1;have c3:=cell_of_heap (i:=3) (v:=.slice a n cap) k1 rfl;go_loopw [3] (fun vi wr=>∃i:Nat,i≤n∧vi=.int .i64 i∧(∀j x,j<i→ids[j]? =some x→badId x=false)∧wr=W1) (fun vi _=>n - (intOf vi).toNat)
 case atStart=>exact ⟨0,Nat.zero_le _,rfl,fun j x hj=>by omega,rfl⟩
 case round=>
  obtain ⟨i,hi,rfl,hj,rfl⟩:=hrel;have HJ:=Bas.hid hj;clear hj;by_cases hin:i<n
  ·have e1:decide ((i:Int)<(n:Int))=true:=by simp;omega
   have e2:decide (i<n)=true:=by simp;omega
   obtain ⟨x,hx⟩:∃x,ids[i]? =some x:=⟨_,List.getElem?_eq_getElem (by rw [HN.out];exact hin)⟩
   obtain ⟨bo,o,rfl,hc⟩:=leads_int HL.out hx;have HX:=Bas.hid hx;clear hx;by_cases hx0:x<0
   ·have f1:decide (x<0)=true:=by simpa using hx0
    obtain rfl:m=1:=by rw [←HM.out];exact check_bad (by omega) (by rw [HN.out];exact hbig) HX.out (by unfold badId;rw [f1];rfl)
    go_wp2_with (fail);go_ret;exact ⟨rfl,HB.out⟩
   ·have f1:decide (x<0)=false:=by simpa using hx0
    by_cases hx5:65535≤x
    ·have f2:decide (x≥65535)=true:=by simpa using hx5
     have f3:decide (65535≤x)=true:=by simpa using hx5
     have f4:decide (x>65534)=true:=by simp;omega
     have f5:decide (65534<x)=true:=by simp;omega
     obtain rfl:m=1:=by rw [←HM.out];exact check_bad (by omega) (by rw [HN.out];exact hbig) HX.out (by unfold badId;rw [f3,Bool.or_true])
     go_wp2_with (fail);go_ret;exact ⟨rfl,HB.out⟩
    ·have f2:decide (x≥65535)=false:=by simpa using hx5
     have f3:decide (65535≤x)=false:=by simpa using hx5
     have f4:decide (x>65534)=false:=by simp;omega
     have f5:decide (65534<x)=false:=by simp;omega
     have HJ2:Hid (∀j y,j<i+1→ids[j]? =some y→badId y=false):=fun j y hj hy=>by
      by_cases hji:j=i
      ·subst hji;rw [HX.out] at hy;cases hy;unfold badId;rw [f1,f3];rfl
      ·exact HJ.out j y (by omega) hy
     go_wp2_with (fail);go_roundw
     case rel=>exact ⟨i+1,by omega,by go_num,HJ2.out,trivial⟩
     case measure=>simp [intOf];omega
  ·obtain rfl:n=i:=by omega
   have e1:decide ((n:Int)<(n:Int))=false:=by simp
   obtain rfl:m=0:=by rw [←HM.out];exact check_ok (by omega) (by rw [HN.out];exact hbig) (fun j x hj hx=>HJ.out j x (by rw [←HN.out];exact hj) hx)
   go_wp2_with (fail);go_ret;exact ⟨rfl,HB.out⟩
end Sh
namespace Pl
section
variable {P:Program} {ops:Array Oper} {md:Region.Mode} {Q:Exit→Act→World→Prop} {S:World→Prop} {late:List Nat}
def planP(md:Region.Mode)(ops:Array Oper)(late:List Nat)(base:Array Bool→Bool):List Nat→Array Bool→Bool
 |[],listed=>base listed
 |i::r,listed=>(Region.ready md ops listed).contains i&&Region.free md ops listed i&&
  (match ops[i]? with
   |none=>false
   |some o=>(valueOp o||callOp o)&&(pureOp o||late.all fun j=>waitsT md ops ops.size j i))&&planP md ops late base r (listed.setIfInBounds i true)
def walkK(P:Program)(ops:Array Oper)(S:World→Prop)(K:Act→World→Prop):List Nat→Act→World→Prop
 |[],a,w=>K a w
 |i::r,a,w=>∃oi v,ops[i]? =some oi∧YieldsC P ops S oi v a∧walkK P ops S K r (a.put oi.dst v) w
theorem wpAnyF_prefix(base:Array Bool→Bool)(K:Act→World→Prop)(m:Nat)(hsel:Region.noSelect ops=true)(hQ:∀c a d v w,Q (.panic c) (Act.put a d v) w→Q (.panic c) a w)(hne:∃w,S w)
  (hb:∀(listed:Array Bool) (a:Act) (w:World),Closed md ops listed→base listed=true→((∀j∈late,listed.getD j true=false)→S w)→K a w→wpAnyF P md ops Q S late m listed a w):
  ∀(plan:List Nat) (listed:Array Bool) (a:Act) (w:World),Closed md ops listed→planP md ops late base plan listed=true→
   ((∀j∈late,listed.getD j true=false)→S w)→walkK P ops S K plan a w→wpAnyF P md ops Q S late (plan.length+m) listed a w
 |[],listed,a,w,inv,hB,hS,h=>by
  rw [List.length_nil,Nat.zero_add];exact hb listed a w inv hB hS h
 |i::r,listed,a,w,inv,hB,hS,h=>by
  obtain ⟨oi,v,ho,hy,hr⟩:=h;simp only [planP,ho,Bool.and_eq_true,Bool.or_eq_true] at hB;obtain ⟨⟨⟨h1,h2⟩,h3,h4⟩,h5⟩:=hB;have hri:i∈Region.ready md ops listed:=by simpa using h1
  have hiun:=(mem_ready.1 hri).1;have key:=wpAnyF_prefix base K m hsel hQ hne hb r (listed.setIfInBounds i true) (a.put oi.dst v) w (inv.set hri) h5 (fun hl=>hS (fun j hj=>by
   by_cases hji:i=j
   ·subst hji;exact hiun
   ·have:=hl j hj;rwa [getD_set_ne true hji] at this)) hr
  have hlen:(i::r).length+m=(r.length+m)+1:=by rw [List.length_cons];omega
  rw [hlen];rcases h4 with h4|h4
  ·exact wpAnyF_first ho (Region.noSelect_spec hsel) hQ _ _ _ _ inv (Region.free_spec ho h2) hri (yields_pure h4 hne hy) (.inl fun _=>trivial) key
  ·have h6:∀j∈late,waitsT md ops ops.size j i=true:=by simpa [List.all_eq_true] using h4
   have hSw:S w:=hS fun j hj=>by
    cases hl:listed.getD j true with
    |false=>rfl
    |true=>
     exfalso;have hjs:j<listed.size:=by
      rw [inv.1];rcases Nat.lt_or_ge j ops.size with h|h
      ·exact h
      ·exfalso;have:=h6 j hj;cases hz:ops.size with
       |zero=>rw [hz] at this;cases this
       |succ m=>
        rw [hz] at this;unfold waitsT at this;rw [Array.getElem?_eq_none h] at this;cases this
     have hl':listed.getD j false=true:=by simp [hjs] at hl ⊢;exact hl
     exact not_both hiun (waitsT_listed inv _ j hl' (h6 j hj))
   exact wpAnyF_first ho (Region.noSelect_spec hsel) hQ _ _ _ _ inv (Region.free_spec ho h2) hri hy (.inr ⟨rfl,hSw,h6⟩) key
def baseC(md:Region.Mode)(ops:Array Oper)(i j:Nat)(r:List (Bool×Nat))(listed:Array Bool):Bool:=
 decide (Region.ready md ops listed=[i,j])&&planB md ops [] ((false,j)::r) (listed.setIfInBounds i true)&&planB md ops [] ((false,i)::r) (listed.setIfInBounds j true)
theorem region_choice{id:Nat}{a:Act}{w:World}{l:List Oper}{I:Type}{F:I→World}(i0:I)(c:List Nat)(i j:Nat)(r:List (Bool×Nat))(hm:P.follows .mixedOrders=true)
  (hB:(Region.noSelect l.toArray&&decide (c.length+(r.length+1+1)=l.length)&&planP .any l.toArray [] (baseC .any l.toArray i j r) c (Array.replicate l.toArray.size false))=true)
  (hQ:∀c a a' w,Act.defers a=Act.defers a'→Q (.panic c) a w→Q (.panic c) a' w) (h0:w.drew=F i0)
  (h:walkK P l.toArray (fun w=>∃i,w=F i) (fun a w=>walkM P l.toArray Q (fun w=>∃i,w=F i) [] ((false,i)::(false,j)::r) a w∧walkM P l.toArray Q (fun w=>∃i,w=F i) [] ((false,j)::(false,i)::r) a w) c a (F i0)):(Code.region id l.toArray true).wp P Q a w:=by
 simp only [Bool.and_eq_true,decide_eq_true_eq] at hB;obtain ⟨⟨hs,hl⟩,hB⟩:=hB;have hQ':∀c a d v w,Q (.panic c) (Act.put a d v) w→Q (.panic c) a w:=fun c a d v w=>hQ c _ _ w (put_defers a d v)
 have hne:∃w,(fun w=>∃i,w=F i) w:=⟨F i0,i0,rfl⟩
 refine wp_region_any hm ?_;change wpAny P .any l.toArray Q _ _ a w.drew;rw [h0];have H:=wpAnyF_prefix (md:=.any) (late:=[]) (S:=fun w=>∃i,w=F i) (baseC .any l.toArray i j r) _ (r.length+1+1) hs hQ' hne (fun listed a w inv hb hS hK=>by
  simp only [baseC,Bool.and_eq_true,decide_eq_true_eq] at hb;obtain ⟨⟨hr,hb1⟩,hb2⟩:=hb;have hSw:=hS (fun _ h=>by cases h)
  refine ⟨fun h=>(by rw [h] at hr;cases hr),fun q hq=> ?_⟩
  have hq':=hq;rw [hr] at hq';simp only [List.mem_cons,List.not_mem_nil,or_false] at hq';rcases hq' with rfl|rfl
  ·refine wpOp_mono (fun a' w' h'=>⟨h'.1, ?_⟩) hK.1
   exact wpAnyF_of_plan hs hQ' hne ((false,j)::r) _ a' w' (inv.set hq) hb1 (fun _=>h'.1 (by simp) hSw) h'.2
  ·refine wpOp_mono (fun a' w' h'=>⟨h'.1, ?_⟩) hK.2
   exact wpAnyF_of_plan hs hQ' hne ((false,i)::r) _ a' w' (inv.set hq) hb2 (fun _=>h'.1 (by simp) hSw) h'.2) c (Array.replicate l.toArray.size false) a (F i0)
  ⟨by simp,fun j oj _ hl=>(by rw [getD_replicate_false] at hl;cases hl)⟩ hB (fun _=>⟨i0,rfl⟩) h
 have:=wpAny_of_F _ _ _ _ H;rw [hl] at this;simpa using this
end
section
variable {P:Program} {ops:Array Oper}
theorem walkK_quiet{I:Type}{F:I→World}(w0:World){K:Act→World→Prop}(c:List Nat)(l:List Oper)(a:Act)(hl:fits ops (c.map fun i=>(true,i)) l)(hv:valuesB (c.map fun i=>(true,i)) l=true)
  (h:wpQuiet P ops (fun w=>∃i,w=F i) (fun a'=>K a' w0) l a):walkK P ops (fun w=>∃i,w=F i) K c a w0:=by
 induction c generalizing l a with
 |nil=>
  cases l with
  |nil=>exact h
  |cons o l=>exact hl.elim
 |cons n c ih=>
  cases l with
  |nil=>exact hl.elim
  |cons o l=>
   obtain ⟨ho,hl⟩:=hl;simp only [List.map_cons,valuesB,Bool.and_eq_true,Bool.or_eq_true,Bool.not_eq_true'] at hv;obtain ⟨hv0,hv⟩:=hv;have hq:qOp P ops (fun w=>∃i,w=F i) n (wpQuiet P ops (fun w=>∃i,w=F i) (fun a'=>K a' w0) l) a:=by unfold qOp;simp only [ho];exact h
   obtain ⟨v,hy,hk⟩:=yieldsIn_of_qOp ho hq;refine ⟨o,v,ho, ?_,ih l _ hl hv hk⟩;rcases hy with ⟨hw,hy⟩|hy
   ·refine .inl ⟨hw,fun w hS=> ?_⟩
    have h1:=hy w hS;have hvo:valueOp o=true:=by simpa using hv0
    unfold Oper.quietAt at h1;generalize hr:(execOp a.eval o).run P w=r at h1;cases r with
    |ok n w'=>
     obtain ⟨u,rfl⟩:=value_run hvo hr;obtain ⟨rfl,rfl⟩:=h1;exact ⟨rfl,rfl⟩
    |halt x w'=>exact h1.elim
   ·exact .inr hy
theorem headK{I:Type}{F:I→World}{w0:World}{K:Act→World→Prop}{l:List Oper}{a:Act}(c:List Nat)(hB:okB l (c.map fun i=>(true,i))=true)
  (h:wpQuiet P l.toArray (fun w=>∃i,w=F i) (fun a'=>K a' w0) (sel l (c.map fun i=>(true,i))) a):walkK P l.toArray (fun w=>∃i,w=F i) K c a w0:=
 walkK_quiet w0 c _ a (fits_sel hB).1 (fits_sel hB).2 h
end
theorem fam_of(w:World)(Q:World→Prop)(h:Q w.drew):∃(I:Type) (F:I→World) (i0:I),w.drew=F i0∧(∀i,Q (F i))∧∀u:World,Q u→∃j,u=F j:=
 ⟨{ u:World // Q u },fun i=>i.1,⟨w.drew,h⟩,rfl,fun i=>i.2,fun u h=>⟨⟨u,h⟩,rfl⟩⟩
end Pl
namespace Dr
open Ch Lk St Ln
end Dr
namespace Sh
open Fo Ln Pc
structure Bx (w u:World) (T:Nat) (J FO:Obj):Prop where
 bel:Below T w u
 job:u.heap[T]? =some J
 flt:u.heap[T+1]? =some FO
theorem Bx.mod{w u u':World}{T:Nat}{J FO:Obj}{S:Nat→Prop}(h:Bx w u T J FO)(hm:Mod S u u')(hS:∀k,S k→T+2≤k):Bx w u' T J FO:=by
 have l1:=heap_lt h.flt;exact ⟨hm.below h.bel (fun i hi=>by have:=hS i hi;omega) (by omega),hm.heap h.job (fun hs=>by have:=hS _ hs;omega),hm.heap h.flt (fun hs=>by have:=hS _ hs;omega)⟩
theorem Bx.on{w u u':World}{T:Nat}{J FO:Obj}(h:Bx w u T J FO)(hb:Below u.heap.size u u'):Bx w u' T J FO:=h.mod (S:=fun _=>False) (Mod.of_below hb) (fun _ h=>h.elim)
theorem Bx.old{w u:World}{T:Nat}{J FO o:Obj}{b:Nat}(h:Bx w u T J FO)(hT:w.heap.size=T)(hb:w.heap[b]? =some o):u.heap[b]? =some o:=(h.bel.block b (by have:=heap_lt hb;omega)).trans hb
theorem Bx.lt{w u:World}{T:Nat}{J FO:Obj}(h:Bx w u T J FO):T+2≤u.heap.size:=heap_lt h.flt
theorem infoOut:(Tryz.prog.info? 82).map (fun i=>(i.zero,i.size,i.bytes))=some (some (.agg #[.int .i64 0,.int .i64 0,.int .i32 0,.int .i32 0,.int .i32 0]),5,32):=by kernel_rfl
def outC(o:Gl×Pl):List Value:=[.int .i64 o.1.1,.int .i64 o.1.2,.int .i32 o.2.a,.int .i32 o.2.x,.int .i32 o.2.y]
theorem outC_len(o:Gl×Pl):(outC o).length=5:=rfl
def alongN(t:Int)(i:Nat)(ps:List Pl):List Pl:=(List.range i).foldl (fun q (k:Nat)=>along q (k:Int) t) ps
theorem alongN_succ(t:Int)(i:Nat)(ps:List Pl):alongN t (i+1) ps=along (alongN t i ps) (i:Int) t:=by
 unfold alongN;rw [List.range_succ,List.foldl_append];rfl
theorem alongN_len(t:Int)(i:Nat)(ps:List Pl):(alongN t i ps).length=ps.length:=by
 induction i with
 |zero=>rfl
 |succ i ih=>rw [alongN_succ];unfold along;rw [upd_len,ih]
theorem place_cells{w:World}{base n:Nat}{sv:Value}{ps:List Pl}(h:w.ownsRow base 80 3 sv n (ps.flatMap plC)){k:Nat}{p:Pl}(hx:ps[k]? =some p):
  ∃bo cp,sv=.slice (some ⟨bo,0,none⟩) n cp∧bo<w.heap.size∧w.cell? ⟨bo,k*3,none⟩=some (.int .i32 p.a)∧w.cell? ⟨bo,k*3+1,none⟩=some (.int .i32 p.x)∧w.cell? ⟨bo,k*3+2,none⟩=some (.int .i32 p.y):=by
 have hL:=Row.leads_elem plC_len (Row.leads_owned h) hx (by omega)
 obtain ⟨hlen,⟨h2,h3⟩|⟨bo,cap,cur,hv,hb,hh,hc,hm,hs,ht⟩⟩:=h
 ·have h4:=plC_flat ps;rw [h3] at hlen;have:=(List.getElem?_eq_some_iff.1 hx).1;omega
 ·obtain ⟨b2,o2,c2,hv2,hcell⟩:=hL;rw [hv] at hv2;cases hv2;exact ⟨bo,cap,hv,heap_lt hh,by simpa using hcell 0 _ rfl,by simpa using hcell 1 _ rfl,by simpa using hcell 2 _ rfl⟩
abbrev jobO(s1:Option Addr)(s2 s3:Nat)(d z:Int)(a:Option Addr)(n cap:Nat):Obj:=.cells #[.slice s1 s2 s3,.int .i64 d,.int .i32 z,.slice a n cap] 26
abbrev fltO:Obj:=.cells #[.int .i64 0,.int .i64 0,.int .i64 0] 74
abbrev zeroV:Value:=.agg #[.int .i64 0,.int .i64 0,.int .i64 0]
theorem lnTo_keep{u u':World}{B lg Tb:Nat}{lsv:Value}{xs:List Gl}(hL:LineAt u B lg lsv xs)(hT:u.heap[Tb]? =some fltO)(hm:Mod (Ln.blk lg lsv) u u'):u'.heap[Tb]? =some fltO:=
 hm.heap hT (fun h=>by
  rcases h with rfl|h
  ·rw [hL.head] at hT;cases hT
  ·exact own_ty hL.own hT (by decide) h)
theorem both_keep{u u':World}{B lg B2 pg Tb:Nat}{dn:Bool}{lsv psv:Value}{xs:List Gl}{ps:List Pl}(hL:LineAt u B lg lsv xs)(hP:PlsAt u B2 pg dn psv ps)(hT:u.heap[Tb]? =some fltO)(hm:Mod (fun k=>Ln.blk lg lsv k∨Pc.blk pg psv k) u u'):u'.heap[Tb]? =some fltO:=
 hm.heap hT (fun h=>by
  rcases h with (rfl|h)|(rfl|h)
  ·rw [hL.head] at hT;cases hT
  ·exact own_ty hL.own hT (by decide) h
  ·rw [hP.head] at hT;cases hT
  ·exact own_ty hP.own hT (by decide) h)
theorem line_one{u u':World}{B lg Tb:Nat}{lsv:Value}{xs:List Gl}(hL:LineAt u B lg lsv xs)(hT:u.heap[Tb]? =some fltO)(hm:Mod (fun k=>k=Tb) u u'):LineAt u' B lg lsv xs:=
 hL.mod hm (fun k hk e=>by
  subst e;rcases hk with rfl|h
  ·rw [hL.head] at hT;cases hT
  ·exact own_ty hL.own hT (by decide) h)
theorem pls_one{u u':World}{B pg Tb:Nat}{dn:Bool}{psv:Value}{ps:List Pl}(hL:PlsAt u B pg dn psv ps)(hT:u.heap[Tb]? =some fltO)(hm:Mod (fun k=>k=Tb) u u'):PlsAt u' B pg dn psv ps:=
 hL.mod hm (fun k hk e=>by
  subst e;rcases hk with rfl|h
  ·rw [hL.head] at hT;cases hT
  ·exact own_ty hL.own hT (by decide) h)
theorem flt_set{u:World}{Tb:Nat}(hT:u.heap[Tb]? =some fltO):((((u.setCell ⟨Tb,0,none⟩ (.int .i64 0)).setCell ⟨Tb,1,none⟩ (.int .i64 0)).setCell ⟨Tb,2,none⟩ (.int .i64 0)).heap[Tb]? =some fltO)∧Mod (fun k=>k=Tb) u (((u.setCell ⟨Tb,0,none⟩ (.int .i64 0)).setCell ⟨Tb,1,none⟩ (.int .i64 0)).setCell ⟨Tb,2,none⟩ (.int .i64 0)):=by
 have h1:=heap_set (i:=0) hT (.int .i64 0);have h2:=heap_set (i:=1) h1 (.int .i64 0);have h3:=heap_set (i:=2) h2 (.int .i64 0);exact ⟨h3,(((Mod.refl (fun k=>k=Tb) u).set _ (.inl rfl)).set _ (.inl rfl)).set _ (.inl rfl)⟩
theorem shape_ok(gf gw:Nat)(fv vm vk va vt:Value)(baseW g m:Nat)(dd:List Int)(s1:Option Addr)(s2 s3:Nat)(d z:Int)(a:Option Addr)(n cap:Nat)(ids:List Int)(ys:List Gl)(ps1:List Pl)(t:Int)(dn:Bool)(SetP:Value→World→Prop)(w:World)
  (hf:w.heap[gf]? =some (.cells #[.pointer (some ⟨gw,0,none⟩),fv,vm,vk,va,vt] 204 (0,0))) (hw:IsW w baseW gw g m dd) (hd:dd.length=4*m+2*(g - m)) (hm1:1≤m) (hmg:m≤g) (hgb:g≤65535)
  (hl:Row.Leads w (.slice a n cap) n (ids.map (Value.int .i64))) (hn:ids.length=n) (hck:checkN d ids=0) (hn2:n≤65536) (hdn:(d==2)=dn) (hys:ys.length≤4000000) (hps:ps1.length=ys.length)
  (hSB:∀sv u u',SetP sv u→Below u.heap.size u u'→SetP sv u')
  (hS:∀u,Below w.heap.size w u→Calls Tryz.prog 69 #[.slice s1 s2 s3,fv] u fun e u'=>∃sv,e=.returned sv∧SetP sv u'∧Below u.heap.size u u')
  (hM:∀u B lg lsv stv,Below w.heap.size w u→w.heap.size≤B→LineAt u B lg lsv (lnNew ids)→SetP stv u→Calls Tryz.prog 70 #[vm,.pointer (some ⟨lg,0,none⟩),stv,.int .i64 d,.int .i64 (32*(n:Int)+1024)] u fun e u'=>e=.returned zeroV∧LnTo u B lg lsv ys u')
  (hK:∀u B lg lsv B2 pg psv,Below w.heap.size w u→w.heap.size≤B→w.heap.size≤B2→LineAt u B lg lsv ys→PlsAt u B2 pg dn psv (plNew (advsOf g m dd dn ys))→Calls Tryz.prog 73 #[vk,.pointer (some ⟨lg,0,none⟩),.pointer (some ⟨pg,0,none⟩),.int .i64 d,va] u fun e u'=>e=.returned zeroV∧LineAt u' B lg lsv ys∧PlsAt u' B2 pg dn psv ps1∧Mod (fun k=>Ln.blk lg lsv k∨Pc.blk pg psv k) u u')
  (hT:∀u,Below w.heap.size w u→Calls Tryz.prog 74 #[vt,.int .i64 d,.int .i32 z] u fun e u'=>e=.returned (.int .i64 t)∧Below u.heap.size u u'):
  Calls Tryz.prog 29 #[.pointer (some ⟨gf,0,none⟩),.agg #[.slice s1 s2 s3,.int .i64 d,.int .i32 z,.slice a n cap]] w fun e w'=>∃v,e=.returned (.tuple #[v,zeroV])∧Below w.heap.size w w'∧w'.ownsRow w.heap.size 82 5 v ys.length ((ys.zip (alongN t ys.length ps1)).flatMap outC):=by
 obtain ⟨T,hT0⟩:∃T,w.heap.size=T:=⟨_,rfl⟩;have hbx:Bx w ((w.alloc (jobO s1 s2 s3 d z a n cap)).alloc fltO) T (jobO s1 s2 s3 d z a n cap) fltO:=by
  have hb1:=((Below.refl w.heap.size w).alloc (Nat.le_refl _) (jobO s1 s2 s3 d z a n cap));have hb2:=hb1.alloc hb1.size fltO;refine ⟨hT0▸hb2, ?_, ?_⟩
  ·rw [←hT0];exact (Below.heap_alloc _ _ _ (by rw [World.size_alloc];omega)).trans (Bas.heap_new _ _)
  ·rw [←hT0,←World.size_alloc w (jobO s1 s2 s3 d z a n cap)];exact Bas.heap_new _ _
 have HT0:=Bas.hid hT0;rw [hT0] at hS hM hK hT ⊢;obtain ⟨N,hN⟩:∃N,ys.length=N:=⟨_,rfl⟩;have HNY:=Bas.hid hN;have HNP:Hid (ps1.length=N):=hps.trans hN;rw [hN] at hys ⊢;obtain ⟨qs,hqs⟩:∃qs,alongN t N ps1=qs:=⟨_,rfl⟩;have HQL:Hid (qs.length=N):=by unfold Hid;rw [←hqs,alongN_len];exact HNP.out
 have HQS:=Bas.hid hqs;rw [hqs];have HF:=Bas.hid hf;have HW:=Bas.hid hw;have HDD:=Bas.hid hd;have HL:=Bas.hid hl;have HN:=Bas.hid hn;have HCK:=Bas.hid hck;have HDN:=Bas.hid hdn;have HSB:=Bas.hid hSB;have HS:=Bas.hid hS;have HM:=Bas.hid hM;have HK:=Bas.hid hK;have HTV:=Bas.hid hT;have HBX:=Bas.hid hbx;have lf:gf<T:=by rw [←hT0];exact heap_lt hf
 clear hf hw hd hl hn hck hdn hSB hS hM hK hT hbx hT0 hps hN hqs;go_enter Tryz.func29,Tryz.ntmps29
 go_wp2_with (fail);rw [HT0.out];generalize (w.alloc (jobO s1 s2 s3 d z a n cap)).alloc fltO=W2 at*;have j0:=cell_of_heap (i:=0) (v:=.slice s1 s2 s3) HBX.out.job rfl;have j1:=cell_of_heap (i:=1) (v:=.int .i64 d) HBX.out.job rfl;have j2:=cell_of_heap (i:=2) (v:=.int .i32 z) HBX.out.job rfl;have j3:=cell_of_heap (i:=3) (v:=.slice a n cap) HBX.out.job rfl;have lT:=heap_lt HBX.out.job;have HCH:=Bas.hid (check_any s1 s2 s3 d z a n cap ids W2 (Row.leads_below HL.out (by rw [HT0.out];exact HBX.out.bel)) HN.out)
 rw [HCK.out] at HCH;go_wp2_with (fail);refine HCH.out.mono ?_;rintro e w3 ⟨rfl,hb3⟩;have HB3:=Bas.hid (HBX.out.on hb3);clear hb3 j0 j1 j2 j3 lT HCH HBX;have j3:=cell_of_heap (i:=3) (v:=.slice a n cap) HB3.out.job rfl;have lT:=heap_lt HB3.out.job;have HLN:=Bas.hid (new_any (.slice a n cap) ids n w3 (Row.leads_below HL.out (by rw [HT0.out];exact HB3.out.bel)) HN.out (by omega))
 go_wp2_with (fail);refine HLN.out.mono ?_;rintro e w4 ⟨rfl,hb4,lsv,hL4⟩;have HLA4:=Bas.hid hL4;have HB4:=Bas.hid (HB3.out.on hb4);have hLB:=HB3.out.lt;generalize w3.heap.size=LB at*;clear hb4 hL4 j3 lT HB3 HLN;have j0:=cell_of_heap (i:=0) (v:=.slice s1 s2 s3) HB4.out.job rfl;have lT:=heap_lt HB4.out.job;have kf4:=HB4.out.old HT0.out HF.out;have f1:=cell_of_heap (i:=1) (v:=fv) kf4 rfl;have lf4:=heap_lt kf4;clear kf4;go_wp2_with (fail);refine' Pl.region_v0 119 [] [0,1,2,3,4,5] [6,7] _ (by kernel_rfl) (by kernel_rfl) (by simp) (fun _ _ _ _ e h=>⟨e▸h.1,h.2⟩) ?_ ?_
 rotate_left
 ·intro I F hI hF;simp only [Pl.selN,List.nil_append,List.drop_succ_cons,List.drop_zero];have t0:=fun i=>hF.cell lT j0 i
  have t1:=fun i=>hF.cell lf4 f1 i
  repeat (go_big_quiet_step (fail))
  refine wpQuiet_nil ?_;rfl
 intro w5 hw5;simp only [Pl.selN,List.drop_succ_cons,List.drop_zero];have HB5:=Bas.hid (HB4.out.on hw5);have HLA5:=Bas.hid (HLA4.out.below hw5);clear hw5 HB4 HLA4 j0 lT f1 lf4;go_wp2_with (fail);refine (HS.out w5 HB5.out.bel).mono ?_;rintro e w6 ⟨stv,rfl,hsp,hb6⟩;have HB6:=Bas.hid (HB5.out.on hb6);have HLA6:=Bas.hid (HLA5.out.below hb6);have HSP:=Bas.hid hsp;clear hb6 HB5 HLA5 hsp;go_wp2_with (fail);obtain ⟨RI,RF,Ri,RF0,RFk,RFw⟩:=Pl.fam_of w6 (fun u=>u.heap[T]? =some (jobO s1 s2 s3 d z a n cap)∧u.heap[gf]? =some (.cells #[.pointer (some ⟨gw,0,none⟩),fv,vm,vk,va,vt] 204 (0,0))) ⟨HB6.out.job,HB6.out.old HT0.out HF.out⟩
 have RFH:=Bas.hid RF0;have RhI:Nonempty RI:=⟨Ri⟩;have RFW:=Bas.hid RFw;have t1:=fun i=>cell_of_heap (i:=1) (v:=.int .i64 d) (RFk i).1 rfl
 have t3:=fun i=>cell_of_heap (i:=3) (v:=.slice a n cap) (RFk i).1 rfl
 have t2:=fun i=>cell_of_heap (i:=2) (v:=vm) (RFk i).2 rfl
 clear RF0 RFw RFk;refine Pl.region_choice Ri [0,1,2,3,4,5,6,7,8,9,10,11,12] 13 14 [(false,15)] (by kernel_rfl) (by kernel_rfl) (fun _ _ _ _ e h=>⟨e▸h.1,h.2⟩) RFH.out ?_
 refine Pl.headK [0,1,2,3,4,5,6,7,8,9,10,11,12] (by kernel_rfl) ?_
 simp only [Pl.sel,List.drop_succ_cons,List.drop_zero,List.map_cons,List.map_nil];repeat (go_big_quiet_step (fail))
 refine wpQuiet_nil ?_;rw [←RFH.out];clear t1 t2 t3;refine ⟨?ord1, ?ord2⟩
 case' ord1=>
  refine Pl.one_sel (by kernel_rfl) ?_
  intro Q' hQ' hP';simp only [Pl.sel,List.drop_succ_cons,List.drop_zero];go_wp2_with (fail);have hbd:=Bas.below_drewN (Below.refl w6.heap.size w6) 1;have HB7:=Bas.hid (HB6.out.on hbd);have HLA7:=Bas.hid (HLA6.out.below hbd);have HM7:=Bas.hid (HM.out _ LB LB lsv stv HB7.out.bel (by omega) HLA7.out (HSB.out _ _ _ HSP.out hbd))
  clear hbd HLA6 HB6 HSP;refine HM7.out.mono ?_;rintro e w8 ⟨rfl,lsv8,hL8,hm8,hq8⟩;have HB8:=Bas.hid (HB7.out.mod hm8 (fun k hk=>Nat.le_trans hLB (HLA7.out.blk_low k hk).1))
  have hb9:=(Below.refl w8.heap.size w8).alloc (Nat.le_refl _) fltO;have HX:=Bas.hid (HB8.out.on hb9);have HLA:=Bas.hid (hL8.below hb9);have HKF:Hid ((w8.alloc fltO).heap[w8.heap.size]? =some fltO∧T+2≤w8.heap.size):=⟨Bas.heap_new _ _,HB8.out.lt⟩;clear hL8 hm8 hq8 HM7 HLA7 HB7 hb9;go_wp2_with (fail);refine hQ' _ _ (fun _ _=>RFW.out _ ⟨HB8.out.job,HB8.out.old HT0.out HF.out⟩) ?_
  clear hQ' hP' Q';refine Pl.one_sel (by kernel_rfl) ?_
  intro Q' hQ' hP';simp only [Pl.sel,List.drop_succ_cons,List.drop_zero];go_wp2_with (fail);refine hQ' _ _ (fun _ _=>RFW.out _ ⟨HX.out.job,HX.out.old HT0.out HF.out⟩) ?_
  clear hQ' hP' Q' HB8;generalize w8.alloc fltO=W at*;generalize w8.heap.size=Tb at*
 case' ord2=>
  have hb9:=((Below.refl w6.heap.size w6).alloc (Nat.le_refl _) fltO).drew;have HB7:=Bas.hid (HB6.out.on hb9);have HLA7:=Bas.hid (HLA6.out.below hb9);have HM7:=Bas.hid (HM.out _ LB LB lsv stv HB7.out.bel (by omega) HLA7.out (HSB.out _ _ _ HSP.out hb9))
  have HK7:Hid ((w6.alloc fltO).drew.heap[w6.heap.size]? =some fltO∧T+2≤w6.heap.size):=⟨Bas.heap_new _ _,HB6.out.lt⟩;clear hb9 HLA6 HB6 HSP;refine Pl.one_sel (by kernel_rfl) ?_
  intro Q' hQ' hP';simp only [Pl.sel,List.drop_succ_cons,List.drop_zero];go_wp2_with (fail);refine hQ' _ _ (fun _ _=>RFW.out _ ⟨HB7.out.job,HB7.out.old HT0.out HF.out⟩) ?_
  clear hQ' hP' Q';refine Pl.one_sel (by kernel_rfl) ?_
  intro Q' hQ' hP';simp only [Pl.sel,List.drop_succ_cons,List.drop_zero];generalize (w6.alloc fltO).drew=W7 at*;generalize w6.heap.size=Tb at*;go_wp2_with (fail);refine HM7.out.mono ?_;rintro e W ⟨rfl,lsv8,hL8,hm8,hq8⟩;have HX:=Bas.hid (HB7.out.mod hm8 (fun k hk=>Nat.le_trans hLB (HLA7.out.blk_low k hk).1))
  have HLA:=Bas.hid hL8;have HKF:Hid (W.heap[Tb]? =some fltO∧T+2≤Tb):=⟨lnTo_keep HLA7.out HK7.out.1 hm8,HK7.out.2⟩;clear hL8 hm8 hq8 HM7 HLA7 HB7 HK7;go_wp2_with (fail);refine hQ' _ _ (fun _ _=>RFW.out _ ⟨HX.out.job,HX.out.old HT0.out HF.out⟩) ?_
  clear hQ' hP' Q'
 all_goals
  refine Pl.one_sel (by kernel_rfl) ?_
  intro Q' hQ' hP';simp only [Pl.sel,List.drop_succ_cons,List.drop_zero];have z0:=cell_of_heap (i:=0) (v:=.int .i64 0) HKF.out.1 rfl;have z1:=cell_of_heap (i:=1) (v:=.int .i64 0) HKF.out.1 rfl;have z2:=cell_of_heap (i:=2) (v:=.int .i64 0) HKF.out.1 rfl;have y0:=free_of_heap (i:=0) HKF.out.1;have y1:=free_of_heap (i:=1) HKF.out.1;have y2:=free_of_heap (i:=2) HKF.out.1;have lb:=heap_lt HKF.out.1;go_wp2_with (fail);have hfs:=flt_set HKF.out.1;have HX10:=Bas.hid (HX.out.mod hfs.2 (fun k hk=>by subst hk;exact HKF.out.2))
  have HLA10:=Bas.hid (line_one HLA.out HKF.out.1 hfs.2);have hk10:=hfs.1;clear hfs z0 z1 z2 y0 y1 y2 lb HX HLA;generalize ((W.setCell ⟨Tb,0,none⟩ (.int .i64 0)).setCell ⟨Tb,1,none⟩ (.int .i64 0)).setCell ⟨Tb,2,none⟩ (.int .i64 0)=W10 at*;refine hQ' _ _ (fun _ _=>RFW.out _ ⟨HX10.out.job,HX10.out.old HT0.out HF.out⟩) ?_
  clear hQ' hP' Q' RFW RFH RhI Ri HKF;simp only [Pl.walkM];have c0:=cell_of_heap (i:=0) (v:=.int .i64 0) hk10 rfl;have lb:=heap_lt hk10;clear hk10;go_wp2_with (fail);clear c0 lb;have j1:=cell_of_heap (i:=1) (v:=.int .i64 d) HX10.out.job rfl;have lT:=heap_lt HX10.out.job;refine' Pl.region_v1 119 [] [0,1,2,3,4,5] 6 58 [7,8] _ (fun v u=>u.ownsRow W10.heap.size 3 1 v ys.length ((advsOf g m dd dn ys).map (Value.int .i64))) (by kernel_rfl) (by kernel_rfl) (by simp) (fun _ _ _ _ e h=>⟨e▸h.1,h.2⟩) ?_ ?_ ?_ ?_
  rotate_left
  ·intro I F hI hF;simp only [Pl.selN,List.nil_append,List.drop_succ_cons,List.drop_zero];have t0:=fun i=>hF.cell lT j1 i
   repeat (go_big_quiet_step (fail))
   refine wpQuiet_nil ?_;rfl
  ·exact fun _ _ _ h _ hu'=>Row.owned_below h hu'
  ·simp only [Pl.selN,List.drop_succ_cons,List.drop_zero,List.mem_singleton,forall_eq];intro u hu
   go_simp
   simp only [Pl.valsAt];have HU:=HX10.out.on hu;refine (advances_any gf gw fv vm vk va vt baseW g m dd d dn LB LB lsv8 ys u (HU.old HT0.out HF.out) (isW_below HW.out (HT0.out▸HU.bel)) HDD.out hm1 hmg hgb HDN.out (HLA10.out.below hu) (by rw [HNY.out];exact hys)).mono ?_
   rintro e w'' ⟨hb,v',rfl,ho⟩;exact .inl ⟨_,rfl,hb,Row.owned_base ho hu.size⟩
  intro v u hu hv;simp only [Pl.selN,List.drop_succ_cons,List.drop_zero,Act.put,List.setIfInBounds_toArray,List.set_cons_zero,List.set_cons_succ];have HX11:=Bas.hid (HX10.out.on hu);have HLA11:=Bas.hid (HLA10.out.below hu);have HNW:=Bas.hid (new_any d dn v (advsOf g m dd dn ys) ys.length u HDN.out (Row.leads_owned hv) (by simp [advsOf]) (by rw [HNY.out];omega))
  clear hu hv HX10 HLA10 j1 lT;go_wp2_with (fail);refine HNW.out.mono ?_;rintro e w12 ⟨rfl,hb12,psv,hP12⟩;have HX12:=Bas.hid (HX11.out.on hb12);have HLA12:=Bas.hid (HLA11.out.below hb12);have HPA12:=Bas.hid hP12;have hLP:=HX11.out.lt;have HNB:Hid (∀k,Pc.blk u.heap.size psv k→¬Ln.blk LB lsv8 k):=fun k hk hl=>by
   have h1:=(hP12.blk_low k hk).1;have h2:=(HLA11.out.blk_low k hl).2;omega
  generalize u.heap.size=PB at*;clear hb12 hP12 HX11 HLA11 HNW;go_wp2_with (fail);obtain ⟨RI,RF,Ri,RF0,RFk,RFw⟩:=Pl.fam_of w12 (fun u=>u.heap[T]? =some (jobO s1 s2 s3 d z a n cap)∧u.heap[gf]? =some (.cells #[.pointer (some ⟨gw,0,none⟩),fv,vm,vk,va,vt] 204 (0,0))) ⟨HX12.out.job,HX12.out.old HT0.out HF.out⟩
  have RFH:=Bas.hid RF0;have RhI:Nonempty RI:=⟨Ri⟩;have RFW:=Bas.hid RFw;have t1:=fun i=>cell_of_heap (i:=1) (v:=.int .i64 d) (RFk i).1 rfl
  have t2:=fun i=>cell_of_heap (i:=3) (v:=vk) (RFk i).2 rfl
  have t3:=fun i=>cell_of_heap (i:=4) (v:=va) (RFk i).2 rfl
  clear RF0 RFw RFk;refine Pl.region_choice Ri [0,1,2,3,4,5,6,7,8,9,10,11] 12 13 [(false,14)] (by kernel_rfl) (by kernel_rfl) (fun _ _ _ _ e h=>⟨e▸h.1,h.2⟩) RFH.out ?_
  refine Pl.headK [0,1,2,3,4,5,6,7,8,9,10,11] (by kernel_rfl) ?_
  simp only [Pl.sel,List.drop_succ_cons,List.drop_zero,List.map_cons,List.map_nil];repeat (go_big_quiet_step (fail))
  refine wpQuiet_nil ?_;rw [←RFH.out];clear t1 t2 t3;apply And.intro
  case' left=>
   refine Pl.one_sel (by kernel_rfl) ?_
   intro Q' hQ' hP';simp only [Pl.sel,List.drop_succ_cons,List.drop_zero];go_wp2_with (fail);have hbd:=Bas.below_drewN (Below.refl w12.heap.size w12) 1;have HB13:=Bas.hid (HX12.out.on hbd);have HL13:=Bas.hid (HLA12.out.below hbd);have HP13:=Bas.hid (HPA12.out.below hbd);have HK13:=Bas.hid (HK.out _ LB LB lsv8 PB PB psv HB13.out.bel (by omega) (by omega) HL13.out HP13.out)
   clear hbd HLA12 HPA12 HX12;refine HK13.out.mono ?_;rintro e w14 ⟨rfl,hL14,hP14,hm14⟩;have HB14:=Bas.hid (HB13.out.mod hm14 (fun k hk=>by
    rcases hk with hk|hk
    ·exact Nat.le_trans hLB (HL13.out.blk_low k hk).1
    ·exact Nat.le_trans hLP (HP13.out.blk_low k hk).1))
   have hb9:=(Below.refl w14.heap.size w14).alloc (Nat.le_refl _) fltO;have HX:=Bas.hid (HB14.out.on hb9);have HLA:=Bas.hid (hL14.below hb9);have HPA:=Bas.hid (hP14.below hb9);have HKF:Hid ((w14.alloc fltO).heap[w14.heap.size]? =some fltO∧T+2≤w14.heap.size):=⟨Bas.heap_new _ _,HB14.out.lt⟩;clear hL14 hP14 hm14 HK13 HL13 HP13 HB13 hb9;go_wp2_with (fail);refine hQ' _ _ (fun _ _=>RFW.out _ ⟨HB14.out.job,HB14.out.old HT0.out HF.out⟩) ?_
   clear hQ' hP' Q';refine Pl.one_sel (by kernel_rfl) ?_
   intro Q' hQ' hP';simp only [Pl.sel,List.drop_succ_cons,List.drop_zero];go_wp2_with (fail);refine hQ' _ _ (fun _ _=>RFW.out _ ⟨HX.out.job,HX.out.old HT0.out HF.out⟩) ?_
   clear hQ' hP' Q' HB14;generalize w14.alloc fltO=V at*;generalize w14.heap.size=Ub at*
  case' right=>
   have hb9:=((Below.refl w12.heap.size w12).alloc (Nat.le_refl _) fltO).drew;have HB13:=Bas.hid (HX12.out.on hb9);have HL13:=Bas.hid (HLA12.out.below hb9);have HP13:=Bas.hid (HPA12.out.below hb9);have HK13:=Bas.hid (HK.out _ LB LB lsv8 PB PB psv HB13.out.bel (by omega) (by omega) HL13.out HP13.out)
   have HK7:Hid ((w12.alloc fltO).drew.heap[w12.heap.size]? =some fltO∧T+2≤w12.heap.size):=⟨Bas.heap_new _ _,HX12.out.lt⟩;clear hb9 HLA12 HPA12 HX12;refine Pl.one_sel (by kernel_rfl) ?_
   intro Q' hQ' hP';simp only [Pl.sel,List.drop_succ_cons,List.drop_zero];go_wp2_with (fail);refine hQ' _ _ (fun _ _=>RFW.out _ ⟨HB13.out.job,HB13.out.old HT0.out HF.out⟩) ?_
   clear hQ' hP' Q';refine Pl.one_sel (by kernel_rfl) ?_
   intro Q' hQ' hP';simp only [Pl.sel,List.drop_succ_cons,List.drop_zero];generalize (w12.alloc fltO).drew=W13 at*;generalize w12.heap.size=Ub at*;go_wp2_with (fail);refine HK13.out.mono ?_;rintro e V ⟨rfl,hL14,hP14,hm14⟩;have HX:=Bas.hid (HB13.out.mod hm14 (fun k hk=>by
    rcases hk with hk|hk
    ·exact Nat.le_trans hLB (HL13.out.blk_low k hk).1
    ·exact Nat.le_trans hLP (HP13.out.blk_low k hk).1))
   have HLA:=Bas.hid hL14;have HPA:=Bas.hid hP14;have HKF:Hid (V.heap[Ub]? =some fltO∧T+2≤Ub):=⟨both_keep HL13.out HP13.out HK7.out.1 hm14,HK7.out.2⟩;clear hL14 hP14 hm14 HK13 HL13 HP13 HB13 HK7;go_wp2_with (fail);refine hQ' _ _ (fun _ _=>RFW.out _ ⟨HX.out.job,HX.out.old HT0.out HF.out⟩) ?_
   clear hQ' hP' Q'
  all_goals
   refine Pl.one_sel (by kernel_rfl) ?_
   intro Q' hQ' hP';simp only [Pl.sel,List.drop_succ_cons,List.drop_zero];have z0:=cell_of_heap (i:=0) (v:=.int .i64 0) HKF.out.1 rfl;have z1:=cell_of_heap (i:=1) (v:=.int .i64 0) HKF.out.1 rfl;have z2:=cell_of_heap (i:=2) (v:=.int .i64 0) HKF.out.1 rfl;have y0:=free_of_heap (i:=0) HKF.out.1;have y1:=free_of_heap (i:=1) HKF.out.1;have y2:=free_of_heap (i:=2) HKF.out.1;have lb:=heap_lt HKF.out.1;go_wp2_with (fail);have hfs:=flt_set HKF.out.1;have HX15:=Bas.hid (HX.out.mod hfs.2 (fun k hk=>by subst hk;exact HKF.out.2))
   have HLA15:=Bas.hid (line_one HLA.out HKF.out.1 hfs.2);have HPA15:=Bas.hid (pls_one HPA.out HKF.out.1 hfs.2);have hk15:=hfs.1;clear hfs z0 z1 z2 y0 y1 y2 lb HX HLA HPA;generalize ((V.setCell ⟨Ub,0,none⟩ (.int .i64 0)).setCell ⟨Ub,1,none⟩ (.int .i64 0)).setCell ⟨Ub,2,none⟩ (.int .i64 0)=W15 at*;refine hQ' _ _ (fun _ _=>RFW.out _ ⟨HX15.out.job,HX15.out.old HT0.out HF.out⟩) ?_
   clear hQ' hP' Q' RFW RFH RhI Ri HKF;simp only [Pl.walkM];have c0:=cell_of_heap (i:=0) (v:=.int .i64 0) hk15 rfl;have lb:=heap_lt hk15;clear hk15;go_wp2_with (fail);clear c0 lb;have j1:=cell_of_heap (i:=1) (v:=.int .i64 d) HX15.out.job rfl;have j2:=cell_of_heap (i:=2) (v:=.int .i32 z) HX15.out.job rfl;have lT:=heap_lt HX15.out.job;have kf4:=HX15.out.old HT0.out HF.out;have f5:=cell_of_heap (i:=5) (v:=vt) kf4 rfl;have lf4:=heap_lt kf4;clear kf4;refine' Pl.region_v0 119 [] [0,1,2,3,4,5,6,7] [8,9] _ (by kernel_rfl) (by kernel_rfl) (by simp) (fun _ _ _ _ e h=>⟨e▸h.1,h.2⟩) ?_ ?_
   rotate_left
   ·intro I F hI hF;simp only [Pl.selN,List.nil_append,List.drop_succ_cons,List.drop_zero];have t0:=fun i=>hF.cell lT j1 i
    have t1:=fun i=>hF.cell lT j2 i
    have t2:=fun i=>hF.cell lf4 f5 i
    repeat (go_big_quiet_step (fail))
    refine wpQuiet_nil ?_;rfl
   intro w16 hw16;simp only [Pl.selN,List.drop_succ_cons,List.drop_zero];have HX16:=Bas.hid (HX15.out.on hw16);have HLA16:=Bas.hid (HLA15.out.below hw16);have HPA16:=Bas.hid (HPA15.out.below hw16);clear hw16 HX15 HLA15 HPA15 j1 j2 lT f5 lf4;go_wp2_with (fail);refine (HTV.out w16 HX16.out.bel).mono ?_;rintro e w17 ⟨rfl,hb17⟩;have HX17:=Bas.hid (HX16.out.on hb17);have HLA17:=Bas.hid (HLA16.out.below hb17);have HPA17:=Bas.hid (HPA16.out.below hb17);have HLE:=Bas.hid (len_any w17 HPA17.out);rw [HNP.out] at HLE;clear hb17 HX16 HLA16 HPA16;go_wp2_with (fail);refine HLE.out.mono ?_;rintro e w18 ⟨rfl,rfl⟩;clear HLE;go_wp2_with (fail);obtain ⟨wo,hwo⟩:∃wo:World,wo=w17:=⟨_,rfl⟩;rw [←hwo] at HX17 HLA17 HPA17;rw [←hwo];clear hwo;go_loopw [89] (fun vi wr=>∃i:Nat,i≤N∧vi=.int .i64 i∧PlsAt wr PB PB dn psv (alongN t i ps1)∧Bx w wr T (jobO s1 s2 s3 d z a n cap) fltO∧LineAt wr LB LB lsv8 ys) (fun vi _=>N - (intOf vi).toNat)
   case atStart=>exact ⟨0,Nat.zero_le _,rfl,HPA17.out,HX17.out,HLA17.out⟩
   case round=>
    obtain ⟨i,hi,rfl,hP,hB,hLi⟩:=hrel;have HPi:=Bas.hid hP;have HBi:=Bas.hid hB;have HLi:=Bas.hid hLi;clear hP hB hLi;by_cases hin:i<N
    ·have e1:decide ((i:Int)<(N:Int))=true:=by simp;omega
     have HAL:=Bas.hid (along_any wr HPi.out (i:Int) t);rw [←alongN_succ] at HAL;go_wp2_with (fail);refine HAL.out.mono ?_;rintro e w20 ⟨rfl,hP20,hm20⟩;have HB20:=Bas.hid (HBi.out.mod hm20 (fun k hk=>Nat.le_trans hLP (HPi.out.blk_low k hk).1))
     have HL20:=Bas.hid (HLi.out.mod hm20 (fun k hk hk2=>HNB.out k hk2 hk))
     have HP20:=Bas.hid hP20;clear hP20 hm20 HAL HPi HBi HLi;go_wp2_with (fail);go_roundw
     case rel=>exact ⟨i+1,by omega,by go_num,HP20.out,HB20.out,HL20.out⟩
     case measure=>simp [intOf];omega
    ·obtain rfl:N=i:=by omega
     have e1:decide ((N:Int)<(N:Int))=false:=by simp
     rw [HQS.out] at HPi;have HALL:=Bas.hid (all_any HPi.out (by rw [HQL.out];omega))
     rw [HQL.out] at HALL;go_wp2_with (fail);refine HALL.out.mono ?_;rintro e w21 ⟨hb21,v21,rfl,ho21⟩;have HB21:=Bas.hid (HBi.out.on hb21);have HL21:=Bas.hid (HLi.out.below hb21);obtain ⟨a21,c21,rfl⟩:=own_slice ho21;have HR21:=Bas.hid (Row.owned_base ho21 HBi.out.lt);have HGL:=Bas.hid (glyphs_any LB LB lsv8 ys w21 HL21.out (by rw [HNY.out];omega))
     rw [HNY.out] at HGL;clear hb21 ho21 HALL HBi HLi HPi;go_wp2_with (fail);refine HGL.out.mono ?_;rintro e w22 ⟨hb22,v22,rfl,ho22⟩;obtain ⟨a22,c22,rfl⟩:=own_slice ho22;have HB22:=Bas.hid (HB21.out.on hb22);have HR22:=Bas.hid (Row.owned_below HR21.out hb22);have HG22:=Bas.hid (Row.owned_base ho22 HB21.out.lt);clear hb22 ho22 HGL HB21 HL21 HR21;go_wp2_with (fail);obtain ⟨wo2,hwo⟩:∃wo:World,wo=w22:=⟨_,rfl⟩;rw [←hwo] at HB22 HR22 HG22;rw [←hwo];clear hwo;go_loopw [14,102] (fun vb vi wr=>∃(i:Nat) (vB:Value),i≤N∧vb=vB∧vi=.int .i64 i∧wr.ownsRow (T+2) 82 5 vB i (((ys.zip qs).take i).flatMap outC)∧wr.ownsRow (T+2) 80 3 (.slice a21 N c21) N (qs.flatMap plC)∧wr.ownsRow (T+2) 78 2 (.slice a22 N c22) N (ys.flatMap glC)∧Bx w wr T (jobO s1 s2 s3 d z a n cap) fltO) (fun _ vi _=>N - (intOf vi).toNat)
     case atStart=>exact ⟨0,_,Nat.zero_le _,rfl,rfl,Row.owned_nil _ _ _ _,HR22.out,HG22.out,HB22.out⟩
     case round=>
      obtain ⟨i,vB,hi,hvb,rfl,hrow,hpl,hgl,hb⟩:=hrel;subst hvb;have HRW:=Bas.hid hrow;have HPW:=Bas.hid hpl;have HGW:=Bas.hid hgl;have HBW:=Bas.hid hb;by_cases hin:i<N
      ·have e1:decide ((i:Int)<(N:Int))=true:=by simp;omega
       have e2:decide (i<N)=true:=by simp;omega
       obtain ⟨⟨x0,x1⟩,hx⟩:∃x,ys[i]? =some x:=⟨_,List.getElem?_eq_getElem (by rw [HNY.out];exact hin)⟩
       obtain ⟨⟨q0,q1,q2⟩,hq⟩:∃q,qs[i]? =some q:=⟨_,List.getElem?_eq_getElem (by rw [HQL.out];exact hin)⟩
       obtain ⟨bo,cp,hv,hlt,p0,p1⟩:=glyph_cells hgl hx;cases hv;obtain ⟨bo2,cp2,hv2,hlt2,m0,m1,m2⟩:=place_cells hpl hq;cases hv2;obtain ⟨aB,cB,hvB⟩:=own_slice hrow;subst hvB;have HX:Hid (((ys.zip qs).take (i+1)).flatMap outC=((ys.zip qs).take i).flatMap outC++[.int .i64 x0,.int .i64 x1,.int .i32 q0,.int .i32 q1,.int .i32 q2]):=by
        unfold Hid;rw [List.take_add_one,(List.getElem?_zip_eq_some (z:=((x0,x1),({ a:=q0,x:=q1,y:=q2 }:Pl)))).2 ⟨hx,hq⟩];simp [outC]
       have hb3:=(Below.refl wr.heap.size wr).alloc (Nat.le_refl _) (.cells #[.int .i64 x0,.int .i64 x1] 78);have k3:=Bas.heap_new wr (.cells #[.int .i64 x0,.int .i64 x1] 78);have HR3:=Bas.hid (Row.owned_below hrow hb3);have HP3:=Bas.hid (Row.owned_below hpl hb3);have HG3:=Bas.hid (Row.owned_below hgl hb3);have HB3:=Bas.hid (hb.on hb3);have mm0:=(hb3.cell hlt2).trans m0;have mm1:=(hb3.cell hlt2).trans m1;have mm2:=(hb3.cell hlt2).trans m2;have hlt3:=Nat.lt_of_lt_of_le hlt2 hb3.size;simp only at p0 p1;clear hrow hgl hpl hb hx hq hb3 m0 m1 m2;go_wp2_with (fail);clear p0 p1 hlt hlt2;generalize wr.alloc (.cells #[.int .i64 x0,.int .i64 x1] 78)=w3 at*;generalize wr.heap.size=T3 at*;have q0':=cell_of_heap (i:=0) (v:=.int .i64 x0) k3 rfl;have q1':=cell_of_heap (i:=1) (v:=.int .i64 x1) k3 rfl;have lT3:=heap_lt k3;refine' Pl.region_v0 119 [0] [1,2,3,4,5,6] [7,8,9] _ (by kernel_rfl) (by kernel_rfl) (by simp) (fun _ _ _ _ e h=>⟨e▸h.1,h.2⟩) ?_ ?_
       rotate_left
       ·intro I F hI hF;simp only [Pl.selN,List.cons_append,List.nil_append,List.drop_succ_cons,List.drop_zero];have t0:=fun i=>hF.cell lT3 q0' i
        have t1:=fun i=>hF.cell lT3 q1' i
        have t2:=fun i=>hF.cell hlt3 mm0 i
        have t3:=fun i=>hF.cell hlt3 mm1 i
        have t4:=fun i=>hF.cell hlt3 mm2 i
        repeat (go_big_quiet_step (fail))
        refine wpQuiet_nil ?_;rfl
       intro w5 hw5;simp only [Pl.selN,List.drop_succ_cons,List.drop_zero];have HR5:=Bas.hid (Row.owned_below HR3.out hw5);have HP5:=Bas.hid (Row.owned_below HP3.out hw5);have HG5:=Bas.hid (Row.owned_below HG3.out hw5);have HB5:=Bas.hid (HB3.out.on hw5);clear hw5 HR3 HP3 HG3 HB3 q0' q1' lT3 hlt3 mm0 mm1 mm2 k3;go_wp2_with (at_builtin;refine Row.fence ?_);refine Row.unfence ?_;have hb7:=(Below.refl w5.heap.size w5).alloc (Nat.le_refl _) (.cells #[.int .i64 x0,.int .i64 x1,.int .i32 q0,.int .i32 q1,.int .i32 q2] 82);have k7:=Bas.heap_new w5 (.cells #[.int .i64 x0,.int .i64 x1,.int .i32 q0,.int .i32 q1,.int .i32 q2] 82);have HR7:=Bas.hid (Row.owned_below HR5.out hb7);have HP7:=Bas.hid (Row.owned_below HP5.out hb7);have HG7:=Bas.hid (Row.owned_below HG5.out hb7);have HB7:=Bas.hid (HB5.out.on hb7);generalize w5.alloc (.cells #[.int .i64 x0,.int .i64 x1,.int .i32 q0,.int .i32 q1,.int .i32 q2] 82)=w7 at*;refine Row.append_any rfl _ _ 72 82 rfl (.agg #[.int .i64 0,.int .i64 0,.int .i32 0,.int .i32 0,.int .i32 0]) 5 32 Tryz.underlying72 infoOut rfl (by decide) (T+2) (.slice aB i cB) i _ rfl HR7.out (.slice (some ⟨w5.heap.size,0,none⟩) 1 1) 1 [.int .i64 x0,.int .i64 x1,.int .i32 q0,.int .i32 q1,.int .i32 q2] rfl (leads_heap k7) rfl (by simp;first|done|exact ⟨rfl,rfl,rfl,rfl,rfl⟩) (by unfold maxLen;omega) (by omega) HB7.out.lt ?_
       intro v8 w8 h81 h82 _;have HR8:Hid (w8.ownsRow (T+2) 82 5 v8 (i+1) (((ys.zip qs).take (i+1)).flatMap outC)):=by unfold Hid;rw [HX.out];exact h81
       have HG8:=Bas.hid (Row.owned_keep HG7.out fun b hbk=>h82.block b (Row.own_block HG7.out hbk).2 (fun e=>own_apart2 HG7.out HR7.out (by decide) b hbk e.symm))
       have HP8:=Bas.hid (Row.owned_keep HP7.out fun b hbk=>h82.block b (Row.own_block HP7.out hbk).2 (fun e=>own_apart2 HP7.out HR7.out (by decide) b hbk e.symm))
       have HB8:=Bas.hid (HB7.out.mod (Mod.of_grown (S:=fun k=>T+2≤k) h82 (fun b hbk=>(Row.own_block HR7.out hbk).1)) (fun k hk=>hk))
       clear h81 h82 k7 hb7 HR7 HG7 HB7 HP7;go_wp2_with (fail);go_roundw
       case rel=>exact ⟨i+1,v8,by omega,rfl,by go_num,HR8.out,HP8.out,HG8.out,HB8.out⟩
       case measure=>simp [intOf];omega
      ·obtain rfl:N=i:=by omega
       have e1:decide ((N:Int)<(N:Int))=false:=by simp
       obtain ⟨aB,cB,hvB⟩:=own_slice hrow;subst hvB;have HFR:Hid (wr.ownsRow (T+2) 82 5 (.slice aB N cB) N ((ys.zip qs).flatMap outC)):=by
        unfold Hid;rw [List.take_of_length_le (by rw [List.length_zip,HNY.out,HQL.out];omega)] at hrow
        exact hrow
       have y0:=free_of_heap (i:=0) HBW.out.flt;have y1:=free_of_heap (i:=1) HBW.out.flt;have y2:=free_of_heap (i:=2) HBW.out.flt;have z0:=cell_of_heap (i:=0) (v:=.int .i64 0) HBW.out.flt rfl;have z1:=cell_of_heap (i:=1) (v:=.int .i64 0) HBW.out.flt rfl;have z2:=cell_of_heap (i:=2) (v:=.int .i64 0) HBW.out.flt rfl;have lb:=heap_lt HBW.out.flt;clear hrow hpl hgl hb;go_wp2_with (fail);have hfs:=flt_set HBW.out.flt;have hbl:Below T w _:=hfs.2.below HBW.out.bel (fun k hk=>by subst hk;omega) (by have:=HBW.out.lt;omega)
       have hrw:=hfs.2.owned HFR.out (fun k hk e=>by have:=(Row.own_block HFR.out hk).1;omega)
       have k0:=cell_of_heap (i:=0) (v:=.int .i64 0) hfs.1 rfl;have k1:=cell_of_heap (i:=1) (v:=.int .i64 0) hfs.1 rfl;have k2:=cell_of_heap (i:=2) (v:=.int .i64 0) hfs.1 rfl;generalize ((wr.setCell ⟨T+1,0,none⟩ (.int .i64 0)).setCell ⟨T+1,1,none⟩ (.int .i64 0)).setCell ⟨T+1,2,none⟩ (.int .i64 0)=WE at*;refine bodyPost_ret (v:=.tuple #[.slice aB N cB,zeroV]) (by simp [results,Tryz.results29,go_sem,k0,k1,k2]) rfl ⟨_,rfl,hbl,Row.owned_base hrw (by omega)⟩
end Sh
namespace Sh
open Fo Vw Wr
theorem tab_feat(a:Option Addr)(len cap:Nat)(bs:List Int)(P:List PartD)(s:ByteArray)(v0 fv:Value)(hP:1≤P.length)(hs:∀p∈P,p.tag≠s)(w:World)(hl:len≤cap)(hc:cap≤maxLen)(hv:VB w a bs)(hbl:bs.length=len)(hF:IsFont bs P):
  Calls Tryz.prog 53 #[.slice a len cap,.string s,v0,fv] w fun e w'=>e=.returned v0∧Below w.heap.size w w':=by
 have HN:=Bas.hid (find_no a len cap bs P s hP hs w hl hc hv hbl hF);clear hv hF hs hP hbl hl hc;go_enter Tryz.func53,Tryz.ntmps53
 go_wp2_with (fail);refine HN.out.mono ?_;rintro e w2 ⟨rfl,hb⟩;have HB:=Bas.hid hb;have hb3:=(Below.refl w2.heap.size w2).alloc (Nat.le_refl _) (.cells #[.slice none 0 0] 190);have hb4:=hb3.setCell (p:=⟨w2.heap.size,0,none⟩) (Nat.le_refl _) (.slice none 0 0);have HB4:=Bas.hid (hb.trans (hb4.mono hb.size));clear hb hb3 hb4 HN;go_wp2_with (fail);go_ret;exact ⟨rfl,by first|exact HB4.out|exact HB.out.trans (((Below.refl w2.heap.size w2).alloc (Nat.le_refl _) _).mono HB.out.size)⟩
theorem tab_morx(a:Option Addr)(len cap:Nat)(bs:List Int)(P:List PartD)(s:ByteArray)(v0 fv:Value)(hP:1≤P.length)(hs:∀p∈P,p.tag≠s)(w:World)(hl:len≤cap)(hc:cap≤maxLen)(hv:VB w a bs)(hbl:bs.length=len)(hF:IsFont bs P):
  Calls Tryz.prog 57 #[.slice a len cap,.string s,v0,fv] w fun e w'=>e=.returned v0∧Below w.heap.size w w':=by
 have HN:=Bas.hid (find_no a len cap bs P s hP hs w hl hc hv hbl hF);clear hv hF hs hP hbl hl hc;go_enter Tryz.func57,Tryz.ntmps57
 go_wp2_with (fail);refine HN.out.mono ?_;rintro e w2 ⟨rfl,hb⟩;have HB:=Bas.hid hb;have hb3:=(Below.refl w2.heap.size w2).alloc (Nat.le_refl _) (.cells #[.slice none 0 0] 190);have hb4:=hb3.setCell (p:=⟨w2.heap.size,0,none⟩) (Nat.le_refl _) (.slice none 0 0);have HB4:=Bas.hid (hb.trans (hb4.mono hb.size));clear hb hb3 hb4 HN;go_wp2_with (fail);go_ret;exact ⟨rfl,by first|exact HB4.out|exact HB.out.trans (((Below.refl w2.heap.size w2).alloc (Nat.le_refl _) _).mono HB.out.size)⟩
theorem tab_kerx(a:Option Addr)(len cap:Nat)(bs:List Int)(P:List PartD)(s:ByteArray)(v0 fv:Value)(hP:1≤P.length)(hs:∀p∈P,p.tag≠s)(w:World)(hl:len≤cap)(hc:cap≤maxLen)(hv:VB w a bs)(hbl:bs.length=len)(hF:IsFont bs P):
  Calls Tryz.prog 60 #[.slice a len cap,.string s,v0,fv] w fun e w'=>e=.returned v0∧Below w.heap.size w w':=by
 have HN:=Bas.hid (find_no a len cap bs P s hP hs w hl hc hv hbl hF);clear hv hF hs hP hbl hl hc;go_enter Tryz.func60,Tryz.ntmps60
 go_wp2_with (fail);refine HN.out.mono ?_;rintro e w2 ⟨rfl,hb⟩;have HB:=Bas.hid hb;have hb3:=(Below.refl w2.heap.size w2).alloc (Nat.le_refl _) (.cells #[.slice none 0 0] 190);have hb4:=hb3.setCell (p:=⟨w2.heap.size,0,none⟩) (Nat.le_refl _) (.slice none 0 0);have HB4:=Bas.hid (hb.trans (hb4.mono hb.size));clear hb hb3 hb4 HN;go_wp2_with (fail);go_ret;exact ⟨rfl,by first|exact HB4.out|exact HB.out.trans (((Below.refl w2.heap.size w2).alloc (Nat.le_refl _) _).mono HB.out.size)⟩
theorem tab_ankr(a:Option Addr)(len cap:Nat)(bs:List Int)(P:List PartD)(s:ByteArray)(v0 fv:Value)(hP:1≤P.length)(hs:∀p∈P,p.tag≠s)(w:World)(hl:len≤cap)(hc:cap≤maxLen)(hv:VB w a bs)(hbl:bs.length=len)(hF:IsFont bs P):
  Calls Tryz.prog 63 #[.slice a len cap,.string s,v0,fv] w fun e w'=>e=.returned v0∧Below w.heap.size w w':=by
 have HN:=Bas.hid (find_no a len cap bs P s hP hs w hl hc hv hbl hF);clear hv hF hs hP hbl hl hc;go_enter Tryz.func63,Tryz.ntmps63
 go_wp2_with (fail);refine HN.out.mono ?_;rintro e w2 ⟨rfl,hb⟩;have HB:=Bas.hid hb;have hb3:=(Below.refl w2.heap.size w2).alloc (Nat.le_refl _) (.cells #[.slice none 0 0] 190);have hb4:=hb3.setCell (p:=⟨w2.heap.size,0,none⟩) (Nat.le_refl _) (.slice none 0 0);have HB4:=Bas.hid (hb.trans (hb4.mono hb.size));clear hb hb3 hb4 HN;go_wp2_with (fail);go_ret;exact ⟨rfl,by first|exact HB4.out|exact HB.out.trans (((Below.refl w2.heap.size w2).alloc (Nat.le_refl _) _).mono HB.out.size)⟩
theorem tab_trak(a:Option Addr)(len cap:Nat)(bs:List Int)(P:List PartD)(s:ByteArray)(v0 fv:Value)(hP:1≤P.length)(hs:∀p∈P,p.tag≠s)(w:World)(hl:len≤cap)(hc:cap≤maxLen)(hv:VB w a bs)(hbl:bs.length=len)(hF:IsFont bs P):
  Calls Tryz.prog 66 #[.slice a len cap,.string s,v0,fv] w fun e w'=>e=.returned v0∧Below w.heap.size w w':=by
 have HN:=Bas.hid (find_no a len cap bs P s hP hs w hl hc hv hbl hF);clear hv hF hs hP hbl hl hc;go_enter Tryz.func66,Tryz.ntmps66
 go_wp2_with (fail);refine HN.out.mono ?_;rintro e w2 ⟨rfl,hb⟩;have HB:=Bas.hid hb;have hb3:=(Below.refl w2.heap.size w2).alloc (Nat.le_refl _) (.cells #[.slice none 0 0] 190);have hb4:=hb3.setCell (p:=⟨w2.heap.size,0,none⟩) (Nat.le_refl _) (.slice none 0 0);have HB4:=Bas.hid (hb.trans (hb4.mono hb.size));clear hb hb3 hb4 HN;go_wp2_with (fail);go_ret;exact ⟨rfl,by first|exact HB4.out|exact HB.out.trans (((Below.refl w2.heap.size w2).alloc (Nat.le_refl _) _).mono HB.out.size)⟩
end Sh
end Go.Proofs.YtceihjjjmcgmaaaGreat
