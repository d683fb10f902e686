/- Parts of a proof: texts ChainWr, TrakD, TrakTake, TrakVal, TrakAt, TrakValue, TrakWrD, TrakDat, TrakWr, ShWrite, FontGen, FontOrd, FeatBackL, KxWr, AkWr, ShPlan. -/
import Derived.Test.YtceihjjjmcgmaaaGreatMP05
set_option maxHeartbeats 16000000
set_option maxRecDepth 100000
namespace Go.Proofs.YtceihjjjmcgmaaaGreat
open Go.RowKit
namespace Ch
open Vw Wr
theorem write_any(v:Value)(l:List WChain)(w:World)(hl:l.length≤10)(hok:∀c∈l,okChain c)(hin:WChains w v l):
  Calls Tryz.prog 15 #[v] w fun e w'=>∃v',e=.returned v'∧w'.ownsRow w.heap.size 5 1 v' (writeB l).length ((writeB l).map (Value.int .u8))∧Below w.heap.size w w':=by
 obtain ⟨rs,hrl,hlead,hel⟩:=hin;obtain ⟨ad,cap,rfl⟩:=Row.leads_slice hlead;obtain ⟨n,hn⟩:∃n,n=l.length:=⟨_,rfl⟩;rw [←hn];have hn10:n≤10:=by omega
 have HN:=Bas.hid hn;have HEL:=Bas.hid hel;have HLD:=Bas.hid hlead;have HOK:=Bas.hid hok;have HRL:=Bas.hid hrl;clear hrl hlead hel hok hn;have hemp:w.ownsRow w.heap.size 5 1 (.slice none 0 0) ([]:List Int).length (([]:List Int).map (Value.int .u8)):=Row.owned_nil _ _ _ _;have HE:=Bas.hid hemp;clear hemp;go_enter Tryz.func15,Tryz.ntmps15
 go_wp2_with (fail);refine (put_any 2 2 w.heap.size _ [] w (by omega) (by omega) (by omega) (by simp) (Nat.le_refl _) HE.out).mono ?_
 rintro e w1 ⟨v1,rfl,hg1⟩;go_wp2_with (fail);refine (put_any 0 2 w.heap.size _ _ w1 (by omega) (by omega) (by omega) (by simp [putB_len]) hg1.grow.size hg1.own).mono ?_
 rintro e w2 ⟨v2,rfl,hg2⟩;have hg12:=hg1.trans hg2;go_wp2_with (fail);refine (put_any (n:Int) 4 w.heap.size _ _ w2 (by omega) (by omega) (by omega) (by simp [putB_len]) hg12.grow.size hg12.own).mono ?_
 rintro e w3 ⟨v3,rfl,hg3⟩;have hg123:=hg12.trans hg3;have HB3:=Bas.hid (hg123.below (Below.refl w.heap.size w) (Nat.le_refl _) (fun g h=>by cases h))
 have HO3:=Bas.hid hg123.own;have hh:([]++putB 2 2++putB 0 2++putB (n:Int) 4)=headB n:=by simp [headB]
 rw [hh] at HO3;clear hg1 hg2 hg12 hg3 hg123 hh;go_wp2_with (fail);go_loopw [3,5,6,8,10,18] (fun xb _ _ _ _ vi wr=>∃(k:Nat) (vb:Value),k≤n∧vi=.int .i64 k∧vb=xb∧wr.ownsRow w.heap.size 5 1 vb (headB n++(l.take k).flatMap chainB).length ((headB n++(l.take k).flatMap chainB).map (Value.int .u8))∧Below w.heap.size w wr) (fun _ _ _ _ _ vi _=>n - (intOf vi).toNat)
 case atStart=>exact ⟨0,_,Nat.zero_le _,rfl,rfl,by simpa using HO3.out,HB3.out⟩
 case round=>
  obtain ⟨k,vb,hk,rfl,hvb,hown,hb⟩:=hrel;rw [←hvb];clear hvb;have HO:=Bas.hid hown;have HB:=Bas.hid hb;by_cases hkn:k<n
  ·have hlen:=HN.out;obtain ⟨c,hc⟩:∃c,l[k]? =some c:=⟨_,List.getElem?_eq_getElem (by omega)⟩
   obtain ⟨r,hr⟩:∃r,rs[k]? =some r:=⟨_,List.getElem?_eq_getElem (by rw [HRL.out];omega)⟩
   obtain ⟨hru,hsu⟩:=HEL.out k c r hc hr;have hokc:=HOK.out c (List.mem_of_getElem? hc);have hz:(l.zip rs)[k]? =some (c,r):=List.getElem?_zip_eq_some.2 ⟨hc,hr⟩;obtain ⟨B0,O0,cp0,hv0,hcl⟩:=Row.leads_elem wChainC_len HLD.out hz (by omega)
   obtain ⟨vr,vs⟩:=r;obtain ⟨ds,hdl,hsl,hsd⟩:=hsu;obtain ⟨ar,cr,rfl⟩:=Row.leads_slice hru;obtain ⟨as',cs',rfl⟩:=Row.leads_slice hsl;cases hv0;have q0:=(hb.cell (p:=⟨B0,O0+k*4,none⟩) (World.block_lt_of_cell? _ _ (hcl 0 _ rfl))).trans (hcl 0 _ rfl);have q1:=(hb.cell (p:=⟨B0,O0+k*4+1,none⟩) (World.block_lt_of_cell? _ _ (hcl 1 _ rfl))).trans (hcl 1 _ rfl);have q2:=(hb.cell (p:=⟨B0,O0+k*4+2,none⟩) (World.block_lt_of_cell? _ _ (hcl 2 _ rfl))).trans (hcl 2 _ rfl);have q3:=(hb.cell (p:=⟨B0,O0+k*4+3,none⟩) (World.block_lt_of_cell? _ _ (hcl 3 _ rfl))).trans (hcl 3 _ rfl);have HRU:=Bas.hid hru;have HCK:=Bas.hid hc;have HSL:=Bas.hid hsl;have HSD:=Bas.hid hsd;have HDL:=Bas.hid hdl;have HOKC:=Bas.hid hokc;obtain ⟨nr,hnr⟩:∃nr,nr=c.rules.length:=⟨_,rfl⟩;obtain ⟨ns,hns⟩:∃ns,ns=c.subs.length:=⟨_,rfl⟩;simp only [←hnr,←hns] at q0 q1 q2 q3 HRU HSL;have hnr40:nr≤40:=by rw [hnr];exact hokc.2.2.2.2.1
   have hns10:ns≤10:=by rw [hns];exact hokc.2.2.2.2.2
   have HNR:=Bas.hid hnr;have HNS:=Bas.hid hns;clear hcl hru hsl hsd hdl hokc hb hown hr hnr hns HO3 HB3 HE hlen;go_wp2_with (fail);have k5:=Bas.heap_new wr (.cells #[.int .u32 c.first,.slice ar nr cr,.slice as' ns cs',.int .u8 c.more] 92);have hbc:=(Below.refl wr.heap.size wr).alloc (Nat.le_refl _) (.cells #[.int .u32 c.first,.slice ar nr cr,.slice as' ns cs',.int .u8 c.more] 92);have HOc:=Bas.hid (Row.owned_below HO.out hbc);have HBc:=Bas.hid (HB.out.trans (hbc.mono HB.out.size));have hlb:∀g,vb.ownBlock=some g→g<wr.heap.size:=fun g hg=>(Row.own_block HO.out hg).2
   generalize wr.alloc (.cells #[.int .u32 c.first,.slice ar nr cr,.slice as' ns cs',.int .u8 c.more] 92)=Wc at*;generalize wr.heap.size=T5 at k5 hlb ⊢;have hT5:T5<Wc.heap.size:=heap_lt k5;have hsc:=HBc.out.size;clear q0 q1 q2 q3 hbc HO HB;go_loopw [6,8,25] (fun xin _ vi wr=>∃(i:Nat) (vin:Value),i≤nr∧vi=.int .i64 i∧vin=xin∧wr.ownsRow Wc.heap.size 5 1 vin ((c.rules.take i).flatMap ruleB).length (((c.rules.take i).flatMap ruleB).map (Value.int .u8))∧Below Wc.heap.size Wc wr) (fun _ _ vi _=>nr - (intOf vi).toNat)
   case atStart=>exact ⟨0,_,Nat.zero_le _,rfl,rfl,by simpa using Row.owned_nil _ _ _ _,Below.refl _ _⟩
   case round=>
    obtain ⟨i,vin,hi,rfl,hvin,hown,hb⟩:=hrel;rw [←hvin];clear hvin;by_cases hin:i<nr
    ·have hlen:=HNR.out;obtain ⟨r,hr⟩:∃r,c.rules[i]? =some r:=⟨_,List.getElem?_eq_getElem (by omega)⟩
     obtain ⟨B1,O1,cp1,hv1,hcl⟩:=Row.leads_elem wRuleC_len HRU.out hr (by omega)
     cases hv1;have HBw:=HBc.out.trans (hb.mono hsc);have q0:=(HBw.cell (p:=⟨B1,O1+i*4,none⟩) (World.block_lt_of_cell? _ _ (hcl 0 _ rfl))).trans (hcl 0 _ rfl);have q1:=(HBw.cell (p:=⟨B1,O1+i*4+1,none⟩) (World.block_lt_of_cell? _ _ (hcl 1 _ rfl))).trans (hcl 1 _ rfl);have q2:=(HBw.cell (p:=⟨B1,O1+i*4+2,none⟩) (World.block_lt_of_cell? _ _ (hcl 2 _ rfl))).trans (hcl 2 _ rfl);have q3:=(HBw.cell (p:=⟨B1,O1+i*4+3,none⟩) (World.block_lt_of_cell? _ _ (hcl 3 _ rfl))).trans (hcl 3 _ rfl);obtain ⟨⟨o1,o2⟩,⟨o3,o4⟩,⟨o5,o6⟩,⟨o7,o8⟩⟩:=HOKC.out.2.2.1 r (List.mem_of_getElem? hr);have hylen:((c.rules.take i).flatMap ruleB).length≤12*i:=Row.take_len_le ruleB 12 c.rules i (fun r _=>by rw [ruleB_len];exact Nat.le_refl _) (by omega)
     have HNEW:Hid ((c.rules.take (i+1)).flatMap ruleB=(c.rules.take i).flatMap ruleB++(putB r.type 2++putB r.value 2++putB r.enable 4++putB r.disable 4)):=Row.take_flat ruleB c.rules i r hr;obtain ⟨r1,r2,r3,r4⟩:=r;simp only at q0 q1 q2 q3 o1 o2 o3 o4 o5 o6 o7 o8 HNEW;generalize (c.rules.take i).flatMap ruleB=ys at*;clear hcl HBw hr hlen;go_wp2_with (fail);have k8:=Bas.heap_new wr (.cells #[.int .u16 r1,.int .u16 r2,.int .u32 r3,.int .u32 r4] 130);have hbW:=(Below.refl wr.heap.size wr).alloc (Nat.le_refl _) (.cells #[.int .u16 r1,.int .u16 r2,.int .u32 r3,.int .u32 r4] 130);have hO8:=Row.owned_below hown hbW;have HB8:=Bas.hid (hb.trans (hbW.mono hb.size));have hnl:vin.ownBlock≠some wr.heap.size:=fun e=>Nat.lt_irrefl _ (Row.own_block hown e).2
     generalize wr.alloc (.cells #[.int .u16 r1,.int .u16 r2,.int .u32 r3,.int .u32 r4] 130)=W8 at*;generalize wr.heap.size=T8 at k8 hnl ⊢;have Abase:Wc.heap.size≤W8.drew.heap.size:=HB8.out.size;clear q0 q1 q2 q3 hown hb hbW;have Ad:=Row.owned_keep hO8 (w':=W8.drew) (fun _ _=>rfl)
     obtain ⟨AI,AF,Ai,AF0,AFg,AFw,AFb⟩:=Pl.fam_g W8 (vin).ownBlock;have Ac0:=fun i=>(Bas.gcell (AFb i) (b:=T8) (o:=0) (heap_lt k8) hnl).trans (cell_of_heap (i:=0) (v:=.int .u16 r1) k8 rfl)
     have Ac1:=fun i=>(Bas.gcell (AFb i) (b:=T8) (o:=1) (heap_lt k8) hnl).trans (cell_of_heap (i:=1) (v:=.int .u16 r2) k8 rfl)
     have AFH:=Bas.hid AF0;have AhI:Nonempty AI:=⟨Ai⟩;have AFW:=Bas.hid AFw;clear AF0 AFw AFg AFb;refine Pl.region_plan0 Ai [(true,0),(true,1),(true,2),(true,3),(true,5),(true,6),(true,7),(false,4),(false,8),(false,9)] [8,9] (by kernel_rfl) (by kernel_rfl) (fun _ _ _ _ e h=>⟨e▸h.1,h.2⟩) AFH.out ?_
     refine Pl.head_sel0 [(true,0),(true,1),(true,2),(true,3),(true,5),(true,6),(true,7)] (by kernel_rfl) (by kernel_rfl) ?_
     simp only [Pl.sel,List.drop_succ_cons,List.drop_zero];repeat (go_big_quiet_step (fail))
     refine wpQuiet_nil ?_;rw [←AFH.out];clear Ac0 Ac1 AFH;refine Pl.one_sel (by kernel_rfl) ?_
     intro Q' hQ' hP';simp only [Pl.sel,List.drop_succ_cons,List.drop_zero];go_wp2_with (fail);refine (put_any r1 2 Wc.heap.size _ _ W8.drew (by omega) (by omega) (by omega) (by first|omega|(simp only [List.length_append,putB_len];omega)) Abase Ad).mono ?_
     rintro e Aw1 ⟨Av1,rfl,Ag1⟩;have Agg:=Bas.gtrans (Bas.gdrew (Bas.grefl W8 _)) Ag1.grow;go_wp2_with (fail);refine hQ' _ _ (fun _ _=>AFW.out _ Agg) ?_
     clear hQ' hP' Q' Agg AFW;refine Pl.tail_sel [(false,8),(false,9)] (by kernel_rfl) (by kernel_rfl) ?_
     simp only [Pl.sel,List.drop_succ_cons,List.drop_zero];go_wp2_with (fail);refine (put_any r2 2 Wc.heap.size _ _ Aw1 (by omega) (by omega) (by omega) (by first|omega|(simp only [List.length_append,putB_len];omega)) (Nat.le_trans Abase Ag1.grow.size) Ag1.own).mono ?_
     rintro e Aw ⟨Av,rfl,Ag2⟩;have Ag:=Ag1.trans Ag2;clear Ag1 Ag2;have Bne:Av.ownBlock≠some T8:=by
      intro e;rcases Ag.at' with h|⟨g,h,h2⟩
      ·exact hnl (h▸e)
      ·rw [h] at e;cases e;exact absurd (heap_lt k8) (Nat.not_lt.2 h2)
     have Bk:Aw.heap[T8]? =_:=(Ag.grow.block T8 (heap_lt k8) (fun e=>hnl e.symm)).trans k8
     have HBA:=Bas.hid (Ag.below (HB8.out.drew) (by exact HB8.out.size) (fun g hg=>(Row.own_block hO8 hg).1))
     have BO:=Ag.own;have HAG:=Bas.hid Ag;have Bbase:Wc.heap.size≤Aw.drew.heap.size:=HBA.out.size;clear Ag k8 hnl hO8 HB8 Abase Ad;go_wp2_with (fail);have Bd:=Row.owned_keep BO (w':=Aw.drew) (fun _ _=>rfl)
     obtain ⟨BI,BF,Bi,BF0,BFg,BFw,BFb⟩:=Pl.fam_g Aw (Av).ownBlock;have Bc0:=fun i=>(Bas.gcell (BFb i) (b:=T8) (o:=2) (heap_lt Bk) Bne).trans (cell_of_heap (i:=2) (v:=.int .u32 r3) Bk rfl)
     have Bc1:=fun i=>(Bas.gcell (BFb i) (b:=T8) (o:=3) (heap_lt Bk) Bne).trans (cell_of_heap (i:=3) (v:=.int .u32 r4) Bk rfl)
     have BFH:=Bas.hid BF0;have BhI:Nonempty BI:=⟨Bi⟩;have BFW:=Bas.hid BFw;clear BF0 BFw BFg BFb;refine Pl.region_plan0 Bi [(true,0),(true,1),(true,2),(true,3),(true,5),(true,6),(true,7),(false,4),(false,8),(false,9)] [8,9] (by kernel_rfl) (by kernel_rfl) (fun _ _ _ _ e h=>⟨e▸h.1,h.2⟩) BFH.out ?_
     refine Pl.head_sel0 [(true,0),(true,1),(true,2),(true,3),(true,5),(true,6),(true,7)] (by kernel_rfl) (by kernel_rfl) ?_
     simp only [Pl.sel,List.drop_succ_cons,List.drop_zero];repeat (go_big_quiet_step (fail))
     refine wpQuiet_nil ?_;rw [←BFH.out];clear Bc0 Bc1 BFH;refine Pl.one_sel (by kernel_rfl) ?_
     intro Q' hQ' hP';simp only [Pl.sel,List.drop_succ_cons,List.drop_zero];go_wp2_with (fail);refine (put_any r3 4 Wc.heap.size _ _ Aw.drew (by omega) (by omega) (by omega) (by first|omega|(simp only [List.length_append,putB_len];omega)) Bbase Bd).mono ?_
     rintro e Bw1 ⟨Bv1,rfl,Bg1⟩;have Bgg:=Bas.gtrans (Bas.gdrew (Bas.grefl Aw _)) Bg1.grow;go_wp2_with (fail);refine hQ' _ _ (fun _ _=>BFW.out _ Bgg) ?_
     clear hQ' hP' Q' Bgg BFW;refine Pl.tail_sel [(false,8),(false,9)] (by kernel_rfl) (by kernel_rfl) ?_
     simp only [Pl.sel,List.drop_succ_cons,List.drop_zero];go_wp2_with (fail);refine (put_any r4 4 Wc.heap.size _ _ Bw1 (by omega) (by omega) (by omega) (by first|omega|(simp only [List.length_append,putB_len];omega)) (Nat.le_trans Bbase Bg1.grow.size) Bg1.own).mono ?_
     rintro e Bw ⟨Bv,rfl,Bg2⟩;have Bg:=Bg1.trans Bg2;clear Bg1 Bg2;have HBB:=Bas.hid (Bg.below (HBA.out.drew) (by exact HBA.out.size) (fun g hg=>(Row.own_block BO hg).1))
     have HBO:=Bas.hid Bg.own;clear Bg BO Bk Bne Bd;go_wp2_with (fail);go_roundw
     case rel=>exact ⟨i+1,_,by omega,by go_num,rfl,by rw [HNEW.out];simpa only [List.append_assoc] using HBO.out,HBB.out⟩
     case measure=>simp [intOf];omega
    ·have hkn2:i=nr:=by omega
     subst hkn2;have hfl:(c.rules.take i).flatMap ruleB=c.rules.flatMap ruleB:=by rw [HNR.out,List.take_length]
     rw [hfl] at hown;have hrl:(c.rules.flatMap ruleB).length≤480:=by
      have:=Row.flat_len_le ruleB 12 c.rules (fun r _=>by rw [ruleB_len];exact Nat.le_refl _)
      have h2:=HNR.out;omega
     have HOI:=Bas.hid hown;have HBI:=Bas.hid hb;clear hown hb hfl;have kk5:=(HBI.out.block _ hT5).trans k5;have c52:=cell_of_heap (i:=2) (v:=.slice as' ns cs') kk5 rfl;go_wp2_with (fail);obtain ⟨wo,hwo⟩:∃wo:World,wo=wr:=⟨_,rfl⟩;rw [←hwo] at HBI HOI;rw [←hwo];clear hwo kk5 c52;go_loopw [6,10,51] (fun xin _ vi wr=>∃(j:Nat) (vj:Value),j≤ns∧vi=.int .i64 j∧vj=xin∧wr.ownsRow Wc.heap.size 5 1 vj (c.rules.flatMap ruleB++(c.subs.take j).flatMap subB).length ((c.rules.flatMap ruleB++(c.subs.take j).flatMap subB).map (Value.int .u8))∧Below Wc.heap.size Wc wr) (fun _ _ vi _=>ns - (intOf vi).toNat)
     case atStart=>exact ⟨0,_,Nat.zero_le _,rfl,rfl,by simpa using HOI.out,HBI.out⟩
     case round=>
      obtain ⟨j,vj,hj,rfl,hvj,hown,hb⟩:=hrel;rw [←hvj];clear hvj;by_cases hjn:j<ns
      ·have hlen:=HNS.out;obtain ⟨s,hs⟩:∃s,c.subs[j]? =some s:=⟨_,List.getElem?_eq_getElem (by omega)⟩
       obtain ⟨d,hd⟩:∃d,ds[j]? =some d:=⟨_,List.getElem?_eq_getElem (by rw [HDL.out];omega)⟩
       have hz:(c.subs.zip ds)[j]? =some (s,d):=List.getElem?_zip_eq_some.2 ⟨hs,hd⟩;obtain ⟨B1,O1,cp1,hv1,hcl⟩:=Row.leads_elem wSubC_len HSL.out hz (by omega)
       cases hv1;obtain ⟨da,dcap,rfl,hdv,hdc,hdm,hdn⟩:=HSD.out j s d hs hd;have hB0:w.heap.size≤Wc.heap.size:=hsc;have HBw:=HBc.out.trans (hb.mono hsc);have q0:=(HBw.cell (p:=⟨B1,O1+j*3,none⟩) (World.block_lt_of_cell? _ _ (hcl 0 _ rfl))).trans (hcl 0 _ rfl);have q1:=(HBw.cell (p:=⟨B1,O1+j*3+1,none⟩) (World.block_lt_of_cell? _ _ (hcl 1 _ rfl))).trans (hcl 1 _ rfl);have q2:=(HBw.cell (p:=⟨B1,O1+j*3+2,none⟩) (World.block_lt_of_cell? _ _ (hcl 2 _ rfl))).trans (hcl 2 _ rfl);obtain ⟨⟨o1,o2⟩,⟨o3,o4⟩,-,o5⟩:=HOKC.out.2.2.2.1 s (List.mem_of_getElem? hs);have hylen:(c.rules.flatMap ruleB++(c.subs.take j).flatMap subB).length≤480+412*j:=by
        have:=Row.take_len_le subB 412 c.subs j (fun s hs=>by rw [subB_len];have:=(HOKC.out.2.2.2.1 s hs).2.2.2;omega) (by omega)
        rw [List.length_append];omega
       have HNEW:Hid (c.rules.flatMap ruleB++(c.subs.take (j+1)).flatMap subB=(c.rules.flatMap ruleB++(c.subs.take j).flatMap subB)++(putB (12+(s.data.length:Int)) 4++putB s.cover 4++putB s.flags 4++s.data)):=by
        unfold Hid;rw [Row.take_flat subB c.subs j s hs,←List.append_assoc];rfl
       have hblk:s.data.map (Value.int .u8)≠[]→∀x,da=some x→x.block<w.heap.size:=fun hne x hx=>by
        have h0:0<s.data.length:=by
         rcases Nat.eq_zero_or_pos s.data.length with h|h
         ·exact absurd (List.map_eq_nil_iff.2 (List.length_eq_zero_iff.1 h)) hne
         ·exact h
        obtain ⟨b,o,h1,h2⟩:=hdv.cell 0 h0;rw [hx] at h1;cases h1;exact World.block_lt_of_cell? _ _ h2
       have HBLK:=Bas.hid hblk;have HDV:=Bas.hid (hdv.below HBw);obtain ⟨s1,s2,D⟩:=s;simp only at q0 q1 q2 o1 o2 o3 o4 o5 HNEW HBLK HDV hdc;obtain ⟨m,hm⟩:∃m,m=D.length:=⟨_,rfl⟩;have HM:=Bas.hid hm;simp only [←hm] at q2 o5 HNEW hdc;generalize c.rules.flatMap ruleB++(c.subs.take j).flatMap subB=ys at*;clear hcl HBw hs hd hz hlen hdv hblk hm;go_wp2_with (fail);have k8:=Bas.heap_new wr (.cells #[.int .u32 s1,.int .u32 s2,.slice da m dcap] 94);have hbW:=(Below.refl wr.heap.size wr).alloc (Nat.le_refl _) (.cells #[.int .u32 s1,.int .u32 s2,.slice da m dcap] 94);have hO8:=Row.owned_below hown hbW;have HB8:=Bas.hid (hb.trans (hbW.mono hb.size));have HDV8:=Bas.hid (HDV.out.below hbW);have hnl:vj.ownBlock≠some wr.heap.size:=fun e=>Nat.lt_irrefl _ (Row.own_block hown e).2
       generalize wr.alloc (.cells #[.int .u32 s1,.int .u32 s2,.slice da m dcap] 94)=W8 at*;generalize wr.heap.size=T8 at k8 hnl ⊢;have Abase:Wc.heap.size≤W8.drew.heap.size:=HB8.out.size;clear q0 q1 q2 hown hb hbW HDV;have Ad:=Row.owned_keep hO8 (w':=W8.drew) (fun _ _=>rfl)
       obtain ⟨AI,AF,Ai,AF0,AFg,AFw,AFb⟩:=Pl.fam_g W8 (vj).ownBlock;have Ac0:=fun i=>(Bas.gcell (AFb i) (b:=T8) (o:=2) (heap_lt k8) hnl).trans (cell_of_heap (i:=2) (v:=.slice da m dcap) k8 rfl)
       have Ac1:=fun i=>(Bas.gcell (AFb i) (b:=T8) (o:=0) (heap_lt k8) hnl).trans (cell_of_heap (i:=0) (v:=.int .u32 s1) k8 rfl)
       have AFH:=Bas.hid AF0;have AhI:Nonempty AI:=⟨Ai⟩;have AFW:=Bas.hid AFw;clear AF0 AFw AFg AFb;refine Pl.region_plan0 Ai [(true,0),(true,1),(true,2),(true,3),(true,4),(true,6),(true,7),(true,8),(false,5),(false,9),(false,10)] [9,10] (by kernel_rfl) (by kernel_rfl) (fun _ _ _ _ e h=>⟨e▸h.1,h.2⟩) AFH.out ?_
       refine Pl.head_sel0 [(true,0),(true,1),(true,2),(true,3),(true,4),(true,6),(true,7),(true,8)] (by kernel_rfl) (by kernel_rfl) ?_
       simp only [Pl.sel,List.drop_succ_cons,List.drop_zero];repeat (go_big_quiet_step (fail))
       refine wpQuiet_nil ?_;rw [←AFH.out];clear Ac0 Ac1 AFH;refine Pl.one_sel (by kernel_rfl) ?_
       intro Q' hQ' hP';simp only [Pl.sel,List.drop_succ_cons,List.drop_zero];go_wp2_with (fail);refine (put_any (12+(m:Int)) 4 Wc.heap.size _ _ W8.drew (by omega) (by omega) (by omega) (by first|omega|(simp only [List.length_append,putB_len];omega)) Abase Ad).mono ?_
       rintro e Aw1 ⟨Av1,rfl,Ag1⟩;have Agg:=Bas.gtrans (Bas.gdrew (Bas.grefl W8 _)) Ag1.grow;go_wp2_with (fail);refine hQ' _ _ (fun _ _=>AFW.out _ Agg) ?_
       clear hQ' hP' Q' Agg AFW;refine Pl.tail_sel [(false,9),(false,10)] (by kernel_rfl) (by kernel_rfl) ?_
       simp only [Pl.sel,List.drop_succ_cons,List.drop_zero];go_wp2_with (fail);refine (put_any s1 4 Wc.heap.size _ _ Aw1 (by omega) (by omega) (by omega) (by first|omega|(simp only [List.length_append,putB_len];omega)) (Nat.le_trans Abase Ag1.grow.size) Ag1.own).mono ?_
       rintro e Aw ⟨Av,rfl,Ag2⟩;have Ag:=Ag1.trans Ag2;clear Ag1 Ag2;have Bne:Av.ownBlock≠some T8:=by
        intro e;rcases Ag.at' with h|⟨g,h,h2⟩
        ·exact hnl (h▸e)
        ·rw [h] at e;cases e;exact absurd (heap_lt k8) (Nat.not_lt.2 h2)
       have Bk:Aw.heap[T8]? =_:=(Ag.grow.block T8 (heap_lt k8) (fun e=>hnl e.symm)).trans k8
       have HBA:=Bas.hid (Ag.below (HB8.out.drew) (by exact HB8.out.size) (fun g hg=>(Row.own_block hO8 hg).1))
       have BO:=Ag.own;have Bbase:Wc.heap.size≤Aw.drew.heap.size:=HBA.out.size;have Bld:Row.Leads Aw (.slice da m dcap) m (D.map (Value.int .u8)):=by
        have h:=vb_leads (Vw.VB_apart HDV8.out (Bas.gtrans (Bas.gdrew (Bas.grefl W8 _)) Ag.grow) (fun g hg x hx hne=>by
         have h1:=HBLK.out (fun e=>hne (List.map_eq_nil_iff.1 e)) x hx
         have h2:=(Row.own_block hO8 hg).1;omega)) dcap hdn
        rw [←HM.out] at h;exact h
       have Blen:Hid (m=D.length):=HM;have Bsrc:∀g,Av.ownBlock=some g→∀ad len cap,Value.slice da m dcap=.slice (some ad) len cap→D.map (Value.int .u8)≠[]→ad.block≠g:=fun g hg ad len cap he hne=>by
        cases he;have h1:=HBLK.out hne _ rfl;have h2:=(Row.own_block BO hg).1;omega
       clear Ag k8 hnl hO8 HB8 Abase Ad HDV8;go_wp2_with (fail);have Bd:=Row.owned_keep BO (w':=Aw.drew) (fun _ _=>rfl)
       obtain ⟨BI,BF,Bi,BF0,BFg,BFw,BFb⟩:=Pl.fam_g Aw (Av).ownBlock;have Bc0:=fun i=>(Bas.gcell (BFb i) (b:=T8) (o:=1) (heap_lt Bk) Bne).trans (cell_of_heap (i:=1) (v:=.int .u32 s2) Bk rfl)
       have Bc1:=fun i=>(Bas.gcell (BFb i) (b:=T8) (o:=2) (heap_lt Bk) Bne).trans (cell_of_heap (i:=2) (v:=.slice da m dcap) Bk rfl)
       have BFH:=Bas.hid BF0;have BhI:Nonempty BI:=⟨Bi⟩;have BFW:=Bas.hid BFw;clear BF0 BFw BFg BFb;refine Pl.region_plan0 Bi [(true,0),(true,1),(true,2),(true,3),(true,5),(true,6),(false,4),(false,7),(false,8)] [7,8] (by kernel_rfl) (by kernel_rfl) (fun _ _ _ _ e h=>⟨e▸h.1,h.2⟩) BFH.out ?_
       refine Pl.head_sel0 [(true,0),(true,1),(true,2),(true,3),(true,5),(true,6)] (by kernel_rfl) (by kernel_rfl) ?_
       simp only [Pl.sel,List.drop_succ_cons,List.drop_zero];repeat (go_big_quiet_step (fail))
       refine wpQuiet_nil ?_;rw [←BFH.out];clear Bc0 Bc1 BFH;refine Pl.one_sel (by kernel_rfl) ?_
       intro Q' hQ' hP';simp only [Pl.sel,List.drop_succ_cons,List.drop_zero];go_wp2_with (fail);refine (put_any s2 4 Wc.heap.size _ _ Aw.drew (by omega) (by omega) (by omega) (by first|omega|(simp only [List.length_append,putB_len];omega)) Bbase Bd).mono ?_
       rintro e Bw1 ⟨Bv1,rfl,Bg1⟩;have Bgg:=Bas.gtrans (Bas.gdrew (Bas.grefl Aw _)) Bg1.grow;have Bld:=Row.leads_apart Bld Bgg Bsrc;go_wp2_with (fail);refine hQ' _ _ (fun _ _=>BFW.out _ Bgg) ?_
       clear hQ' hP' Q' Bgg BFW;refine Pl.tail_sel [(false,7),(false,8)] (by kernel_rfl) (by kernel_rfl) ?_
       simp only [Pl.sel,List.drop_succ_cons,List.drop_zero];refine Row.append_at rfl _ _ 47 5 rfl (.int .u8 0) 1 1 Tryz.underlying47 info8 rfl (by decide) Wc.heap.size Bv1 _ _ rfl Bg1.own (.slice da m dcap) m _ rfl Bld (by simp [←Blen.out]) (by simp;intros;rfl) (by unfold maxLen;simp only [List.length_append,putB_len];omega) (by simp only [List.length_append,putB_len];omega) (Nat.le_trans Bbase Bg1.grow.size) ?_
       intro Bv Bw Bh1 Bh2 _ Bh3;have Bg:Grown Aw.drew Wc.heap.size _ ((ys++putB (12+(m:Int)) 4++putB s1 4)++putB s2 4++D) Bv Bw:=Bg1.trans ⟨by simpa only [List.map_append,List.length_append,←Blen.out,Nat.add_assoc] using Bh1,Bh2,Bh3.imp id fun h=>⟨_,h,Nat.le_refl _⟩⟩
       clear Bg1 Bh1 Bh2 Bh3 Bld Blen;have HBB:=Bas.hid (Bg.below (HBA.out.drew) (by exact HBA.out.size) (fun g hg=>(Row.own_block BO hg).1))
       have HBO:=Bas.hid Bg.own;clear Bg BO Bk Bne Bd Bsrc;go_wp2_with (fail);go_roundw
       case rel=>exact ⟨j+1,_,by omega,by go_num,rfl,by rw [HNEW.out];simpa only [List.append_assoc] using HBO.out,HBB.out⟩
       case measure=>simp [intOf];omega
      ·have hkn3:j=ns:=by omega
       subst hkn3;have hfl:(c.subs.take j).flatMap subB=c.subs.flatMap subB:=by rw [HNS.out,List.take_length]
       rw [hfl] at hown;have hil:=inB_len_le c HOKC.out;have HINB:Hid (inB c=c.rules.flatMap ruleB++c.subs.flatMap subB++List.replicate (c.more%8).toNat 0):=rfl;have hrsl:(c.rules.flatMap ruleB++c.subs.flatMap subB).length≤4607:=by
        rw [HINB.out,List.length_append] at hil;omega
       have hm8:c.more%8=((c.more%8).toNat:Int):=by have:=HOKC.out.2.1;omega
       have hz8:(c.more%8).toNat≤7:=by omega
       obtain ⟨⟨of1,of2⟩,⟨om1,om2⟩,-⟩:=HOKC.out;have HOJ:=Bas.hid hown;have HBJ:=Bas.hid hb;have kk5:=(HBJ.out.block _ hT5).trans k5;have c50:=cell_of_heap (i:=0) (v:=.int .u32 c.first) kk5 rfl;have c53:=cell_of_heap (i:=3) (v:=.int .u8 c.more) kk5 rfl;have HM8:=Bas.hid hm8;have HCH:Hid (chainB c=putB c.first 4++putB (16+((inB c).length:Int)) 4++putB (c.rules.length:Int) 4++putB (c.subs.length:Int) 4++inB c):=rfl;have HPRE:Hid ((headB n++(l.take k).flatMap chainB).length≤8+4623*k):=by
        unfold Hid;have:=Row.take_len_le chainB 4623 l k (fun x hx=>chainB_len_le x (HOK.out x hx)) (by have:=HN.out;omega)
        rw [List.length_append,headB_len];omega
       clear hown hb hfl hm8 hil;go_wp2_with (at_builtin;refine Row.fence ?_);refine Row.unfence ?_;rw [HM8.out];refine Row.append_zeros rfl _ _ 47 5 5 rfl (.int .u8 0) 1 .u8 .u8 Tryz.underlying47 Tryz.underlying5 info8 rfl rfl Wc.heap.size vj _ _ rfl HOJ.out (c.more%8).toNat rfl (by unfold maxLen;omega) (by omega) HBJ.out.size ?_
       intro v18 w18 hown18 hg18 _ hat18;have hown18':w18.ownsRow Wc.heap.size 5 1 v18 (inB c).length ((inB c).map (Value.int .u8)):=by
        rw [HINB.out];simpa only [List.map_append,List.length_append,List.length_replicate,List.map_replicate,List.append_assoc,Nat.add_assoc] using hown18
       have HB18:=Bas.hid (HBJ.out.grown hg18 HBJ.out.size (fun g hg=>(Row.own_block HOJ.out hg).1))
       have kk5:=(HB18.out.block _ hT5).trans k5;have c50:=cell_of_heap (i:=0) (v:=.int .u32 c.first) kk5 rfl;have HO18:=Bas.hid hown18';have hil2:=inB_len_le c (HOK.out c (List.mem_of_getElem? HCK.out));obtain ⟨IL,hIL⟩:∃IL,IL=(inB c).length:=⟨_,rfl⟩;have HIL:=Bas.hid hIL;rw [←hIL] at hil2;obtain ⟨ad18,cp18,rfl⟩:=own_slice hown18';rw [←hIL];have hbO:=Row.owned_keep HOc.out (w':=w18) (fun g hg=>HB18.out.block g (Nat.lt_trans (hlb g hg) hT5))
       have HBW18:=Bas.hid (HBc.out.trans (HB18.out.mono hsc));have Abase:w.heap.size≤w18.heap.size:=HBW18.out.size;have hpre:=HPRE.out;clear hown18 hown18' hg18 hat18 c53 hIL;go_wp2_with (fail);refine (put_any c.first 4 w.heap.size _ _ w18 (by omega) (by omega) (by omega) (by omega) Abase hbO).mono ?_
       rintro e wP ⟨vP,rfl,gP⟩;go_wp2_with (fail);refine (put_any (16+(IL:Int)) 4 w.heap.size _ _ wP (by omega) (by omega) (by omega) (by simp only [List.length_append,putB_len];simp only [List.length_append] at hpre;omega) (Nat.le_trans Abase gP.grow.size) gP.own).mono ?_
       rintro e wQ ⟨vQ,rfl,gQ⟩;have gPQ:=gP.trans gQ;have hvin:∀g,vb.ownBlock=some g→g<Wc.heap.size:=fun g hg=>Nat.lt_trans (hlb g hg) hT5
       have kQ:wQ.heap[T5]? =_:=(gPQ.grow.block T5 (Nat.lt_of_lt_of_le hT5 HB18.out.size) (fun e=>Nat.lt_irrefl _ (hlb _ e.symm))).trans kk5
       have inQ:=Row.owned_keep HO18.out (w':=wQ) (fun g hg=>gPQ.grow.block g (Row.own_block HO18.out hg).2 (fun e=>Nat.lt_irrefl _ (Nat.lt_of_lt_of_le (hvin _ e.symm) (Row.own_block HO18.out hg).1)))
       have neQ5:vQ.ownBlock≠some T5:=by
        intro e;rcases gPQ.at' with h|⟨g,h,h2⟩
        ·exact Nat.lt_irrefl _ (hlb _ (h▸e))
        ·rw [h] at e;cases e;exact absurd (Nat.lt_of_lt_of_le hT5 HB18.out.size) (Nat.not_lt.2 h2)
       have neQi:∀g,Value.ownBlock (.slice ad18 (inB c).length cp18)=some g→vQ.ownBlock≠some g:=by
        intro g hg e;rcases gPQ.at' with h|⟨g',h,h2⟩
        ·exact Nat.lt_irrefl _ (Nat.lt_of_lt_of_le (hvin _ (h▸e)) (Row.own_block HO18.out hg).1)
        ·rw [h] at e;cases e;exact absurd (Row.own_block HO18.out hg).2 (Nat.not_lt.2 h2)
       have HBQ:=Bas.hid (gPQ.below HBW18.out Abase (fun g hg=>(Row.own_block hbO hg).1))
       have Bbase:w.heap.size≤wQ.drew.heap.size:=HBQ.out.size;have BO:=gPQ.own;have HINQ:=Bas.hid inQ;have HNEI:=Bas.hid neQi;rw [←HIL.out] at HINQ HNEI;clear gP gQ gPQ kk5 c50 hbO inQ neQi HB18 HO18 HBW18 Abase HOc;go_wp2_with (fail);have Bd:=Row.owned_keep BO (w':=wQ.drew) (fun _ _=>rfl)
       obtain ⟨BI,BF,Bi,BF0,BFg,BFw,BFb⟩:=Pl.fam_g wQ vQ.ownBlock;have Bc0:=fun q=>(Bas.gcell (BFb q) (b:=T5) (o:=1) (heap_lt kQ) neQ5).trans (cell_of_heap (i:=1) (v:=.slice ar i cr) kQ rfl)
       have Bc1:=fun q=>(Bas.gcell (BFb q) (b:=T5) (o:=2) (heap_lt kQ) neQ5).trans (cell_of_heap (i:=2) (v:=.slice as' j cs') kQ rfl)
       have BFH:=Bas.hid BF0;have BhI:Nonempty BI:=⟨Bi⟩;have BFW:=Bas.hid BFw;clear BF0 BFw BFg BFb;refine Pl.region_plan0 Bi [(true,0),(true,1),(true,2),(true,3),(true,5),(true,6),(true,7),(true,9),(false,4),(false,8),(false,10),(false,11)] [8,10,11] (by kernel_rfl) (by kernel_rfl) (fun _ _ _ _ e h=>⟨e▸h.1,h.2⟩) BFH.out ?_
       refine Pl.head_sel0 [(true,0),(true,1),(true,2),(true,3),(true,5),(true,6),(true,7),(true,9)] (by kernel_rfl) (by kernel_rfl) ?_
       simp only [Pl.sel,List.drop_succ_cons,List.drop_zero];repeat (go_big_quiet_step (fail))
       refine wpQuiet_nil ?_;rw [←BFH.out];clear Bc0 Bc1 BFH;refine Pl.one_sel (by kernel_rfl) ?_
       intro Q' hQ' hP';simp only [Pl.sel,List.drop_succ_cons,List.drop_zero];go_wp2_with (fail);refine (put_any (i:Int) 4 w.heap.size _ _ wQ.drew (by omega) (by omega) (by omega) (by simp only [List.length_append,putB_len];simp only [List.length_append] at hpre;omega) Bbase Bd).mono ?_
       rintro e Bw1 ⟨Bv1,rfl,Bg1⟩;have Bgg:=Bas.gtrans (Bas.gdrew (Bas.grefl wQ _)) Bg1.grow;go_wp2_with (fail);refine hQ' _ _ (fun _ _=>BFW.out _ Bgg) ?_
       clear hQ' hP' Q' Bgg BFW;refine Pl.tail_sel [(false,8),(false,10),(false,11)] (by kernel_rfl) (by kernel_rfl) ?_
       simp only [Pl.sel,List.drop_succ_cons,List.drop_zero];go_wp2_with (fail);refine (put_any (j:Int) 4 w.heap.size _ _ Bw1 (by omega) (by omega) (by omega) (by simp only [List.length_append,putB_len];simp only [List.length_append] at hpre;omega) (Nat.le_trans Bbase Bg1.grow.size) Bg1.own).mono ?_
       rintro e Bw2 ⟨Bv2,rfl,Bg2⟩;have Bg:=Bg1.trans Bg2;have inB2:=Row.owned_keep HINQ.out (w':=Bw2) (fun g hg=>Bg.grow.block g (Row.own_block HINQ.out hg).2 (fun e=>HNEI.out g hg e.symm))
       clear Bg1 Bg2;go_wp2_with (at_builtin;refine Row.fence ?_);refine Row.unfence ?_;refine Row.append_at rfl _ _ 47 5 rfl (.int .u8 0) 1 1 Tryz.underlying47 info8 rfl (by decide) w.heap.size Bv2 _ _ rfl Bg.own (.slice ad18 IL cp18) IL _ rfl (Row.leads_owned inB2) (by simp [←HIL.out]) (by simp;intros;rfl) (by unfold maxLen;simp only [List.length_append,putB_len];simp only [List.length_append] at hpre;omega) (by simp only [List.length_append,putB_len];simp only [List.length_append] at hpre;omega) (Nat.le_trans Bbase Bg.grow.size) ?_
       intro v9 w9 h91 h92 _ h93;have g9:Grown wQ.drew w.heap.size vQ (headB n++(l.take (k+1)).flatMap chainB) v9 w9:=by
        have hx:headB n++(l.take (k+1)).flatMap chainB=headB n++(l.take k).flatMap chainB++putB c.first 4++putB (16+(IL:Int)) 4++putB (i:Int) 4++putB (j:Int) 4++inB c:=by
         rw [Row.take_flat chainB l k c HCK.out,HCH.out,←HIL.out,←HNR.out,←HNS.out];simp only [List.append_assoc]
        rw [hx];exact Bg.trans ⟨by simpa only [List.map_append,List.length_append,HIL.out,Nat.add_assoc] using h91,h92,h93.imp id fun h=>⟨_,h,Nat.le_refl _⟩⟩
       have HBF:=Bas.hid (g9.below (HBQ.out.drew) (by exact HBQ.out.size) (fun g hg=>(Row.own_block BO hg).1))
       have HOF:=Bas.hid g9.own;clear g9 Bg h91 h92 h93 inB2 BO kQ neQ5 Bd;go_wp2_with (fail);go_roundw
       case rel=>exact ⟨k+1,_,by omega,by go_num,rfl,HOF.out,HBF.out⟩
       case measure=>simp [intOf];omega
  ·have hkn2:k=n:=by omega
   have hfin:headB n++(l.take k).flatMap chainB=writeB l:=by
    unfold writeB;rw [hkn2,HN.out,List.take_length]
   rw [hfin] at HO;obtain ⟨ad9,cp9,rfl⟩:=own_slice HO.out;clear hown hb hfin;go_wp2_with (fail);go_ret;exact ⟨_,rfl,HO.out,HB.out⟩
end Ch
namespace Tk
open Vw
theorem cell_of_heap{w:World}{b i:Nat}{cs:Array Value}{t:TypeId}{v:Value}(h:w.heap[b]? =some (.cells cs t (0,0)))(hi:cs[i]? =some v):w.cell? ⟨b,i,none⟩=some v:=by
 simp [World.cell?,h,hi]
theorem free_of_heap{w:World}{b i:Nat}{cs:Array Value}{t:TypeId}(h:w.heap[b]? =some (.cells cs t (0,0))):w.frozen? ⟨b,i,none⟩=false:=by
 simp [World.frozen?,h]
theorem heap_set{w:World}{b i:Nat}{cs:Array Value}{t:TypeId}(h:w.heap[b]? =some (.cells cs t (0,0)))(v:Value):(w.setCell ⟨b,i,none⟩ v).heap[b]? =some (.cells (cs.setIfInBounds i v) t (0,0)):=by
 simp [World.setCell,Array.getElem?_modify,h]
theorem heap_lt{w:World}{b:Nat}{o:Obj}(h:w.heap[b]? =some o):b<w.heap.size:=(Array.getElem?_eq_some_iff.1 h).1
theorem leads_heap{w:World}{g n c:Nat}{cs:List Value}{t:TypeId}(h:w.heap[g]? =some (.cells cs.toArray t (0,0))):Row.Leads w (.slice (some ⟨g,0,none⟩) n c) n cs:=
 .inr ⟨_,c,rfl,fun j u hu=>by rw [Addr.add_lit,Nat.zero_add];exact cell_of_heap h (by simpa using hu)⟩
theorem own_ty{w:World}{base:Nat}{v:Value}{n g size:Nat}{xs:List Value}{e t:TypeId}{cs:Array Value}(h:w.ownsRow base e size v n xs)(ho:w.heap[g]? =some (.cells cs t (0,0)))(hne:e≠t):v.ownBlock≠some g:=by
 intro e';obtain ⟨_,⟨rfl,_⟩|⟨g',cp,cur,rfl,_,hh,_⟩⟩:=h
 ·cases e'
 ·cases e';rw [hh] at ho;simp at ho;exact hne ho.2
structure TrackD where
 sizes:List Int
 vals:List Int
def TrkOwn(w:World)(base:Nat)(v1 v2:Value)(t:TrackD):Prop:=
 w.ownsRow base 3 1 v1 t.sizes.length (t.sizes.map (Value.int .i64))∧w.ownsRow base 3 1 v2 t.vals.length (t.vals.map (Value.int .i64))
def TabOk(w:World)(base g:Nat)(t1 t2:TrackD):Prop:=
 base≤g∧∃a1 v1 a2 v2,w.heap[g]? =some (.cells #[a1,v1,a2,v2] 233 (0,0))∧TrkOwn w base a1 v1 t1∧TrkOwn w base a2 v2 t2
def firstGE:List Int→Int→Nat
 |[],_=>0
 |x::l,s=>if x<s then firstGE l s+1 else 0
theorem firstGE_eq:∀(l:List Int) (s:Int) (k:Nat),k≤l.length→(∀j,j<k→l.getD j 0<s)→(k<l.length→s≤l.getD k 0)→firstGE l s=k
 |[],s,k,h,_,_=>by simp at h;subst h;rfl
 |x::l,s,0,_,_,h2=>by
  have:s≤x:=by simpa using h2 (by simp)
  unfold firstGE;rw [if_neg (by omega)]
 |x::l,s,k+1,h,h1,h2=>by
  have h0:x<s:=by simpa using h1 0 (by omega)
  unfold firstGE;rw [if_pos h0,firstGE_eq l s k (by simpa using h) (fun j hj=>by simpa using h1 (j+1) (by omega)) (fun hk=>by simpa using h2 (by simpa using hk))]
def atV(t:TrackD)(size:Int):Int:=
 if t.vals.length=0 then 0
 else if firstGE t.sizes size=0 then t.vals.getD 0 0
 else if firstGE t.sizes size=t.vals.length then t.vals.getD (t.vals.length - 1) 0
 else t.vals.getD (firstGE t.sizes size - 1) 0+((t.vals.getD (firstGE t.sizes size) 0 - t.vals.getD (firstGE t.sizes size - 1) 0)*(size - t.sizes.getD (firstGE t.sizes size - 1) 0)) / (t.sizes.getD (firstGE t.sizes size) 0 - t.sizes.getD (firstGE t.sizes size - 1) 0)
def valueV(t:TrackD×TrackD)(direction size:Int):Int:=if direction=2 then atV t.2 size else if direction=0∨direction=1 then atV t.1 size else 0
structure TrkV (t:TrackD):Prop where
 len:t.sizes.length=t.vals.length
 rise:∀i j,i<j→j<t.sizes.length→t.sizes.getD i 0<t.sizes.getD j 0
 sb:∀i,-2147483648≤t.sizes.getD i 0∧t.sizes.getD i 0≤2147483647
 vb:∀i,-32768≤t.vals.getD i 0∧t.vals.getD i 0≤32767
 few:t.vals.length≤65535
theorem tdiv_down(a b:Int)(hb:0<b)(h:Int.tmod a b<0):Int.tdiv a b - 1=a / b:=by
 have h1:=Int.mul_tdiv_add_tmod a b;have h2:=Int.mul_ediv_add_emod a b;have h3:=Int.emod_nonneg a (Int.ne_of_gt hb);have h4:=Int.emod_lt_of_pos a hb;have h5:=Int.lt_tmod_of_pos a hb;generalize a / b=q at*;generalize Int.tdiv a b=t at*;generalize a%b=r at*;generalize Int.tmod a b=s at*;have e:b*(t - q)=r - s:=by rw [Int.mul_sub];omega
 have hq:t - q=1:=by
  rcases Int.lt_trichotomy (t - q) 1 with h|h|h
  ·have:b*(t - q)≤b*0:=Int.mul_le_mul_of_nonneg_left (by omega) (by omega)
   omega
  ·exact h
  ·have:b*2≤b*(t - q):=Int.mul_le_mul_of_nonneg_left (by omega) (by omega)
   omega
 omega
theorem tdiv_even(a b:Int)(hb:0<b)(h:¬Int.tmod a b<0):Int.tdiv a b=a / b:=by
 have h1:=Int.mul_tdiv_add_tmod a b;have h2:=Int.mul_ediv_add_emod a b;have h3:=Int.emod_nonneg a (Int.ne_of_gt hb);have h4:=Int.emod_lt_of_pos a hb;have h5:=Int.tmod_lt_of_pos a hb;generalize a / b=q at*;generalize Int.tdiv a b=t at*;generalize a%b=r at*;generalize Int.tmod a b=s at*;have e:b*(t - q)=r - s:=by rw [Int.mul_sub];omega
 rcases Int.lt_trichotomy (t - q) 0 with h|h|h
 ·have:b*(t - q)≤b*(-1):=Int.mul_le_mul_of_nonneg_left (by omega) (by omega)
  omega
 ·omega
 ·have:b*1≤b*(t - q):=Int.mul_le_mul_of_nonneg_left (by omega) (by omega)
  omega
theorem floor_ok(x y:Int)(w:World)(hx:-1152921504606846976≤x∧x≤1152921504606846976)(hy:0<y∧y≤1152921504606846976):
  Calls Tryz.prog 186 #[.int .i64 x,.int .i64 y] w fun e w'=>e=.returned (.int .i64 (x / y))∧w=w':=by
 have h0:(y==0)=false:=by simp;omega
 have hb:-1152921504606846976≤Int.tdiv x y∧Int.tdiv x y≤1152921504606846976:=by
  have:=Int.natAbs_tdiv_le_natAbs x y;omega
 have hm:-1152921504606846976≤Int.tmod x y∧Int.tmod x y≤1152921504606846976:=by
  have:=Int.lt_tmod_of_pos x hy.1;have:=Int.tmod_lt_of_pos x hy.1;omega
 by_cases hn:Int.tmod x y<0
 ·have hd:=Bas.hid (tdiv_down x y hy.1 hn);have hnb:decide (Int.tmod x y<0)=true:=by simpa using hn
  go_enter Tryz.func186,Tryz.ntmps186
  go_wp2_with (fail);go_ret;exact ⟨by rw [hd.out];rfl,rfl⟩
 ·have hd:=Bas.hid (tdiv_even x y hy.1 hn);have hnb:decide (Int.tmod x y<0)=false:=by simpa using hn
  go_enter Tryz.func186,Tryz.ntmps186
  go_wp2_with (fail);go_ret;exact ⟨by rw [hd.out];rfl,rfl⟩
theorem leads_cell{w:World}{base:Nat}{v:Value}{l:List Int}(h:w.ownsRow base 3 1 v l.length (l.map (Value.int .i64))):
  ∃ad cp,v=.slice ad l.length cp∧∀j,j<l.length→∃G,ad=some ⟨G,0,none⟩∧G<w.heap.size∧w.cell? ⟨G,j,none⟩=some (.int .i64 (l.getD j 0)):=by
 rcases Row.owned_parts h with ⟨h1,h2,_⟩|⟨G,cp,h1,_,hG,_,_,hc,_⟩
 ·rw [h2];exact ⟨_,_,h1,fun j hj=>by omega⟩
 ·exact ⟨_,_,h1,fun j hj=>⟨G,rfl,hG,hc j _ (by rw [List.getElem?_map,List.getElem?_eq_getElem hj,List.getD_eq_getElem?_getD,List.getElem?_eq_getElem hj];rfl)⟩⟩
theorem at1_ok(b1 b2:Nat)(v2:Value)(G n cp:Nat)(x size:Int)(j:Nat)(w:World)(hj:j<n)(_hn:n≤65535)
  (h1:w.heap[b1]? =some (.cells #[.slice (some ⟨G,0,none⟩) n cp,v2] 231 (0,0))) (h2:w.heap[b2]? =some (.cells #[.int .i64 size] 3 (0,0))) (hG:G<w.heap.size) (hc:w.cell? ⟨G,j,none⟩=some (.int .i64 x)):
  Calls Tryz.prog 185 #[.int .i64 j,.pointer (some ⟨b1,0,none⟩),.pointer (some ⟨b2,0,none⟩)] w fun e w'=>e=.returned (.bool (decide (size≤x)))∧Below w.heap.size w w':=by
 have HBR:=Bas.hid (Below.refl w.heap.size w);go_enter Tryz.func185,Tryz.ntmps185
 go_wp2_with (fail);refine' Pl.region_v0 12 [] [0,1,2,3,4,5,6,7] [] _ (by kernel_rfl) (by kernel_rfl) (by simp) (fun _ _ _ _ e h=>⟨e▸h.1,h.2⟩) ?_ ?_
 rotate_left
 ·intro I F hI hF;simp only [Pl.selN,List.nil_append,List.drop_succ_cons,List.drop_zero];have x1:=fun i=>hF.cell (heap_lt h1) (cell_of_heap (i:=0) (v:=.slice (some ⟨G,0,none⟩) n cp) h1 rfl) i
  have x2:=fun i=>hF.cell (heap_lt h2) (cell_of_heap (i:=0) (v:=.int .i64 size) h2 rfl) i
  have x3:=fun i=>hF.cell hG hc i
  repeat (go_big_quiet_step (fail))
  refine wpQuiet_nil ?_;rfl
 intro u hu;simp only [Pl.selN];have HB:=Bas.hid (HBR.out.trans hu);clear hu HBR;go_wp2_with (fail);go_ret;exact ⟨rfl,HB.out⟩
def AtR(W:World)(S:Nat→Int)(size:Int)(n:Nat)(lo hi:Nat)(wr:World):Prop:=Below W.heap.size W wr∧(∀j,j<lo→S j<size)∧∀j,hi≤j→j<n→size≤S j
def atK(S V:Nat→Int)(size:Int)(n k:Nat):Int:=
 if n=0 then 0 else if k=0 then V 0 else if k=n then V (n - 1) else V (k - 1)+(V k - V (k - 1))*(size - S (k - 1)) / (S k - S (k - 1))
def AtP(w:World)(S V:Nat→Int)(size:Int)(n:Nat)(e:Ending)(w':World):Prop:=
 ∃k,k≤n∧(∀j,j<k→S j<size)∧(∀j,k≤j→j<n→size≤S j)∧e=.returned (.int .i64 (atK S V size n k))∧Below w.heap.size w w'
theorem mul_bd(x y:Int)(hx:-65535≤x∧x≤65535)(hy:0≤y∧y≤4294967295):-281474976710656≤x*y∧x*y≤281474976710656:=by
 have h1:x*y≤65535*y:=Int.mul_le_mul_of_nonneg_right hx.2 hy.1;have h2:-65535*y≤x*y:=Int.mul_le_mul_of_nonneg_right hx.1 hy.1;omega
theorem at_zero(v1 v2:Option Addr)(S V:Nat→Int)(size:Int)(w:World)(c1 c2:Nat):
  Calls Tryz.prog 124 #[.agg #[.slice v1 0 c1,.slice v2 0 c2],.int .i64 size] w (AtP w S V size 0):=by
 have hmf:∀(fn:Fn) (first cap:Array Value) (w:World),(Instr.makeFunc fn first cap).run Tryz.prog w=.ok (.func fn first cap) w:=fun _ _ _ _=>rfl
 have hcf:∀args w,(callFunc 185 args).run Tryz.prog w=.ok (.enter 185 args) w:=fun args w=>by simp [go_sem]
 have HCF:=Bas.hid hcf;clear hcf;go_enter Tryz.func124,Tryz.ntmps124
 go_wp2_with (fail);have HB0:=Bas.hid (((Below.refl w.heap.size w).alloc (Nat.le_refl _) (.cells #[.slice v1 0 c1,.slice v2 0 c2] 231)).alloc (by simp) (.cells #[.int .i64 size] 3))
 generalize (w.alloc (.cells #[.slice v1 0 c1,.slice v2 0 c2] 231)).alloc (.cells #[.int .i64 size] 3)=W at*;refine (Sk.first_any _ _ (AtR W S size 0) 0 _ (by omega) HCF.out (fun lo hi w h1 h2=>by omega) ⟨Below.refl _ _,fun j h=>by omega,fun j _ h=>by omega⟩).mono ?_
 rintro e w2 ⟨k,hk,rfl,hb,_,_⟩;obtain rfl:k=0:=by omega
 have HB:=Bas.hid (HB0.out.trans (hb.mono HB0.out.size));clear hb HB0 hk;go_wp2_with (fail);go_ret;exact ⟨0,Nat.le_refl _,fun j h=>by omega,fun j _ h=>by omega,rfl,HB.out⟩
theorem at_core(n G1 G2 c1 c2:Nat)(S V:Nat→Int)(size:Int)(w:World)(hn0:0<n)(hn:n≤65535)(hsz:-2147483648≤size∧size≤2147483647)(hG1:G1<w.heap.size)(hG2:G2<w.heap.size)
  (hS:∀j,j<n→w.cell? ⟨G1,j,none⟩=some (.int .i64 (S j))) (hV:∀j,j<n→w.cell? ⟨G2,j,none⟩=some (.int .i64 (V j)))
  (hrise:∀i j,i<j→j<n→S i<S j) (hsb:∀i,-2147483648≤S i∧S i≤2147483647) (hvb:∀i,-32768≤V i∧V i≤32767):
  Calls Tryz.prog 124 #[.agg #[.slice (some ⟨G1,0,none⟩) n c1,.slice (some ⟨G2,0,none⟩) n c2],.int .i64 size] w (AtP w S V size n):=by
 have hmf:∀(fn:Fn) (first cap:Array Value) (w:World),(Instr.makeFunc fn first cap).run Tryz.prog w=.ok (.func fn first cap) w:=fun _ _ _ _=>rfl
 have hcf:∀args w,(callFunc 185 args).run Tryz.prog w=.ok (.enter 185 args) w:=fun args w=>by simp [go_sem]
 have HCF:=Bas.hid hcf;clear hcf;have HS:=Bas.hid hS;have HV:=Bas.hid hV;have HR:=Bas.hid hrise;have HSB:=Bas.hid hsb;have HVB:=Bas.hid hvb;clear hS hV hrise hsb hvb;go_enter Tryz.func124,Tryz.ntmps124
 go_wp2_with (fail);have HB0:=Bas.hid (((Below.refl w.heap.size w).alloc (Nat.le_refl _) (.cells #[.slice (some ⟨G1,0,none⟩) n c1,.slice (some ⟨G2,0,none⟩) n c2] 231)).alloc (by simp) (.cells #[.int .i64 size] 3))
 have k1:((w.alloc (.cells #[.slice (some ⟨G1,0,none⟩) n c1,.slice (some ⟨G2,0,none⟩) n c2] 231)).alloc (.cells #[.int .i64 size] 3)).heap[w.heap.size]? =some (.cells #[.slice (some ⟨G1,0,none⟩) n c1,.slice (some ⟨G2,0,none⟩) n c2] 231 (0,0)):=by
  rw [Below.heap_alloc _ _ _ (by simp)];exact Bas.heap_new _ _
 have k2:=Bas.heap_new2 w (.cells #[.slice (some ⟨G1,0,none⟩) n c1,.slice (some ⟨G2,0,none⟩) n c2] 231) (.cells #[.int .i64 size] 3);generalize (w.alloc (.cells #[.slice (some ⟨G1,0,none⟩) n c1,.slice (some ⟨G2,0,none⟩) n c2] 231)).alloc (.cells #[.int .i64 size] 3)=W at*;have hWs:=HB0.out.size;have hcS:∀wr,Below W.heap.size W wr→∀j,j<n→wr.cell? ⟨G1,j,none⟩=some (.int .i64 (S j)):=fun wr hb j hj=>
  ((HB0.out.trans (hb.mono hWs)).cell (p:=⟨G1,j,none⟩) hG1).trans (HS.out j hj)
 have hcV:∀wr,Below W.heap.size W wr→∀j,j<n→wr.cell? ⟨G2,j,none⟩=some (.int .i64 (V j)):=fun wr hb j hj=>
  ((HB0.out.trans (hb.mono hWs)).cell (p:=⟨G2,j,none⟩) hG2).trans (HV.out j hj)
 refine (Sk.first_any _ #[.pointer (some ⟨w.heap.size,0,none⟩),.pointer (some ⟨w.heap.size+1,0,none⟩)] (AtR W S size n) n _ (by omega) HCF.out ?_ ⟨Below.refl _ _,fun j h=>by omega,fun j h h'=>by omega⟩).mono ?_
 ·rintro lo hi wr hlt hhi ⟨hb,hA,hB⟩;have hm:lo+(hi - lo) / 2<hi∧lo≤lo+(hi - lo) / 2:=by omega
  generalize lo+(hi - lo) / 2=mid at hm ⊢;refine (at1_ok w.heap.size (w.heap.size+1) (.slice (some ⟨G2,0,none⟩) n c2) G1 n c1 (S mid) size mid wr (by omega) hn ((hb.block _ (heap_lt k1)).trans k1) ((hb.block _ (heap_lt k2)).trans k2) (by have:=hb.size;omega) (hcS wr hb mid (by omega))).mono ?_
  rintro e w' ⟨rfl,hb'⟩;have hbb:=hb.trans (hb'.mono hb.size);refine ⟨_,rfl, ?_⟩;by_cases hx:size≤S mid
  ·refine .inl ⟨by simpa using hx,hbb,hA,fun j h1 h2=> ?_⟩
   by_cases hj:mid=j
   ·subst hj;exact hx
   ·have:=HR.out mid j (by omega) h2;omega
  ·refine .inr ⟨by simpa using hx,hbb,fun j h1=> ?_,hB⟩
   by_cases hj:j=mid
   ·subst hj;omega
   ·have:=HR.out j mid (by omega) (by omega);omega
 rintro e w2 ⟨k,hk,rfl,hb,hA,hB⟩;have HA:=Bas.hid hA;have HBB:=Bas.hid hB;have HB:=Bas.hid (HB0.out.trans (hb.mono hWs));have m1:=(hb.block _ (heap_lt k1)).trans k1;have m2:=(hb.block _ (heap_lt k2)).trans k2;have hG1':G1<w2.heap.size:=by have:=hb.size;omega
 have hG2':G2<w2.heap.size:=by have:=hb.size;omega
 have HCS:=Bas.hid (hcS w2 hb);have HCV:=Bas.hid (hcV w2 hb);have cx:=cell_of_heap (i:=0) (v:=.slice (some ⟨G1,0,none⟩) n c1) m1 rfl;have cy:=cell_of_heap (i:=1) (v:=.slice (some ⟨G2,0,none⟩) n c2) m1 rfl;have cz:=cell_of_heap (i:=0) (v:=.int .i64 size) m2 rfl;have hnz:((n:Int)==0)=false:=by simp;omega
 clear hA hB hb hcS hcV HB0 hWs k1 k2 HS HV HCF hmf hG1 hG2;by_cases hk0:k=0
 ·have hkb:((k:Int)==0)=true:=by simp;omega
  have cv:=HCV.out 0 (by omega)
  have HK:Hid (atK S V size n k=V 0):=by unfold Hid atK;rw [if_neg (by omega),if_pos hk0]
  clear hk0;go_wp2_with (fail);go_ret;exact ⟨k,hk,HA.out,HBB.out,by rw [HK.out];rfl,HB.out⟩
 ·have hkb:((k:Int)==0)=false:=by simp;omega
  by_cases hkn:k=n
  ·have hkc:((k:Int)==(n:Int))=true:=by simp;omega
   obtain ⟨m,hm⟩:∃m,n=m+1:=⟨n - 1,by omega⟩
   have em:(n:Int) - 1=(m:Int):=by omega
   have cv:=HCV.out m (by omega)
   have hmn:m<n:=by omega
   have HK:Hid (atK S V size n k=V m):=by unfold Hid atK;rw [if_neg (by omega),if_neg hk0,if_pos hkn,hm];rfl
   clear hk0 hkn hm;go_wp2_with (fail);go_ret;exact ⟨k,hk,HA.out,HBB.out,by rw [HK.out];rfl,HB.out⟩
  ·have hkc:((k:Int)==(n:Int))=false:=by simp;omega
   obtain ⟨m,hm⟩:∃m,k=m+1:=⟨k - 1,by omega⟩
   have em:(k:Int) - 1=(m:Int):=by omega
   have hkn':k<n:=by omega
   have hmn:m<n:=by omega
   have cv1:=HCV.out m hmn;have cv2:=HCV.out k hkn';have cs1:=HCS.out m hmn;have cs2:=HCS.out k hkn';have q1:=HSB.out m;have q2:=HSB.out k;have q3:=HVB.out m;have q4:=HVB.out k;have q5:=HR.out m k (by omega) hkn'
   have q6:=HA.out m (by omega)
   have q7:=HBB.out k (Nat.le_refl _) hkn';have q8:=mul_bd (V k - V m) (size - S m) (by omega) (by omega)
   have q9:-65535≤(V k - V m)*(size - S m) / (S k - S m)∧(V k - V m)*(size - S m) / (S k - S m)≤65535:=by
    have hp:0<S k - S m:=by omega
    constructor
    ·refine (Int.le_ediv_iff_mul_le hp).2 ?_;rcases Int.le_total 0 (V k - V m) with h|h
     ·have:=Int.mul_nonneg h (show 0≤size - S m by omega);omega
     ·have h1:(V k - V m)*(S k - S m)≤(V k - V m)*(size - S m):=Int.mul_le_mul_of_nonpos_left h (by omega)
      have h2:-65535*(S k - S m)≤(V k - V m)*(S k - S m):=Int.mul_le_mul_of_nonneg_right (by omega) (by omega)
      omega
    ·refine Int.le_of_lt_add_one (Int.ediv_lt_of_lt_mul hp ?_);rcases Int.le_total 0 (V k - V m) with h|h
     ·have h1:(V k - V m)*(size - S m)≤(V k - V m)*(S k - S m):=Int.mul_le_mul_of_nonneg_left (by omega) h
      have h2:(V k - V m)*(S k - S m)≤65535*(S k - S m):=Int.mul_le_mul_of_nonneg_right (by omega) (by omega)
      omega
     ·have:=Int.mul_nonneg (show 0≤-(V k - V m) by omega) (show 0≤size - S m by omega)
      rw [Int.neg_mul] at this;omega
   have HK:Hid (atK S V size n k=V m+(V k - V m)*(size - S m) / (S k - S m)):=by unfold Hid atK;rw [if_neg (by omega),if_neg hk0,if_neg hkn,show k - 1=m by omega]
   have HF:=Bas.hid (fun w'=>floor_ok ((V k - V m)*(size - S m)) (S k - S m) w' (by omega) (by omega))
   generalize hqq:(V k - V m)*(size - S m) / (S k - S m)=qq at*;generalize S k=sk at*;generalize S m=sm at*;generalize V k=vk at*;generalize V m=vm at*;clear hk0 hkn hm HCV HCS HSB HVB HR hqq;go_wp2_with (fail);refine' Pl.region_v0 73 [] [0,1,2,3,4,5,6,7,8,9,10,11,12] [] _ (by kernel_rfl) (by kernel_rfl) (by simp) (fun _ _ _ _ e h=>⟨e▸h.1,h.2⟩) ?_ ?_
   rotate_left
   ·intro I F hI hF;simp only [Pl.selN,List.nil_append,List.drop_succ_cons,List.drop_zero];have x1:=fun i=>hF.cell (heap_lt m1) cx i
    have x3:=fun i=>hF.cell hG1' cs1 i
    have x4:=fun i=>hF.cell hG1' cs2 i
    repeat (go_big_quiet_step (fail))
    refine wpQuiet_nil ?_;rfl
   intro u hu;simp only [Pl.selN];have HBU:=Bas.hid (HB.out.trans (hu.mono HB.out.size));have x1:=(hu.cell (p:=⟨w.heap.size,1,none⟩) (heap_lt m1)).trans cy;have x2:=(hu.cell (p:=⟨w.heap.size+1,0,none⟩) (heap_lt m2)).trans cz;have x3:=(hu.cell (p:=⟨G2,m,none⟩) hG2').trans cv1;have x4:=(hu.cell (p:=⟨G2,k,none⟩) hG2').trans cv2;have l1:w.heap.size<u.heap.size:=Nat.lt_of_lt_of_le (heap_lt m1) hu.size;have l2:w.heap.size+1<u.heap.size:=Nat.lt_of_lt_of_le (heap_lt m2) hu.size;have l3:G2<u.heap.size:=Nat.lt_of_lt_of_le hG2' hu.size;clear hu cs1 cs2 cx cy cz cv1 cv2 HB hG1' m1 m2 hG2';go_wp2_with (fail);refine' Pl.region_v1 73 [] [0,1,2,3,4,5,6,7,8,9,10,11,12,13,14,15,16,17,18,19,20,21,22,23,24] 25 71 [26,27] _ (fun v u'=>v=.int .i64 qq) (by kernel_rfl) (by kernel_rfl) (by simp) (fun _ _ _ _ e h=>⟨e▸h.1,h.2⟩) ?_ ?_ ?_ ?_
   rotate_left
   ·intro I F hI hF;simp only [Pl.selN,List.nil_append,List.drop_succ_cons,List.drop_zero];have y1:=fun i=>hF.cell l1 x1 i
    have y2:=fun i=>hF.cell l2 x2 i
    have y3:=fun i=>hF.cell l3 x3 i
    have y4:=fun i=>hF.cell l3 x4 i
    repeat (go_big_quiet_step (fail))
    refine wpQuiet_nil ?_;rfl
   ·exact fun _ _ _ h _ _=>h
   ·simp only [Pl.selN,List.drop_succ_cons,List.drop_zero,List.mem_singleton,forall_eq];intro u' hu
    go_simp
    simp only [Pl.valsAt];refine (HF.out u').mono ?_;rintro e w'' ⟨rfl,rfl⟩;exact .inl ⟨_,rfl,Below.refl _ _,rfl⟩
   intro v u2 hu hv;subst hv;simp only [Pl.selN,List.drop_succ_cons,List.drop_zero,Act.put,List.setIfInBounds_toArray,List.set_cons_zero,List.set_cons_succ];have HBX:=Bas.hid (HBU.out.trans (hu.mono HBU.out.size));clear hu x1 x2 x3 x4 HBU;go_wp2_with (fail);go_ret;exact ⟨k,hk,HA.out,HBB.out,by rw [HK.out];rfl,HBX.out⟩
theorem atK_atV(t:TrackD)(hV:TrkV t)(size:Int)(k:Nat)(hk:k≤t.vals.length)(hA:∀j,j<k→t.sizes.getD j 0<size)(hB:∀j,k≤j→j<t.vals.length→size≤t.sizes.getD j 0):
  atK (fun i=>t.sizes.getD i 0) (fun i=>t.vals.getD i 0) size t.vals.length k=atV t size:=by
 have hf:firstGE t.sizes size=k:=firstGE_eq _ _ _ (by rw [hV.len];exact hk) hA (fun h=>hB k (Nat.le_refl _) (by rw [←hV.len];exact h))
 unfold atK atV;rw [hf]
theorem at_any(t:TrackD)(v1 v2:Value)(base:Nat)(size:Int)(w:World)(ho:TrkOwn w base v1 v2 t)(hV:TrkV t)(hsz:-2147483648≤size∧size≤2147483647):
  Calls Tryz.prog 124 #[.agg #[v1,v2],.int .i64 size] w fun e w'=>e=.returned (.int .i64 (atV t size))∧Below w.heap.size w w':=by
 obtain ⟨ad1,c1,rfl,h1⟩:=leads_cell ho.1;obtain ⟨ad2,c2,rfl,h2⟩:=leads_cell ho.2;have hl:=hV.len;rw [hl] at h1 ⊢;rcases Nat.eq_zero_or_pos t.vals.length with h0|h0
 ·have hk0:=atK_atV t hV size 0 (Nat.zero_le _) (fun j h=>by omega) (fun j _ h=>by omega)
  rw [h0] at hk0 ⊢;refine (at_zero ad1 ad2 (fun i=>t.sizes.getD i 0) (fun i=>t.vals.getD i 0) size w c1 c2).mono ?_
  rintro e w' ⟨k,hk,hA,hB,rfl,hb⟩;obtain rfl:k=0:=by omega
  exact ⟨by rw [hk0],hb⟩
 ·obtain ⟨G1,rfl,hG1,_⟩:=h1 0 h0;obtain ⟨G2,rfl,hG2,_⟩:=h2 0 h0;refine (at_core t.vals.length G1 G2 c1 c2 (fun i=>t.sizes.getD i 0) (fun i=>t.vals.getD i 0) size w h0 hV.few hsz hG1 hG2 (fun j hj=> ?_) (fun j hj=> ?_) (fun i j hij hj=>hV.rise i j hij (by rw [hl];exact hj)) hV.sb hV.vb).mono ?_
  ·obtain ⟨G,e,_,h⟩:=h1 j hj;cases e;exact h
  ·obtain ⟨G,e,_,h⟩:=h2 j hj;cases e;exact h
  ·rintro e w' ⟨k,hk,hA,hB,rfl,hb⟩;exact ⟨by rw [atK_atV t hV size k hk hA hB],hb⟩
theorem value_any(t:TrackD×TrackD)(base g:Nat)(dir size:Int)(w:World)(ht:TabOk w base g t.1 t.2)(hV1:TrkV t.1)(hV2:TrkV t.2)(hsz:-2147483648≤size∧size≤2147483647)(_hd:-9223372036854775808≤dir∧dir≤9223372036854775807):
  Calls Tryz.prog 74 #[.pointer (some ⟨g,0,none⟩),.int .i64 dir,.int .i32 size] w fun e w'=>e=.returned (.int .i64 (valueV t dir size))∧Below w.heap.size w w':=by
 obtain ⟨hg,a1,v1,a2,v2,hh,o1,o2⟩:=ht;have HA1:=Bas.hid (at_any t.1 a1 v1 base size w o1 hV1 hsz);have HA2:=Bas.hid (at_any t.2 a2 v2 base size w o2 hV2 hsz);have hlt:=heap_lt hh;have e0:=cell_of_heap (i:=0) (v:=a1) hh rfl;have e1:=cell_of_heap (i:=1) (v:=v1) hh rfl;have e2:=cell_of_heap (i:=2) (v:=a2) hh rfl;have e3:=cell_of_heap (i:=3) (v:=v2) hh rfl;have HBR:=Bas.hid (Below.refl w.heap.size w);clear o1 o2 hV1 hV2;by_cases h2:dir=2
 ·have hdb:(dir==2)=true:=by simpa using h2
  have HV:Hid (valueV t dir size=atV t.2 size):=by unfold Hid valueV;rw [if_pos h2]
  clear h2;go_enter Tryz.func74,Tryz.ntmps74
  go_wp2_with (fail);refine HA2.out.mono ?_;rintro e w' ⟨rfl,hb⟩;have HB:=Bas.hid hb;clear hb;go_wp2_with (fail);go_ret;exact ⟨by rw [HV.out];rfl,HB.out⟩
 ·have hdb:(dir==2)=false:=by simpa using h2
  by_cases h0:dir=0
  ·have hdc:(dir==0)=true:=by simpa using h0
   have HV:Hid (valueV t dir size=atV t.1 size):=by unfold Hid valueV;rw [if_neg h2,if_pos (.inl h0)]
   clear h2 h0;go_enter Tryz.func74,Tryz.ntmps74
   go_wp2_with (fail);refine HA1.out.mono ?_;rintro e w' ⟨rfl,hb⟩;have HB:=Bas.hid hb;clear hb;go_wp2_with (fail);go_ret;exact ⟨by rw [HV.out];rfl,HB.out⟩
  ·have hdc:(dir==0)=false:=by simpa using h0
   by_cases h1:dir=1
   ·have hdd:(dir==1)=true:=by simpa using h1
    have HV:Hid (valueV t dir size=atV t.1 size):=by unfold Hid valueV;rw [if_neg h2,if_pos (.inr h1)]
    clear h2 h0 h1;go_enter Tryz.func74,Tryz.ntmps74
    go_wp2_with (fail);refine HA1.out.mono ?_;rintro e w' ⟨rfl,hb⟩;have HB:=Bas.hid hb;clear hb;go_wp2_with (fail);go_ret;exact ⟨by rw [HV.out];rfl,HB.out⟩
   ·have hdd:(dir==1)=false:=by simpa using h1
    have HV:Hid (valueV t dir size=0):=by unfold Hid valueV;rw [if_neg h2,if_neg (by omega)]
    clear h2 h0 h1 HA1 HA2;go_enter Tryz.func74,Tryz.ntmps74
    go_wp2_with (fail);go_ret;exact ⟨by rw [HV.out];rfl,HBR.out⟩
end Tk
namespace Tk
open Vw Wr
structure PTrack where
 of:Int
 vals:List Int
def wTC(x:PTrack×Value):List Value:=[.int .i32 x.1.of,x.2]
def wI32(x:Int):List Value:=[.int .i32 x]
def wI16(x:Int):List Value:=[.int .i16 x]
theorem wTC_len(x:PTrack×Value):(wTC x).length=2:=rfl
theorem wI32_len(x:Int):(wI32 x).length=1:=rfl
theorem wI16_len(x:Int):(wI16 x).length=1:=rfl
def PTracks(w:World)(v:Value)(l:List PTrack):Prop:=∃rs:List Value,rs.length=l.length∧Row.Leads w v l.length ((l.zip rs).flatMap wTC)∧
 ∀(i:Nat) (c:PTrack) (r:Value),l[i]? =some c→rs[i]? =some r→Row.Leads w r c.vals.length (c.vals.flatMap wI16)
theorem PTracks.below{w w':World}{v:Value}{l:List PTrack}(h:PTracks w v l)(hb:Below w.heap.size w w'):PTracks w' v l:=by
 obtain ⟨rs,h1,h2,h3⟩:=h;exact ⟨rs,h1,Row.leads_below h2 hb,fun i c r hc hr=>Row.leads_below (h3 i c r hc hr) hb⟩
def PSizes(w:World)(v:Value)(l:List Int):Prop:=Row.Leads w v l.length (l.flatMap wI32)
def rgTrack(p:PTrack):Prop:=(-2147483648≤p.of∧p.of≤2147483647)∧∀s∈p.vals,-32768≤s∧s≤32767
def rgSizes(l:List Int):Prop:=∀s∈l,-2147483648≤s∧s≤2147483647
def valN(t:PTrack)(i:Nat):Int:=if i<t.vals.length then t.vals.getD i 0%65536 else 0
def rowT(off:Nat)(t:PTrack):List Int:=putB (t.of%4294967296) 4++putB 7 2++putB (off:Int) 2
def rowsT(m:Nat):Nat→List PTrack→List Int
 |_,[]=>[]
 |off,t::l=>rowT off t++rowsT m (off+2*m) l
def valsTo(t:PTrack)(m:Nat):List Int:=(List.range m).flatMap fun i=>putB (valN t i) 2
def insT(m:Nat)(l:List PTrack):List Int:=l.flatMap fun t=>valsTo t m
def szB(s:Int):List Int:=putB (s%4294967296) 4
def headT(n m at':Nat):List Int:=putB (n:Int) 2++putB (m:Int) 2++putB ((at'+8+8*n:Nat):Int) 4
def dataW(S:List Int)(l:List PTrack)(at':Nat):List Int:=
 headT l.length S.length at'++rowsT S.length (at'+8+8*l.length+4*S.length) l++S.flatMap szB++insT S.length l
theorem headT_len(n m a:Nat):(headT n m a).length=8:=by simp [headT,putB_len]
theorem rowT_len(off:Nat)(t:PTrack):(rowT off t).length=8:=by simp [rowT,putB_len]
theorem rowsT_len(m:Nat):∀(l:List PTrack) (off:Nat),(rowsT m off l).length=8*l.length
 |[],_=>rfl
 |p::l,off=>by rw [rowsT,List.length_append,rowT_len,rowsT_len m l,List.length_cons];omega
theorem flat_len{α:Type}(f:α→List Int)(c:Nat)(hf:∀x,(f x).length=c):∀(l:List α),(l.flatMap f).length=c*l.length
 |[]=>by simp
 |x::l=>by rw [List.flatMap_cons,List.length_append,hf,flat_len f c hf l,List.length_cons,Nat.mul_succ];omega
theorem valsTo_len(t:PTrack)(m:Nat):(valsTo t m).length=2*m:=by
 unfold valsTo;rw [flat_len _ 2 (fun i=>by simp [putB_len]),List.length_range]
theorem insT_len(m:Nat)(l:List PTrack):(insT m l).length=2*m*l.length:=flat_len _ (2*m) (fun t=>valsTo_len t m) l
theorem szB_len(s:Int):(szB s).length=4:=by simp [szB,putB_len]
theorem sizeB_len(l:List Int):(l.flatMap szB).length=4*l.length:=flat_len _ 4 szB_len l
theorem dataW_len(S:List Int)(l:List PTrack)(a:Nat):(dataW S l a).length=8+8*l.length+4*S.length+2*S.length*l.length:=by
 simp only [dataW,List.length_append,headT_len,rowsT_len,sizeB_len,insT_len]
theorem rowsT_snoc(m:Nat)(p:PTrack):∀(l:List PTrack) (off:Nat),rowsT m off (l++[p])=rowsT m off l++rowT (off+2*m*l.length) p
 |[],off=>by simp [rowsT]
 |q::l,off=>by
  rw [List.cons_append,rowsT,rowsT_snoc m p l,rowsT,List.length_cons,Nat.mul_succ,List.append_assoc,Nat.add_assoc,Nat.add_comm (2*m)]
theorem rowsT_take(m off:Nat)(l:List PTrack)(k:Nat)(p:PTrack)(h:l[k]? =some p):rowsT m off (l.take (k+1))=rowsT m off (l.take k)++rowT (off+2*m*k) p:=by
 have hk:k<l.length:=(List.getElem?_eq_some_iff.1 h).1;rw [List.take_add_one,h];have:=rowsT_snoc m p (l.take k) off;rw [List.length_take,Nat.min_eq_left (Nat.le_of_lt hk)] at this;exact this
theorem insT_take(m:Nat)(l:List PTrack)(k:Nat)(p:PTrack)(h:l[k]? =some p):insT m (l.take (k+1))=insT m (l.take k)++valsTo p m:=Row.take_flat _ l k p h
theorem valsTo_succ(t:PTrack)(j:Nat):valsTo t (j+1)=valsTo t j++putB (valN t j) 2:=by
 unfold valsTo;rw [List.range_succ,List.flatMap_append];simp
theorem u16_of_i16(s:Int):wrap64 (IntKind.u16.wrap s)=s%65536:=by
 have h:IntKind.u16.wrap s=s%65536:=by simp [IntKind.wrap,IntKind.bits,IntKind.signed]
 rw [h];unfold wrap64;omega
theorem wdata_any(sv tv:Value)(S:List Int)(l:List PTrack)(at':Nat)(w:World)(hS:S.length≤20)(hl:l.length≤10)(hat:at'≤10000)(hrg:∀p∈l,rgTrack p)(hrs:rgSizes S)(hin:PTracks w tv l)(hsz:PSizes w sv S):
  Calls Tryz.prog 31 #[sv,tv,.int .i64 at'] w fun e w'=>∃v',e=.returned v'∧w'.ownsRow w.heap.size 5 1 v' (dataW S l at').length ((dataW S l at').map (Value.int .u8))∧Below w.heap.size w w':=by
 obtain ⟨rs,hrl,hlead,hel⟩:=hin;obtain ⟨ad,cap,rfl⟩:=Row.leads_slice hlead;obtain ⟨sad,scap,rfl⟩:=Row.leads_slice hsz;obtain ⟨n,hn⟩:∃n,n=l.length:=⟨_,rfl⟩;obtain ⟨m,hm⟩:∃m,m=S.length:=⟨_,rfl⟩;have HDW:Hid (dataW S l at'=headT n m at'++rowsT m (at'+8+8*n+4*m) l++S.flatMap szB++insT m l):=by unfold Hid dataW;rw [hn,hm]
 have HDL:=Bas.hid (dataW_len S l at');rw [←hn,←hm] at HDL;rw [←hn,←hm];have hn10:n≤10:=by omega
 have hm20:m≤20:=by omega
 have HN:=Bas.hid hn;have HM:=Bas.hid hm;have HEL:=Bas.hid hel;have HLD:=Bas.hid hlead;have HSZ:=Bas.hid hsz;have HRG:=Bas.hid hrg;have HRS:=Bas.hid hrs;have HRL:=Bas.hid hrl;clear hrl hlead hel hrg hrs hsz hn hm hl hS;have hemp:w.ownsRow w.heap.size 5 1 (.slice none 0 0) ([]:List Int).length (([]:List Int).map (Value.int .u8)):=Row.owned_nil _ _ _ _;have HE:=Bas.hid hemp;clear hemp;go_enter Tryz.func31,Tryz.ntmps31
 go_wp2_with (fail);refine (put_any (n:Int) 2 w.heap.size _ [] w (by omega) (by omega) (by omega) (by simp) (Nat.le_refl _) HE.out).mono ?_
 rintro e w1 ⟨v1,rfl,hg1⟩;go_wp2_with (fail);refine (put_any (m:Int) 2 w.heap.size _ _ w1 (by omega) (by omega) (by omega) (by simp [putB_len]) hg1.grow.size hg1.own).mono ?_
 rintro e w2 ⟨v2,rfl,hg2⟩;have hg12:=hg1.trans hg2;go_wp2_with (fail);refine (put_any _ 4 w.heap.size _ _ w2 (by omega) (by omega) (by omega) (by simp [putB_len]) hg12.grow.size hg12.own).mono ?_
 rintro e w3 ⟨v3,rfl,hg3⟩;have hg13:=hg12.trans hg3;have eh:[]++putB (n:Int) 2++putB (m:Int) 2++putB ((at':Int)+8+8*(n:Int)) 4=headT n m at':=by
  unfold headT;rw [List.nil_append,show ((at':Int)+8+8*(n:Int))=((at'+8+8*n:Nat):Int) by omega]
 rw [eh] at hg13;have HB3:=Bas.hid (hg13.below (Below.refl w.heap.size w) (Nat.le_refl _) (fun g h=>by cases h))
 have HT3:Hid (TwoRows w3 w.heap.size v3 (headT n m at'++rowsT m (at'+8+8*n+4*m) (l.take 0)) (.slice none 0 0) (insT m (l.take 0))):=
  ⟨by simpa [rowsT] using hg13.own,Row.owned_nil _ _ _ _,fun g _ h=>by cases h⟩
 clear hg1 hg2 hg12 hg3 hg13 eh HE;go_wp2_with (fail);go_loopw [8,9,11,12,13,41] (fun xb xs _ _ _ vi wr=>∃(k:Nat) (vb vs:Value),k≤n∧vi=.int .i64 k∧vb=xb∧vs=xs∧TwoRows wr w.heap.size vb (headT n m at'++rowsT m (at'+8+8*n+4*m) (l.take k)) vs (insT m (l.take k))∧Below w.heap.size w wr) (fun _ _ _ _ _ vi _=>n - (intOf vi).toNat)
 case atStart=>exact ⟨0,_,_,Nat.zero_le _,rfl,rfl,rfl,HT3.out,HB3.out⟩
 case round=>
  obtain ⟨k,vb,vs,hk,rfl,hvb,hvs,htw,hb⟩:=hrel;rw [←hvb,←hvs];clear hvb hvs;have HT:=Bas.hid htw;have HB:=Bas.hid hb;by_cases hkn:k<n
  ·have hlen:=HN.out;obtain ⟨c,hc⟩:∃c,l[k]? =some c:=⟨_,List.getElem?_eq_getElem (by omega)⟩
   obtain ⟨r,hr⟩:∃r,rs[k]? =some r:=⟨_,List.getElem?_eq_getElem (by rw [HRL.out];omega)⟩
   have hse:=HEL.out k c r hc hr;obtain ⟨⟨ot1,ot2⟩,hss⟩:=HRG.out c (List.mem_of_getElem? hc);have hz:(l.zip rs)[k]? =some (c,r):=List.getElem?_zip_eq_some.2 ⟨hc,hr⟩;obtain ⟨B0,O0,cp0,hv0,hcl⟩:=Row.leads_elem wTC_len HLD.out hz (by omega)
   obtain ⟨as',cs',rfl⟩:=Row.leads_slice hse;cases hv0;have q0:=(hb.cell (p:=⟨B0,O0+k*2,none⟩) (World.block_lt_of_cell? _ _ (hcl 0 _ rfl))).trans (hcl 0 _ rfl);have q1:=(hb.cell (p:=⟨B0,O0+k*2+1,none⟩) (World.block_lt_of_cell? _ _ (hcl 1 _ rfl))).trans (hcl 1 _ rfl);have HSE:=Bas.hid hse;have HSS:=Bas.hid hss;have HRW:=Bas.hid (rowsT_take m (at'+8+8*n+4*m) l k c hc);have HSW:=Bas.hid (insT_take m l k c hc);have hbl:(headT n m at'++rowsT m (at'+8+8*n+4*m) (l.take k)).length=8+8*k:=by rw [List.length_append,headT_len,rowsT_len,List.length_take,Nat.min_eq_left (by omega)]
   have hil:(insT m (l.take k)).length=2*m*k:=by rw [insT_len,List.length_take,Nat.min_eq_left (by omega)]
   have hmk:m*k≤20*10:=Nat.mul_le_mul hm20 (by omega)
   obtain ⟨ct,cv⟩:=c;simp only at q0 q1 HSE HSS HRW HSW ot1 ot2;obtain ⟨nv,hnv⟩:∃nv,nv=cv.length:=⟨_,rfl⟩;have HNV:=Bas.hid hnv;rw [←hnv] at q1 HSE;obtain ⟨bb,hbb⟩:∃bb,bb=headT n m at'++rowsT m (at'+8+8*n+4*m) (l.take k):=⟨_,rfl⟩;have HBBX:=Bas.hid hbb.symm;rw [←hbb] at HT hbl;generalize insT m (l.take k)=sw at*;obtain ⟨sl,hsl⟩:∃sl,sl=sw.length:=⟨_,rfl⟩;have HSLN:=Bas.hid hsl;have hslb:sl=2*(m*k):=by rw [hsl,hil,Nat.mul_assoc]
   have HSLB:=Bas.hid hslb;have hslc:sl≤400:=by omega
   clear hcl hse hss hb htw hr hz hlen hc hnv hsl HT3 HB3 hbb hil hslb hmk;go_wp2_with (fail);have k8:=Bas.heap_new wr (.cells #[.int .i32 ct,.slice as' nv cs'] 252);have hbW:=(Below.refl wr.heap.size wr).alloc (Nat.le_refl _) (.cells #[.int .i32 ct,.slice as' nv cs'] 252);have HT8:=Bas.hid (HT.out.below hbW);have HB8:=Bas.hid (HB.out.trans (hbW.mono HB.out.size));have hnl:vb.ownBlock≠some wr.heap.size:=fun e=>Nat.lt_irrefl _ (Row.own_block HT.out.l e).2
   have hnr:vs.ownBlock≠some wr.heap.size:=fun e=>Nat.lt_irrefl _ (Row.own_block HT.out.r e).2
   generalize wr.alloc (.cells #[.int .i32 ct,.slice as' nv cs'] 252)=W8 at*;generalize wr.heap.size=T8 at k8 hnl hnr ⊢;have c8:=cell_of_heap (i:=0) (v:=.int .i32 ct) k8 rfl;have hO8:=HT8.out.l;clear q0 q1 hbW HT HB;have hnl8:=hnl;refine (put_any (ct%4294967296) 4 w.heap.size _ _ W8 (by omega) (by omega) (by omega) (by omega) HB8.out.size HT8.out.l).mono ?_
   rintro e wA ⟨vA,rfl,gA⟩;have HTA:=Bas.hid (HT8.out.growL gA);have HBA:=Bas.hid (gA.below HB8.out HB8.out.size (fun g hg=>(Row.own_block HT8.out.l hg).1))
   have kA:=(gA.grow.block T8 (heap_lt k8) (fun e=>hnl8 e.symm)).trans k8
   have hnlA:vA.ownBlock≠some T8:=by
    intro e;rcases gA.at' with h|⟨g,h,h2⟩
    ·exact hnl8 (h▸e)
    ·rw [h] at e;cases e;exact absurd (heap_lt k8) (Nat.not_lt.2 h2)
   obtain ⟨ads,cps,hvs⟩:=row_slice HTA.out.r;have hsl2:=HSLN.out;rw [←hsl2] at hvs;clear gA k8 c8 hnl hnl8 hO8 HT8 HB8 hsl2;rw [hvs];go_wp2_with (fail);refine (put_any 7 2 w.heap.size _ _ wA (by omega) (by omega) (by omega) (by simp only [List.length_append,putB_len];omega) HBA.out.size HTA.out.l).mono ?_
   rintro e wB ⟨vB,rfl,gB⟩;have HTB:=Bas.hid (HTA.out.growL gB);have HBB:=Bas.hid (gB.below HBA.out HBA.out.size (fun g hg=>(Row.own_block HTA.out.l hg).1))
   have kB:=(gB.grow.block T8 (heap_lt kA) (fun e=>hnlA e.symm)).trans kA
   have hnlB:vB.ownBlock≠some T8:=by
    intro e;rcases gB.at' with h|⟨g,h,h2⟩
    ·exact hnlA (h▸e)
    ·rw [h] at e;cases e;exact absurd (heap_lt kA) (Nat.not_lt.2 h2)
   clear gB kA hnlA HTA HBA;go_wp2_with (fail);refine (put_any _ 2 w.heap.size _ _ wB (by omega) (by omega) (by omega) (by simp only [List.length_append,putB_len];omega) HBB.out.size HTB.out.l).mono ?_
   rintro e wC ⟨vC,rfl,gC⟩;have HTC:=Bas.hid (HTB.out.growL gC);have HBC:=Bas.hid (gC.below HBB.out HBB.out.size (fun g hg=>(Row.own_block HTB.out.l hg).1))
   have kC:=(gC.grow.block T8 (heap_lt kB) (fun e=>hnlB e.symm)).trans kB
   have hnlC:vC.ownBlock≠some T8:=by
    intro e;rcases gC.at' with h|⟨g,h,h2⟩
    ·exact hnlB (h▸e)
    ·rw [h] at e;cases e;exact absurd (heap_lt kB) (Nat.not_lt.2 h2)
   clear gC kB hnlB HTB HBB;rw [←hvs];clear hvs;have HTC2:Hid (TwoRows wC w.heap.size vC (headT n m at'++rowsT m (at'+8+8*n+4*m) (l.take (k+1))) vs (sw++valsTo ⟨ct,cv⟩ 0)):=by
    have h:=HTC.out;have e1:bb++putB (ct%4294967296) 4++putB 7 2++putB ((at':Int)+8+8*(n:Int)+4*(m:Int)+(sl:Int)) 2=headT n m at'++rowsT m (at'+8+8*n+4*m) (l.take (k+1)):=by
     rw [HRW.out,←List.append_assoc,HBBX.out];unfold rowT;rw [show ((at':Int)+8+8*(n:Int)+4*(m:Int)+(sl:Int))=((at'+8+8*n+4*m+2*m*k:Nat):Int) by have:=HSLB.out;rw [Nat.mul_assoc];omega]
     simp only [List.append_assoc]
    rw [e1] at h;have e0:sw++valsTo ⟨ct,cv⟩ 0=sw:=by simp [valsTo]
    rw [e0];exact h
   obtain ⟨bb2,hbb2⟩:∃x,x=headT n m at'++rowsT m (at'+8+8*n+4*m) (l.take (k+1)):=⟨_,rfl⟩;have HBB2:=Bas.hid hbb2;rw [←hbb2] at HTC2;clear hbb2;have n8:=kC;clear HTC hnlC HRW HBBX kC;go_wp2_with (fail);go_loopw [9,12,13,59] (fun xs _ _ vi wr=>∃(j:Nat) (vt:Value),j≤m∧vi=.int .i64 j∧vt=xs∧TwoRows wr w.heap.size vC bb2 vt (sw++valsTo ⟨ct,cv⟩ j)∧Below w.heap.size w wr∧wr.heap[T8]? =some (.cells #[.int .i32 ct,.slice as' nv cs'] 252 (0,0))) (fun _ _ _ vi _=>m - (intOf vi).toNat)
   case atStart=>exact ⟨0,_,Nat.zero_le _,rfl,rfl,HTC2.out,HBC.out,n8⟩
   case round=>
    obtain ⟨j,vt,hj,rfl,hvt,htw,hb,y8⟩:=hrel;rw [←hvt];clear hvt n8 HTC2 HBC;have HT:=Bas.hid htw;have HB:=Bas.hid hb;by_cases hjm:j<m
    ·have HTK:Hid (sw++valsTo ⟨ct,cv⟩ (j+1)=sw++valsTo ⟨ct,cv⟩ j++putB (valN ⟨ct,cv⟩ j) 2):=by
      unfold Hid;rw [valsTo_succ,List.append_assoc]
     have hyl:(sw++valsTo ⟨ct,cv⟩ j).length≤440:=by
      rw [List.length_append,valsTo_len,←HSLN.out];omega
     have cA:=cell_of_heap (i:=1) (v:=.slice as' nv cs') y8 rfl;have f8:vt.ownBlock≠some T8:=own_ty HT.out.r y8 (by decide)
     by_cases hjv:j<nv
     ·obtain ⟨s,hs⟩:∃s,cv[j]? =some s:=⟨_,List.getElem?_eq_getElem (by have:=HNV.out;omega)⟩
      obtain ⟨B1,O1,cp1,hv1,hcl⟩:=Row.leads_elem wI16_len HSE.out hs (by omega)
      cases hv1;have hc0:w.cell? ⟨B1,O1+j,none⟩=some (.int .i16 s):=by
       have h:=hcl 0 (.int .i16 s) rfl;simpa using h
      have q0:=(hb.cell (p:=⟨B1,O1+j,none⟩) (World.block_lt_of_cell? _ _ hc0)).trans hc0;obtain ⟨os1,os2⟩:=HSS.out s (List.mem_of_getElem? hs);have HVN:Hid (valN ⟨ct,cv⟩ j=s%65536):=by
       unfold Hid valN;rw [if_pos (by have:=HNV.out;show j<cv.length;omega)]
       show cv.getD j 0%65536=_
       rw [List.getD_eq_getElem?_getD,hs];rfl
      generalize sw++valsTo ⟨ct,cv⟩ j=ys at*;clear hcl hs htw hb hc0;go_wp2_with (fail);rw [u16_of_i16 s];refine (put_any (s%65536) 2 w.heap.size _ _ wr (by omega) (by omega) (by omega) (by omega) HB.out.size HT.out.r).mono ?_
      rintro e wF ⟨vF,rfl,gF⟩;have HTF:=Bas.hid (HT.out.growR gF);have HBF:=Bas.hid (gF.below HB.out HB.out.size (fun g hg=>(Row.own_block HT.out.r hg).1))
      have z8:=(gF.grow.block T8 (heap_lt y8) (fun e=>f8 e.symm)).trans y8
      clear gF HT HB q0 y8 f8;go_wp2_with (fail);go_roundw
      case rel=>exact ⟨j+1,_,by omega,by go_num,rfl,by rw [HTK.out,HVN.out];exact HTF.out,HBF.out,z8⟩
      case measure=>simp [intOf];omega
     ·have HVN:Hid (valN ⟨ct,cv⟩ j=0):=by
       unfold Hid valN;rw [if_neg (by have:=HNV.out;show ¬j<cv.length;omega)]
      generalize sw++valsTo ⟨ct,cv⟩ j=ys at*;clear htw hb;go_wp2_with (fail);refine (put_any 0 2 w.heap.size _ _ wr (by omega) (by omega) (by omega) (by omega) HB.out.size HT.out.r).mono ?_
      rintro e wF ⟨vF,rfl,gF⟩;have HTF:=Bas.hid (HT.out.growR gF);have HBF:=Bas.hid (gF.below HB.out HB.out.size (fun g hg=>(Row.own_block HT.out.r hg).1))
      have z8:=(gF.grow.block T8 (heap_lt y8) (fun e=>f8 e.symm)).trans y8
      clear gF HT HB y8 f8;go_wp2_with (fail);go_roundw
      case rel=>exact ⟨j+1,_,by omega,by go_num,rfl,by rw [HTK.out,HVN.out];exact HTF.out,HBF.out,z8⟩
      case measure=>simp [intOf];omega
    ·have hjn2:j=m:=by omega
     have hfl:sw++valsTo ⟨ct,cv⟩ j=insT m (l.take (k+1)):=by rw [HSW.out,hjn2]
     rw [hfl] at htw;have HTF:=Bas.hid htw;have HBF:=Bas.hid hb;clear htw hb hfl;go_wp2_with (fail);go_roundw
     case rel=>exact ⟨k+1,_,_,by omega,by go_num,rfl,rfl,HBB2.out▸HTF.out,HBF.out⟩
     case measure=>simp [intOf];omega
  ·have hkn2:k=n:=by omega
   have h:=HT.out;rw [hkn2,HN.out,List.take_length] at h;rw [←HN.out] at h;have hbl:(headT n m at'++rowsT m (at'+8+8*n+4*m) l).length=8+8*n:=by rw [List.length_append,headT_len,rowsT_len,←HN.out]
   have hsl:(insT m l).length=2*m*n:=by rw [insT_len,←HN.out]
   have hmk:m*n≤20*10:=Nat.mul_le_mul hm20 hn10;have HLL:Hid ((dataW S l at').length=8+8*n+4*m+2*m*n):=by unfold Hid;rw [dataW_len,←HN.out,←HM.out]
   generalize headT n m at'++rowsT m (at'+8+8*n+4*m) l=bb at*;generalize insT m l=sw at*;have hF0:Hid (TwoRows wr w.heap.size vb (bb++(S.take 0).flatMap szB) vs sw):=by
    unfold Hid;simpa using h
   clear h htw HT hkn2;have HBL:=Bas.hid hb;clear hb;go_wp2_with (fail);go_loopw [8,15,81] (fun xb _ vi wr=>∃(j:Nat) (vt:Value),j≤m∧vi=.int .i64 j∧vt=xb∧TwoRows wr w.heap.size vt (bb++(S.take j).flatMap szB) vs sw∧Below w.heap.size w wr) (fun _ _ vi _=>m - (intOf vi).toNat)
   case atStart=>exact ⟨0,_,Nat.zero_le _,rfl,rfl,hF0.out,HBL.out⟩
   case round=>
    obtain ⟨j,vt,hj,rfl,hvt,htw,hb⟩:=hrel;rw [←hvt];clear hvt hF0 HBL;have HT:=Bas.hid htw;have HB:=Bas.hid hb;by_cases hjm:j<m
    ·obtain ⟨s,hs⟩:∃s,S[j]? =some s:=⟨_,List.getElem?_eq_getElem (by have:=HM.out;omega)⟩
     have hszz:=HSZ.out;unfold PSizes at hszz;rw [←HM.out] at hszz;obtain ⟨B1,O1,cp1,hv1,hcl⟩:=Row.leads_elem wI32_len hszz hs (by omega)
     cases hv1;have hc0:w.cell? ⟨B1,O1+j,none⟩=some (.int .i32 s):=by
      have h:=hcl 0 (.int .i32 s) rfl;simpa using h
     have q0:=(hb.cell (p:=⟨B1,O1+j,none⟩) (World.block_lt_of_cell? _ _ hc0)).trans hc0;obtain ⟨os1,os2⟩:=HRS.out s (List.mem_of_getElem? hs);have HTK:Hid (bb++(S.take (j+1)).flatMap szB=bb++(S.take j).flatMap szB++putB (s%4294967296) 4):=by
      unfold Hid;rw [Row.take_flat szB S j s hs,←List.append_assoc];rfl
     have hyl:(bb++(S.take j).flatMap szB).length≤8+80+80:=by
      rw [List.length_append,sizeB_len,List.length_take,hbl];omega
     generalize bb++(S.take j).flatMap szB=ys at*;clear hcl hs htw hb hc0 hszz;go_wp2_with (fail);refine (put_any (s%4294967296) 4 w.heap.size _ _ wr (by omega) (by omega) (by omega) (by omega) HB.out.size HT.out.l).mono ?_
     rintro e wF ⟨vF,rfl,gF⟩;have HTF:=Bas.hid (HT.out.growL gF);have HBF:=Bas.hid (gF.below HB.out HB.out.size (fun g hg=>(Row.own_block HT.out.l hg).1))
     clear gF HT HB q0;go_wp2_with (fail);go_roundw
     case rel=>exact ⟨j+1,_,by omega,by go_num,rfl,by rw [HTK.out];exact HTF.out,HBF.out⟩
     case measure=>simp [intOf];omega
    ·have hjm2:j=m:=by omega
     have h:=HT.out;rw [hjm2,HM.out,List.take_length] at h;have HF:=Bas.hid h;obtain ⟨ad8,cp8,rfl⟩:=row_slice h.r;have hbl2:(bb++S.flatMap szB).length=8+8*n+4*m:=by rw [List.length_append,sizeB_len,hbl,←HM.out]
     have HDX:Hid (bb++S.flatMap szB++sw=dataW S l at'):=by unfold Hid;rw [HDW.out]
     obtain ⟨sl,hsl2⟩:∃sl,sl=sw.length:=⟨_,rfl⟩;have HSL:=Bas.hid hsl2;have hslb:sl≤400:=by rw [hsl2,hsl,Nat.mul_assoc];omega
     rw [←hsl2];generalize bb++S.flatMap szB=bbx at*;clear hb htw h hsl2 HT hsl hbl;go_wp2_with (at_builtin;refine Row.fence ?_);refine Row.unfence ?_;refine Row.append_at rfl _ _ 47 5 rfl (.int .u8 0) 1 1 Tryz.underlying47 info8 rfl (by decide) w.heap.size vt _ _ rfl HF.out.l (.slice ad8 sl cp8) sl _ rfl (by rw [HSL.out];exact Row.leads_owned HF.out.r) (by simp [HSL.out]) (by simp;intros;rfl) (by unfold maxLen;omega) (by omega) HB.out.size ?_
     intro v9 w9 h91 h92 _ h93;have h91':w9.ownsRow w.heap.size 5 1 v9 (dataW S l at').length ((dataW S l at').map (Value.int .u8)):=by
      rw [←HDX.out];simpa only [List.map_append,List.length_append,HSL.out,Nat.add_assoc,List.append_assoc] using h91
     have HB9:=Bas.hid (HB.out.grown h92 HB.out.size (fun g hg=>(Row.own_block HF.out.l hg).1))
     have HO9:=Bas.hid h91';obtain ⟨ad9,cp9,rfl⟩:=row_slice h91';clear h91 h92 h93 h91' HF;go_wp2_with (fail);go_ret;exact ⟨_,rfl,HO9.out,HB9.out⟩
structure WPlanT where
 s0:List Int
 s1:List Int
 t0:List PTrack
 t1:List PTrack
def PPlan(w:World)(a b c d:Value)(p:WPlanT):Prop:=PSizes w a p.s0∧PSizes w b p.s1∧PTracks w c p.t0∧PTracks w d p.t1
theorem PPlan.below{w w':World}{a b c d:Value}{p:WPlanT}(h:PPlan w a b c d p)(hb:Below w.heap.size w w'):PPlan w' a b c d p:=
 ⟨Row.leads_below h.1 hb,Row.leads_below h.2.1 hb,h.2.2.1.below hb,h.2.2.2.below hb⟩
def smallP(p:WPlanT):Prop:=(p.s0.length≤20∧p.t0.length≤10)∧p.s1.length≤20∧p.t1.length≤10
def rgPlan(p:WPlanT):Prop:=(rgSizes p.s0∧∀t∈p.t0,rgTrack t)∧rgSizes p.s1∧∀t∈p.t1,rgTrack t
def d0(p:WPlanT):List Int:=if p.t0.length=0 then [] else dataW p.s0 p.t0 12
def a0(p:WPlanT):Nat:=if p.t0.length=0 then 0 else 12
def a1(p:WPlanT):Nat:=if p.t1.length=0 then 0 else 12+(d0 p).length
def d1(p:WPlanT):List Int:=if p.t1.length=0 then [] else dataW p.s1 p.t1 (12+(d0 p).length)
def stB(p:WPlanT):Nat→List Int
 |0=>putB 65536 4++putB 0 2
 |1=>putB 65536 4++putB 0 2++putB (a0 p:Int) 2
 |_=>putB 65536 4++putB 0 2++putB (a0 p:Int) 2++putB (a1 p:Int) 2
def stI(p:WPlanT):Nat→List Int
 |0=>[]
 |1=>d0 p
 |_=>d0 p++d1 p
def writeT(p:WPlanT):List Int:=stB p 2++[0,0]++stI p 2
theorem d0_len(p:WPlanT)(h:smallP p):(d0 p).length≤600:=by
 unfold d0;split
 ·simp
 ·rw [dataW_len];have:p.s0.length*p.t0.length≤20*10:=Nat.mul_le_mul h.1.1 h.1.2;have:=h.1.1;have:=h.1.2;rw [Nat.mul_assoc];omega
theorem d1_len(p:WPlanT)(h:smallP p):(d1 p).length≤600:=by
 unfold d1;split
 ·simp
 ·rw [dataW_len];have:p.s1.length*p.t1.length≤20*10:=Nat.mul_le_mul h.2.1 h.2.2;have:=h.2.1;have:=h.2.2;rw [Nat.mul_assoc];omega
theorem stB_len(p:WPlanT)(k:Nat):(stB p k).length≤10:=by
 match k with
 |0=>simp [stB,putB_len]
 |1=>simp [stB,putB_len]
 |_+2=>simp [stB,putB_len]
theorem stI_len(p:WPlanT)(h:smallP p)(k:Nat):(stI p k).length≤1200:=by
 have:=d0_len p h;have:=d1_len p h
 match k with
 |0=>simp [stI]
 |1=>simp only [stI];omega
 |_+2=>simp only [stI,List.length_append];omega
theorem writeT_len(p:WPlanT)(h:smallP p):12≤(writeT p).length∧(writeT p).length≤1212:=by
 have:=stI_len p h 2;simp only [writeT,stB,List.length_append,putB_len,List.length_cons,List.length_nil];omega
theorem two_set{w:World}{base:Nat}{v u:Value}{xs ys:List Int}(h:TwoRows w base v xs u ys){T i:Nat}{cs:Array Value}{t:TypeId}(hT:w.heap[T]? =some (.cells cs t (0,0)))(ht:5≠t)(x:Value):TwoRows (w.setCell ⟨T,i,none⟩ x) base v xs u ys:=
 ⟨Row.owned_keep h.l fun g hg=>Below.heap_setCell _ _ _ _ (fun e=>own_ty h.l hT ht (by rw [hg,e])),Row.owned_keep h.r fun g hg=>Below.heap_setCell _ _ _ _ (fun e=>own_ty h.r hT ht (by rw [hg,e])),h.apart⟩
theorem twrite_any(sa sb ta tb:Value)(p:WPlanT)(w:World)(hsm:smallP p)(hrg:rgPlan p)(hin:PPlan w sa sb ta tb p):
    Calls Tryz.prog 18 #[.agg #[sa,sb,ta,tb]] w fun e w'=>∃v',e=.returned v'∧w'.ownsRow w.heap.size 5 1 v' (writeT p).length ((writeT p).map (Value.int .u8))∧Below w.heap.size w w':=by
  obtain ⟨hs0,hs1,⟨rs0,hrl0,hlead0,hel0⟩,⟨rs1,hrl1,hlead1,hel1⟩⟩:=hin
  have HS0:=Bas.hid hs0
  have HS1:=Bas.hid hs1
  have HT0:Hid (PTracks w ta p.t0):=⟨rs0,hrl0,hlead0,hel0⟩
  have HT1:Hid (PTracks w tb p.t1):=⟨rs1,hrl1,hlead1,hel1⟩
  obtain ⟨sad0,scap0,rfl⟩:=Row.leads_slice hs0
  obtain ⟨sad1,scap1,rfl⟩:=Row.leads_slice hs1
  obtain ⟨tad0,tcap0,rfl⟩:=Row.leads_slice hlead0
  obtain ⟨tad1,tcap1,rfl⟩:=Row.leads_slice hlead1
  have HSM:=Bas.hid hsm
  have HRG:=Bas.hid hrg
  obtain ⟨n0,hn0⟩:∃n,n=p.t0.length:=⟨_,rfl⟩
  obtain ⟨n1,hn1⟩:∃n,n=p.t1.length:=⟨_,rfl⟩
  obtain ⟨m0,hm0⟩:∃n,n=p.s0.length:=⟨_,rfl⟩
  obtain ⟨m1,hm1⟩:∃n,n=p.s1.length:=⟨_,rfl⟩
  have HD0:=Bas.hid fun w' (hb:Below w.heap.size w w')=>wdata_any (.slice sad0 m0 scap0) (.slice tad0 n0 tcap0) p.s0 p.t0 12 w' hsm.1.1 hsm.1.2 (by omega) hrg.1.2 hrg.1.1 (by rw [hn0];exact HT0.out.below hb) (by rw [hm0];exact Row.leads_below HS0.out hb)
  have HD1:=Bas.hid fun w' (hb:Below w.heap.size w w')=>wdata_any (.slice sad1 m1 scap1) (.slice tad1 n1 tcap1) p.s1 p.t1 (12+(d0 p).length) w' hsm.2.1 hsm.2.2 (by have:=d0_len p hsm;omega) hrg.2.2 hrg.2.1 (by rw [hn1];exact HT1.out.below hb) (by rw [hm1];exact Row.leads_below HS1.out hb)
  rw [←hn0,←hn1,←hm0,←hm1]
  have hn0b:n0≤10:=hn0▸hsm.1.2
  have hn1b:n1≤10:=hn1▸hsm.2.2
  have HN0:=Bas.hid hn0
  have HN1:=Bas.hid hn1
  clear hs0 hs1 hrl0 hlead0 hel0 hrl1 hlead1 hel1 HS0 HS1 HT0 HT1 hsm hrg hn0 hn1 hm0 hm1
  have HE:Hid (w.ownsRow w.heap.size 5 1 (.slice none 0 0) ([]:List Int).length (([]:List Int).map (Value.int .u8))):=Row.owned_nil _ _ _ _
  go_enter Tryz.func18,Tryz.ntmps18
  go_wp2_with (fail)
  have k1:=Bas.heap_new w (.cells #[.slice sad0 m0 scap0,.slice sad1 m1 scap1,.slice tad0 n0 tcap0,.slice tad1 n1 tcap1] 42)
  have HB1:=Bas.hid ((Below.refl w.heap.size w).alloc (Nat.le_refl _) (.cells #[.slice sad0 m0 scap0,.slice sad1 m1 scap1,.slice tad0 n0 tcap0,.slice tad1 n1 tcap1] 42))
  generalize w.alloc (.cells #[.slice sad0 m0 scap0,.slice sad1 m1 scap1,.slice tad0 n0 tcap0,.slice tad1 n1 tcap1] 42)=W1 at*
  have hem:W1.ownsRow w.heap.size 5 1 (.slice none 0 0) ([]:List Int).length (([]:List Int).map (Value.int .u8)):=Row.owned_nil _ _ _ _
  refine (put_any 65536 4 w.heap.size _ [] W1 (by omega) (by omega) (by omega) (by simp) HB1.out.size hem).mono ?_
  rintro e w2 ⟨v2,rfl,hg2⟩
  go_wp2_with (fail)
  refine (put_any 0 2 w.heap.size _ _ w2 (by omega) (by omega) (by omega) (by simp [putB_len]) (Nat.le_trans HB1.out.size hg2.grow.size) hg2.own).mono ?_
  rintro e w3 ⟨v3,rfl,hg3⟩
  have hg:=hg2.trans hg3
  have HB3:=Bas.hid (hg.below HB1.out HB1.out.size (fun g h=>by cases h))
  have k3:=(hg.grow.block _ (heap_lt k1) (by simp [Value.ownBlock])).trans k1
  have HO3:=Bas.hid hg.own
  clear hg2 hg3 hg k1 HB1 HE hem
  go_wp2_with (fail)
  have k4:=Bas.heap_new w3 (.cells #[.int .i64 0,.int .i64 0] 133)
  have hb4:=(Below.refl w3.heap.size w3).alloc (Nat.le_refl _) (.cells #[.int .i64 0,.int .i64 0] 133)
  have HB4:=Bas.hid (HB3.out.trans (hb4.mono HB3.out.size))
  have j1:=(hb4.block _ (heap_lt k3)).trans k3
  have hT4:w.heap.size<w3.heap.size:=heap_lt k3
  have HT4:Hid (TwoRows (w3.alloc (.cells #[.int .i64 0,.int .i64 0] 133)) w.heap.size v3 (stB p 0) (.slice none 0 0) (stI p 0)):=
    ⟨by simpa [stB] using Row.owned_below HO3.out hb4,Row.owned_nil _ _ _ _,fun g _ h=>by cases h⟩
  generalize w3.alloc (.cells #[.int .i64 0,.int .i64 0] 133)=W4 at*
  generalize w3.heap.size=T4 at*
  clear hb4 HB3 k3 HO3
  go_loopw [3,5,6,9] (fun xb xs _ vi wr=>∃(k:Nat) (vb vs:Value) (x0 x1:Int),k≤2∧vi=.int .i64 k∧vb=xb∧vs=xs∧TwoRows wr w.heap.size vb (stB p k) vs (stI p k)∧Below w.heap.size w wr∧
      wr.heap[w.heap.size]? =some (.cells #[.slice sad0 m0 scap0,.slice sad1 m1 scap1,.slice tad0 n0 tcap0,.slice tad1 n1 tcap1] 42 (0,0))∧wr.heap[T4]? =some (.cells #[.int .i64 x0,.int .i64 x1] 133 (0,0))∧(k=0→x0=0)∧(k≤1→x1=0)) (fun _ _ _ vi _=>2 - (intOf vi).toNat)
  case atStart=>exact ⟨0,_,_,0,0,by omega,rfl,rfl,rfl,HT4.out,HB4.out,j1,k4,fun _=>rfl,fun _=>rfl⟩
  case round=>
    obtain ⟨k,vb,vs,x0,x1,hk,rfl,hvb,hvs,htw,hb,y1,y4,hx⟩:=hrel
    rw [←hvb,←hvs]
    clear hvb hvs HT4 HB4 j1 k4
    have HT:=Bas.hid htw
    have HB:=Bas.hid hb
    have hlb:=stB_len p k
    have hli:=stI_len p HSM.out k
    obtain ⟨sl,hsl⟩:∃sl,sl=(stI p k).length:=⟨_,rfl⟩
    have HSL:=Bas.hid hsl
    rw [←hsl] at hli
    clear hsl
    have q0:=cell_of_heap (i:=0) (v:=.slice sad0 m0 scap0) y1 rfl
    have q1:=cell_of_heap (i:=1) (v:=.slice sad1 m1 scap1) y1 rfl
    have q2:=cell_of_heap (i:=2) (v:=.slice tad0 n0 tcap0) y1 rfl
    have q3:=cell_of_heap (i:=3) (v:=.slice tad1 n1 tcap1) y1 rfl
    have c0:=cell_of_heap (i:=0) (v:=.int .i64 x0) y4 rfl
    have c1:=cell_of_heap (i:=1) (v:=.int .i64 x1) y4 rfl
    have f4:=fun i=>free_of_heap (i:=i) y4
    have e1:vb.ownBlock≠some w.heap.size:=own_ty HT.out.l y1 (by decide)
    have e4:vb.ownBlock≠some T4:=own_ty HT.out.l y4 (by decide)
    rcases (by omega:k=0∨k=1∨k=2) with rfl|rfl|rfl
    · have hx0:x0=0:=hx.1 rfl
      have hx1:x1=0:=hx.2 (by omega)
      subst hx0 hx1
      by_cases hz:n0=0
      · have hd:decide ((0:Int)<(n0:Int))=false:=by simp;omega
        have hd2:decide (0<n0)=false:=by simp;omega
        have HA:Hid (stB p 1=stB p 0++putB 0 2):=by
          have:a0 p=0:=by unfold a0;rw [if_pos (HN0.out▸hz)]
          unfold Hid
          show stB p 0++putB (a0 p:Int) 2=_
          rw [this];rfl
        have HI:Hid (stI p 1=stI p 0):=by
          have:d0 p=[]:=by unfold d0;rw [if_pos (HN0.out▸hz)]
          unfold Hid
          simp [stI,this]
        clear hz htw hb
        go_wp2_with (fail)
        refine (put_any 0 2 w.heap.size _ _ wr (by omega) (by omega) (by omega) (by omega) HB.out.size HT.out.l).mono ?_
        rintro e wF ⟨vF,rfl,gF⟩
        have HTF:=Bas.hid (HT.out.growL gF)
        have HBF:=Bas.hid (gF.below HB.out HB.out.size (fun g hg=>(Row.own_block HT.out.l hg).1))
        have z1:=(gF.grow.block _ (heap_lt y1) (fun e=>e1 e.symm)).trans y1
        have z4:=(gF.grow.block _ (heap_lt y4) (fun e=>e4 e.symm)).trans y4
        clear gF HT HB y1 y4 c0 c1 q0 q1 q2 q3 f4 e1 e4
        go_wp2_with (fail)
        go_roundw
        case rel=>exact ⟨1,_,_,0,0,by omega,by go_num,rfl,rfl,by rw [HA.out,HI.out];exact HTF.out,HBF.out,z1,z4,⟨fun h=>by omega,fun _=>rfl⟩⟩
        case measure=>simp [intOf]
      · have hd:decide ((0:Int)<(n0:Int))=true:=by simp;omega
        have hd2:decide (0<n0)=true:=by simp;omega
        have HA:Hid (stB p 1=stB p 0++putB (12+(sl:Int)) 2):=by
          have:a0 p=12+sl:=by unfold a0;rw [if_neg (HN0.out▸hz),HSL.out];rfl
          unfold Hid
          show stB p 0++putB (a0 p:Int) 2=_
          rw [this];rfl
        have HI:Hid (stI p 1=stI p 0++dataW p.s0 p.t0 (12+sl)):=by
          have:d0 p=dataW p.s0 p.t0 (12+sl):=by unfold d0;rw [if_neg (HN0.out▸hz),HSL.out];rfl
          unfold Hid
          rw [←this];rfl
        have HDK:Hid (∀w',Below w.heap.size w w'→Calls Tryz.prog 31 #[.slice sad0 m0 scap0,.slice tad0 n0 tcap0,.int .i64 (12+(sl:Int))] w' fun e w''=>∃v',e=.returned v'∧w''.ownsRow w'.heap.size 5 1 v' (dataW p.s0 p.t0 (12+sl)).length ((dataW p.s0 p.t0 (12+sl)).map (Value.int .u8))∧Below w'.heap.size w' w''):=by
          intro w' hb
          have h:=HD0.out w' hb
          have e2:12+(stI p 0).length=12+sl:=by rw [HSL.out]
          simp only [stI,List.length_nil,Nat.add_zero] at e2
          first | rw [e2] at h | (have e3 : sl = 0 := by omega
                                  rw [e3])
          simpa using h
        have hdl:(dataW p.s0 p.t0 (12+sl)).length≤600:=by
          have h:=d0_len p HSM.out
          have:d0 p=dataW p.s0 p.t0 (12+sl):=by unfold d0;rw [if_neg (HN0.out▸hz),HSL.out];rfl
          rwa [this] at h
        generalize dataW p.s0 p.t0 (12+sl)=D at*
        obtain ⟨ads,cps,hvs⟩:=row_slice HT.out.r
        rw [←HSL.out] at hvs
        rw [hvs]
        clear hz htw hb
        go_wp2_with (fail)
        have HT5:=Bas.hid (two_set HT.out y4 (by decide) (i:=0) (.int .i64 (12+(sl:Int))))
        have HB5:=Bas.hid (HB.out.setCell (p:=⟨T4,0,none⟩) (Nat.le_of_lt hT4) (.int .i64 (12+(sl:Int))))
        have z4:(wr.setCell ⟨T4,0,none⟩ (.int .i64 (12+(sl:Int)))).heap[T4]? =some (.cells #[.int .i64 (12+(sl:Int)),.int .i64 0] 133 (0,0)):=heap_set (i:=0) y4 (.int .i64 (12+(sl:Int)))
        have z1:=(Below.heap_setCell wr ⟨T4,0,none⟩ (.int .i64 (12+(sl:Int))) w.heap.size (by show w.heap.size≠T4;omega)).trans y1
        generalize wr.setCell ⟨T4,0,none⟩ (.int .i64 (12+(sl:Int)))=W5 at*
        clear y1 y4 c0 c1 q0 q1 q2 q3 f4 e1 e4 HT HB
        refine' Pl.region_v0 48 [0] [1,2,3,4,5,6,7,8,9,10,11] [12,13,14] _ (by kernel_rfl) (by kernel_rfl) (by simp) (fun _ _ _ _ e h=>⟨e▸h.1,h.2⟩) ?_ ?_
        rotate_left
        · intro I F hI hF
          simp only [Pl.selN,List.cons_append,List.nil_append,List.drop_succ_cons,List.drop_zero]
          have x0:=fun i=>hF.cell (heap_lt z1) (cell_of_heap (i:=0) (v:=.slice sad0 m0 scap0) z1 rfl) i
          have x1:=fun i=>hF.cell (heap_lt z1) (cell_of_heap (i:=2) (v:=.slice tad0 n0 tcap0) z1 rfl) i
          have x2:=fun i=>hF.cell (heap_lt z4) (cell_of_heap (i:=0) (v:=.int .i64 (12+(sl:Int))) z4 rfl) i
          repeat (go_big_quiet_step (fail))
          refine wpQuiet_nil ?_
          rfl
        intro u hu
        simp only [Pl.selN,List.drop_succ_cons,List.drop_zero]
        have HTU:=Bas.hid (HT5.out.below hu)
        have HBU:=Bas.hid (HB5.out.trans (hu.mono HB5.out.size))
        have u1:=(hu.block _ (heap_lt z1)).trans z1
        have u4:=(hu.block _ (heap_lt z4)).trans z4
        clear hu HT5 HB5 z1 z4
        go_wp2_with (fail)
        refine (HDK.out _ HBU.out).mono ?_
        rintro e W6 ⟨vd,rfl,hod,hb6⟩
        have HT6:=Bas.hid (HTU.out.below hb6)
        have HB6:=Bas.hid (HBU.out.trans (hb6.mono HBU.out.size))
        have w1:=(hb6.block _ (heap_lt u1)).trans u1
        have w4:=(hb6.block _ (heap_lt u4)).trans u4
        have HOD:=Bas.hid hod
        obtain ⟨dad,dcp,rfl⟩:=row_slice hod
        obtain ⟨dl,hdl2⟩:∃dl,dl=D.length:=⟨_,rfl⟩
        have HDL:=Bas.hid hdl2
        have f1:(Value.slice ads sl cps).ownBlock≠some w.heap.size:=by rw [←hvs];exact own_ty HT6.out.r w1 (by decide)
        have f4:(Value.slice ads sl cps).ownBlock≠some T4:=by rw [←hvs];exact own_ty HT6.out.r w4 (by decide)
        have HVS:=Bas.hid hvs
        rw [←hdl2] at hdl ⊢
        clear hb6 u1 u4 HTU HBU HDK hod hdl2 hvs
        go_wp2_with (at_builtin;refine Row.fence ?_)
        refine Row.unfence ?_
        refine Row.append_at rfl _ _ 47 5 rfl (.int .u8 0) 1 1 Tryz.underlying47 info8 rfl (by decide) w.heap.size (.slice ads sl cps) sl _ rfl (by have h:=HT6.out.r;rw [HVS.out,←HSL.out] at h;exact h) (.slice dad dl dcp) dl _ rfl (by rw [HDL.out];exact Row.leads_owned HOD.out) (by simp [HDL.out]) (by simp;intros;rfl) (by unfold maxLen;omega) (by omega) HB6.out.size ?_
        intro v9 w9 h91 h92 _ h93
        have g9:Grown W6 w.heap.size (.slice ads sl cps) (stI p 0++D) v9 w9:=
          ⟨by simpa only [List.map_append,List.length_append,HDL.out,HSL.out] using h91,h92,h93.imp id fun h=>⟨_,h,Nat.le_refl _⟩⟩
        have HT9:Hid (TwoRows w9 w.heap.size vb (stB p 0) v9 (stI p 1)):=by
          unfold Hid
          rw [HI.out]
          have h:=HT6.out
          rw [HVS.out] at h
          exact h.growR g9
        have HB9:=Bas.hid (HB6.out.grown h92 HB6.out.size (fun g hg=>(Row.own_block HT6.out.r (by rw [HVS.out];exact hg)).1))
        have m1':=(h92.block _ (heap_lt w1) (fun e=>f1 e.symm)).trans w1
        have m4':=(h92.block _ (heap_lt w4) (fun e=>f4 e.symm)).trans w4
        have e1:vb.ownBlock≠some w.heap.size:=own_ty HT9.out.l m1' (by decide)
        have e4:vb.ownBlock≠some T4:=own_ty HT9.out.l m4' (by decide)
        obtain ⟨ad9,cp9,rfl⟩:=row_slice HT9.out.r
        have cx:=cell_of_heap (i:=0) (v:=.int .i64 (12+(sl:Int))) m4' rfl
        clear h91 h92 h93 g9 HT6 HB6 w1 w4 HOD f1 f4
        go_wp2_with (fail)
        refine (put_any _ 2 w.heap.size _ _ w9 (by omega) (by omega) (by omega) (by omega) HB9.out.size HT9.out.l).mono ?_
        rintro e wF ⟨vF,rfl,gF⟩
        have HTF:=Bas.hid (HT9.out.growL gF)
        have HBF:=Bas.hid (gF.below HB9.out HB9.out.size (fun g hg=>(Row.own_block HT9.out.l hg).1))
        have z1:=(gF.grow.block _ (heap_lt m1') (fun e=>e1 e.symm)).trans m1'
        have z4:=(gF.grow.block _ (heap_lt m4') (fun e=>e4 e.symm)).trans m4'
        clear gF HT9 HB9 m1' m4' cx e1 e4
        go_wp2_with (fail)
        go_roundw
        case rel=>exact ⟨1,_,_,_,_,by omega,by go_num,rfl,rfl,by rw [HA.out];exact HTF.out,HBF.out,z1,z4,⟨fun h=>by omega,fun _=>rfl⟩⟩
        case measure=>simp [intOf]
    · have hx1:x1=0:=hx.2 (by omega)
      subst hx1
      by_cases hz:n1=0
      · have hd:decide ((0:Int)<(n1:Int))=false:=by simp;omega
        have hd2:decide (0<n1)=false:=by simp;omega
        have HA:Hid (stB p 2=stB p 1++putB 0 2):=by
          have:a1 p=0:=by unfold a1;rw [if_pos (HN1.out▸hz)]
          unfold Hid
          show stB p 1++putB (a1 p:Int) 2=_
          rw [this];rfl
        have HI:Hid (stI p 2=stI p 1):=by
          have:d1 p=[]:=by unfold d1;rw [if_pos (HN1.out▸hz)]
          unfold Hid
          simp [stI,this]
        clear hz htw hb
        go_wp2_with (fail)
        refine (put_any 0 2 w.heap.size _ _ wr (by omega) (by omega) (by omega) (by omega) HB.out.size HT.out.l).mono ?_
        rintro e wF ⟨vF,rfl,gF⟩
        have HTF:=Bas.hid (HT.out.growL gF)
        have HBF:=Bas.hid (gF.below HB.out HB.out.size (fun g hg=>(Row.own_block HT.out.l hg).1))
        have z1:=(gF.grow.block _ (heap_lt y1) (fun e=>e1 e.symm)).trans y1
        have z4:=(gF.grow.block _ (heap_lt y4) (fun e=>e4 e.symm)).trans y4
        clear gF HT HB y1 y4 c0 c1 q0 q1 q2 q3 f4 e1 e4
        go_wp2_with (fail)
        go_roundw
        case rel=>exact ⟨2,_,_,x0,0,by omega,by go_num,rfl,rfl,by rw [HA.out,HI.out];exact HTF.out,HBF.out,z1,z4,⟨fun h=>by omega,fun h=>by omega⟩⟩
        case measure=>simp [intOf]
      · have hd:decide ((0:Int)<(n1:Int))=true:=by simp;omega
        have hd2:decide (0<n1)=true:=by simp;omega
        have HA:Hid (stB p 2=stB p 1++putB (12+(sl:Int)) 2):=by
          have:a1 p=12+sl:=by unfold a1;rw [if_neg (HN1.out▸hz),HSL.out];rfl
          unfold Hid
          show stB p 1++putB (a1 p:Int) 2=_
          rw [this];rfl
        have HI:Hid (stI p 2=stI p 1++dataW p.s1 p.t1 (12+sl)):=by
          have:d1 p=dataW p.s1 p.t1 (12+sl):=by unfold d1;rw [if_neg (HN1.out▸hz),HSL.out];rfl
          unfold Hid
          rw [←this];rfl
        have HDK:Hid (∀w',Below w.heap.size w w'→Calls Tryz.prog 31 #[.slice sad1 m1 scap1,.slice tad1 n1 tcap1,.int .i64 (12+(sl:Int))] w' fun e w''=>∃v',e=.returned v'∧w''.ownsRow w'.heap.size 5 1 v' (dataW p.s1 p.t1 (12+sl)).length ((dataW p.s1 p.t1 (12+sl)).map (Value.int .u8))∧Below w'.heap.size w' w''):=by
          intro w' hb
          have h:=HD1.out w' hb
          have e2:12+(stI p 1).length=12+sl:=by rw [HSL.out]
          simp only [stI] at e2
          first | rw [e2] at h | (have e3 : sl = 0 := by omega
                                  rw [e3])
          simpa using h
        have hdl:(dataW p.s1 p.t1 (12+sl)).length≤600:=by
          have h:=d1_len p HSM.out
          have:d1 p=dataW p.s1 p.t1 (12+sl):=by unfold d1;rw [if_neg (HN1.out▸hz),HSL.out];rfl
          rwa [this] at h
        generalize dataW p.s1 p.t1 (12+sl)=D at*
        obtain ⟨ads,cps,hvs⟩:=row_slice HT.out.r
        rw [←HSL.out] at hvs
        rw [hvs]
        clear hz htw hb
        go_wp2_with (fail)
        have HT5:=Bas.hid (two_set HT.out y4 (by decide) (i:=1) (.int .i64 (12+(sl:Int))))
        have HB5:=Bas.hid (HB.out.setCell (p:=⟨T4,1,none⟩) (Nat.le_of_lt hT4) (.int .i64 (12+(sl:Int))))
        have z4:(wr.setCell ⟨T4,1,none⟩ (.int .i64 (12+(sl:Int)))).heap[T4]? =some (.cells #[.int .i64 x0,.int .i64 (12+(sl:Int))] 133 (0,0)):=heap_set (i:=1) y4 (.int .i64 (12+(sl:Int)))
        have z1:=(Below.heap_setCell wr ⟨T4,1,none⟩ (.int .i64 (12+(sl:Int))) w.heap.size (by show w.heap.size≠T4;omega)).trans y1
        generalize wr.setCell ⟨T4,1,none⟩ (.int .i64 (12+(sl:Int)))=W5 at*
        clear y1 y4 c0 c1 q0 q1 q2 q3 f4 e1 e4 HT HB
        refine' Pl.region_v0 48 [0] [1,2,3,4,5,6,7,8,9,10,11] [12,13,14] _ (by kernel_rfl) (by kernel_rfl) (by simp) (fun _ _ _ _ e h=>⟨e▸h.1,h.2⟩) ?_ ?_
        rotate_left
        · intro I F hI hF
          simp only [Pl.selN,List.cons_append,List.nil_append,List.drop_succ_cons,List.drop_zero]
          have x0:=fun i=>hF.cell (heap_lt z1) (cell_of_heap (i:=1) (v:=.slice sad1 m1 scap1) z1 rfl) i
          have x1:=fun i=>hF.cell (heap_lt z1) (cell_of_heap (i:=3) (v:=.slice tad1 n1 tcap1) z1 rfl) i
          have x2:=fun i=>hF.cell (heap_lt z4) (cell_of_heap (i:=1) (v:=.int .i64 (12+(sl:Int))) z4 rfl) i
          repeat (go_big_quiet_step (fail))
          refine wpQuiet_nil ?_
          rfl
        intro u hu
        simp only [Pl.selN,List.drop_succ_cons,List.drop_zero]
        have HTU:=Bas.hid (HT5.out.below hu)
        have HBU:=Bas.hid (HB5.out.trans (hu.mono HB5.out.size))
        have u1:=(hu.block _ (heap_lt z1)).trans z1
        have u4:=(hu.block _ (heap_lt z4)).trans z4
        clear hu HT5 HB5 z1 z4
        go_wp2_with (fail)
        refine (HDK.out _ HBU.out).mono ?_
        rintro e W6 ⟨vd,rfl,hod,hb6⟩
        have HT6:=Bas.hid (HTU.out.below hb6)
        have HB6:=Bas.hid (HBU.out.trans (hb6.mono HBU.out.size))
        have w1:=(hb6.block _ (heap_lt u1)).trans u1
        have w4:=(hb6.block _ (heap_lt u4)).trans u4
        have HOD:=Bas.hid hod
        obtain ⟨dad,dcp,rfl⟩:=row_slice hod
        obtain ⟨dl,hdl2⟩:∃dl,dl=D.length:=⟨_,rfl⟩
        have HDL:=Bas.hid hdl2
        have f1:(Value.slice ads sl cps).ownBlock≠some w.heap.size:=by rw [←hvs];exact own_ty HT6.out.r w1 (by decide)
        have f4:(Value.slice ads sl cps).ownBlock≠some T4:=by rw [←hvs];exact own_ty HT6.out.r w4 (by decide)
        have HVS:=Bas.hid hvs
        rw [←hdl2] at hdl ⊢
        clear hb6 u1 u4 HTU HBU HDK hod hdl2 hvs
        go_wp2_with (at_builtin;refine Row.fence ?_)
        refine Row.unfence ?_
        refine Row.append_at rfl _ _ 47 5 rfl (.int .u8 0) 1 1 Tryz.underlying47 info8 rfl (by decide) w.heap.size (.slice ads sl cps) sl _ rfl (by have h:=HT6.out.r;rw [HVS.out,←HSL.out] at h;exact h) (.slice dad dl dcp) dl _ rfl (by rw [HDL.out];exact Row.leads_owned HOD.out) (by simp [HDL.out]) (by simp;intros;rfl) (by unfold maxLen;omega) (by omega) HB6.out.size ?_
        intro v9 w9 h91 h92 _ h93
        have g9:Grown W6 w.heap.size (.slice ads sl cps) (stI p 1++D) v9 w9:=
          ⟨by simpa only [List.map_append,List.length_append,HDL.out,HSL.out] using h91,h92,h93.imp id fun h=>⟨_,h,Nat.le_refl _⟩⟩
        have HT9:Hid (TwoRows w9 w.heap.size vb (stB p 1) v9 (stI p 2)):=by
          unfold Hid
          rw [HI.out]
          have h:=HT6.out
          rw [HVS.out] at h
          exact h.growR g9
        have HB9:=Bas.hid (HB6.out.grown h92 HB6.out.size (fun g hg=>(Row.own_block HT6.out.r (by rw [HVS.out];exact hg)).1))
        have m1':=(h92.block _ (heap_lt w1) (fun e=>f1 e.symm)).trans w1
        have m4':=(h92.block _ (heap_lt w4) (fun e=>f4 e.symm)).trans w4
        have e1:vb.ownBlock≠some w.heap.size:=own_ty HT9.out.l m1' (by decide)
        have e4:vb.ownBlock≠some T4:=own_ty HT9.out.l m4' (by decide)
        obtain ⟨ad9,cp9,rfl⟩:=row_slice HT9.out.r
        have cx:=cell_of_heap (i:=1) (v:=.int .i64 (12+(sl:Int))) m4' rfl
        clear h91 h92 h93 g9 HT6 HB6 w1 w4 HOD f1 f4
        go_wp2_with (fail)
        refine (put_any _ 2 w.heap.size _ _ w9 (by omega) (by omega) (by omega) (by omega) HB9.out.size HT9.out.l).mono ?_
        rintro e wF ⟨vF,rfl,gF⟩
        have HTF:=Bas.hid (HT9.out.growL gF)
        have HBF:=Bas.hid (gF.below HB9.out HB9.out.size (fun g hg=>(Row.own_block HT9.out.l hg).1))
        have z1:=(gF.grow.block _ (heap_lt m1') (fun e=>e1 e.symm)).trans m1'
        have z4:=(gF.grow.block _ (heap_lt m4') (fun e=>e4 e.symm)).trans m4'
        clear gF HT9 HB9 m1' m4' cx e1 e4
        go_wp2_with (fail)
        go_roundw
        case rel=>exact ⟨2,_,_,_,_,by omega,by go_num,rfl,rfl,by rw [HA.out];exact HTF.out,HBF.out,z1,z4,⟨fun h=>by omega,fun h=>by omega⟩⟩
        case measure=>simp [intOf]
    · have h:=htw
      obtain ⟨ads,cps,hvs⟩:=row_slice HT.out.r
      rw [←HSL.out] at hvs
      rw [hvs]
      have HVS:=Bas.hid hvs
      clear htw hb h hvs y1 y4 c0 c1 q0 q1 q2 q3 f4 e1 e4 hx
      go_wp2_with (at_builtin;refine Row.fence ?_)
      refine Row.unfence ?_
      have k6:=Bas.heap_new wr (.cells #[.int .u8 0,.int .u8 0] 5)
      have hb6:=(Below.refl wr.heap.size wr).alloc (Nat.le_refl _) (.cells #[.int .u8 0,.int .u8 0] 5)
      have HT6:=Bas.hid (HT.out.below hb6)
      have HB6:=Bas.hid (HB.out.trans (hb6.mono HB.out.size))
      generalize wr.alloc (.cells #[.int .u8 0,.int .u8 0] 5)=W6 at*
      generalize wr.heap.size=T6 at*
      clear hb6 HT HB
      refine Row.append_at rfl _ _ 47 5 rfl (.int .u8 0) 1 1 Tryz.underlying47 info8 rfl (by decide) w.heap.size vb _ _ rfl HT6.out.l (.slice (some ⟨T6,0,none⟩) 2 2) 2 [.int .u8 0,.int .u8 0] rfl (leads_heap k6) rfl (by simp;rfl) (by unfold maxLen;omega) (by omega) HB6.out.size ?_
      intro v7 w7 h71 h72 _ h73
      have g7:Grown W6 w.heap.size vb (stB p 2++[0,0]) v7 w7:=⟨by simpa using h71,h72,h73.imp id fun h=>⟨_,h,Nat.le_refl _⟩⟩
      have HT7:=Bas.hid (HT6.out.growL g7)
      have HB7:=Bas.hid (g7.below HB6.out HB6.out.size (fun g hg=>(Row.own_block HT6.out.l hg).1))
      obtain ⟨ad7,cp7,rfl⟩:=row_slice HT7.out.l
      clear h71 h72 h73 g7 HT6 HB6 k6
      go_wp2_with (at_builtin;refine Row.fence ?_)
      refine Row.unfence ?_
      refine Row.append_at rfl _ _ 47 5 rfl (.int .u8 0) 1 1 Tryz.underlying47 info8 rfl (by decide) w.heap.size _ _ _ rfl HT7.out.l (.slice ads sl cps) sl _ rfl (by have h:=Row.leads_owned HT7.out.r;rw [HVS.out,←HSL.out] at h;exact h) (by simp [HSL.out]) (by simp;intros;rfl) (by unfold maxLen;simp only [List.length_append,List.length_cons,List.length_nil];omega) (by simp only [List.length_append,List.length_cons,List.length_nil];omega) HB7.out.size ?_
      intro v9 w9 h91 h92 _ h93
      have h91':w9.ownsRow w.heap.size 5 1 v9 (writeT p).length ((writeT p).map (Value.int .u8)):=by
        unfold writeT
        simpa only [List.map_append,List.length_append,HSL.out,Nat.add_assoc,List.append_assoc] using h91
      have HB9:=Bas.hid (HB7.out.grown h92 HB7.out.size (fun g hg=>(Row.own_block HT7.out.l hg).1))
      have HO9:=Bas.hid h91'
      obtain ⟨ad9,cp9,rfl⟩:=row_slice h91'
      clear h91 h92 h93 h91' HT7
      go_wp2_with (fail)
      go_ret
      exact ⟨_,rfl,HO9.out,HB9.out⟩
end Tk
namespace Sh
open Vw Wr Ch
abbrev planO(ad:Option Addr)(n cp:Nat)(more:Int):Obj:=.cells #[.slice ad n cp,.int .u8 more,.bool false,.bool false,.bool false,.bool false,.bool false,.slice none 0 0,.slice none 0 0,.slice none 0 0,.slice none 0 0,.slice none 0 0,.slice none 0 0,.slice none 0 0,.slice none 0 0] 44
def SlB(w:World)(e:Ending)(w':World):Prop:=∃a n c,e=.returned (.slice a n c)∧Below w.heap.size w w'
theorem slB{w w':World}{e:Ending}{v:Value}{n:Nat}{xs:List Value}(h1:e=.returned v)(h2:w'.ownsRow w.heap.size 5 1 v n xs)(h3:Below w.heap.size w w'):SlB w e w':=by
 obtain ⟨a,c,rfl⟩:=own_slice h2;exact ⟨a,n,c,h1,h3⟩
theorem w26_sl(w:World):Calls Tryz.prog 16 #[.slice none 0 0] w (SlB w):=(w26_nil w).mono fun _ _ ⟨_,_,h1,h2,h3⟩=>slB h1 h2 h3
theorem w24_sl(w:World):Calls Tryz.prog 17 #[.slice none 0 0] w (SlB w):=(w24_nil w).mono fun _ _ ⟨_,_,h1,h2,h3⟩=>slB h1 h2 h3
theorem w08_nil(w:World):Calls Tryz.prog 14 #[.slice none 0 0] w (SlB w):=
 (Ft.fwrite_any (.slice none 0 0) [] w (by simp) (fun _ h=>by cases h) ⟨[],rfl,.inl ⟨rfl,rfl,rfl⟩,fun _ _ _ h=>by simp at h⟩).mono fun _ _ ⟨v,h1,h2,h3⟩=>slB h1 h2 h3
theorem w19_nil(w:World):Calls Tryz.prog 15 #[.slice none 0 0] w (SlB w):=
 (write_any (.slice none 0 0) [] w (by simp) (fun _ h=>by cases h) ⟨[],rfl,.inl ⟨rfl,rfl,rfl⟩,fun _ _ _ h=>by simp at h⟩).mono fun _ _ ⟨v,h1,h2,h3⟩=>slB h1 h2 h3
theorem w27_nil(w:World):Calls Tryz.prog 18 #[.agg #[.slice none 0 0,.slice none 0 0,.slice none 0 0,.slice none 0 0]] w (SlB w):=by
 have hs:Tk.rgSizes []:=fun _ h=>by cases h
 have hp:Row.Leads w (.slice none 0 0) 0 []:=.inl ⟨rfl,rfl,rfl⟩;refine (Tk.twrite_any _ _ _ _ ⟨[],[],[],[]⟩ w ⟨⟨by simp,by simp⟩,by simp,by simp⟩ ⟨⟨hs,fun _ h=>by cases h⟩,hs,fun _ h=>by cases h⟩ ⟨hp,hp,⟨[],rfl,hp,fun _ _ _ h=>by simp at h⟩,⟨[],rfl,hp,fun _ _ _ h=>by simp at h⟩⟩).mono fun _ _ ⟨v,h1,h2,h3⟩=>slB h1 h2 h3
theorem part_ix(s0 s1 s2 s3 s4:ByteArray)(a0 a1 a2 a3 a4:Option Addr)(n0 n1 n2 n3 n4 c0 c1 c2 c3 c4:Nat)(w:World)(j:Nat)(hj:j<5):∃x ya yn yc,(Instr.index 106 (.agg #[.string s0,.slice a0 n0 c0,.string s1,.slice a1 n1 c1,.string s2,.slice a2 n2 c2,.string s3,.slice a3 n3 c3,.string s4,.slice a4 n4 c4]) (.int .i64 (j:Int))).run Tryz.prog w=.ok (.agg #[.string x,.slice ya yn yc]) w:=by
 have h:=run_underlying (P:=Tryz.prog) Tryz.underlying106;rcases (by omega:j=0∨j=1∨j=2∨j=3∨j=4) with rfl|rfl|rfl|rfl|rfl
 ·exact ⟨s0,a0,n0,c0,by simp [Instr.index,h,part,asIntOf,go_sem]⟩
 ·exact ⟨s1,a1,n1,c1,by simp [Instr.index,h,part,asIntOf,go_sem]⟩
 ·exact ⟨s2,a2,n2,c2,by simp [Instr.index,h,part,asIntOf,go_sem]⟩
 ·exact ⟨s3,a3,n3,c3,by simp [Instr.index,h,part,asIntOf,go_sem]⟩
 ·exact ⟨s4,a4,n4,c4,by simp [Instr.index,h,part,asIntOf,go_sem]⟩
theorem write_bare(ad:Option Addr)(n cp:Nat)(more:Int)(A:List Int)(w:World)(hin:Row.Leads w (.slice ad n cp) n (A.flatMap Fo.u16C))(hA:∀x∈A,0≤x∧x≤65535)(hAn:A.length=n)(hn:n≤200)(h1:1≤n)(hmore:0≤more∧more≤255)(K:Ending→World→Prop)
  (hK:∀g' cap bs w',bs.length≤cap→cap≤maxLen→VB w' (some ⟨g',0,none⟩) bs→Fo.IsFont bs (Fo.widthP ((n+(more%40).toNat:Nat):Int) (n:Nat) (Fo.hmtxL A (more%40).toNat))→Below w.heap.size w w'→K (.returned (.slice (some ⟨g',0,none⟩) bs.length cap)) w'):
  Calls Tryz.prog 10 #[.agg #[.slice ad n cp,.int .u8 more,.bool false,.bool false,.bool false,.bool false,.bool false,.slice none 0 0,.slice none 0 0,.slice none 0 0,.slice none 0 0,.slice none 0 0,.slice none 0 0,.slice none 0 0,.slice none 0 0]] w K:=by
 have hb1:=(Below.refl w.heap.size w).alloc (Nat.le_refl _) (planO ad n cp more);have HB1:=Bas.hid hb1;have HK1:=Bas.hid (Bas.heap_new w (planO ad n cp more));have HIN:=Bas.hid (fun u (hb:Below w.heap.size w u)=>Row.leads_below hin hb)
 have HA:=Bas.hid hA;have HAN:=Bas.hid hAn;have HKK:=Bas.hid hK;have c0:=cell_of_heap (i:=0) (v:=.slice ad n cp) HK1.out rfl;have lT:=heap_lt HK1.out;have e0:((n:Int)==0)=false:=by simp;omega
 have e0':decide ((n:Int)=0)=false:=by simp;omega
 clear hin hA hAn hK hb1;go_enter Tryz.func10,Tryz.ntmps10
 go_wp2_with (fail);generalize w.alloc (planO ad n cp more)=w1 at*;obtain ⟨T,hT⟩:∃T,w.heap.size=T:=⟨_,rfl⟩;have HT:=Bas.hid hT;rw [hT] at HK1 c0 lT ⊢;clear hT;go_wp2_with (fail);obtain ⟨RI,RF,Ri,RF0,RFk,RFw⟩:=Pl.fam_of w1 (fun u=>u.heap[T]? =some (planO ad n cp more)) HK1.out
 have RFH:=Bas.hid RF0;have RhI:Nonempty RI:=⟨Ri⟩;have RFW:=Bas.hid RFw;have t7:=fun i=>cell_of_heap (i:=7) (v:=.slice none 0 0) (RFk i) rfl
 have t8:=fun i=>cell_of_heap (i:=8) (v:=.slice none 0 0) (RFk i) rfl
 have t9:=fun i=>cell_of_heap (i:=9) (v:=.slice none 0 0) (RFk i) rfl
 have t10:=fun i=>cell_of_heap (i:=10) (v:=.slice none 0 0) (RFk i) rfl
 have t11:=fun i=>cell_of_heap (i:=11) (v:=.slice none 0 0) (RFk i) rfl
 have t12:=fun i=>cell_of_heap (i:=12) (v:=.slice none 0 0) (RFk i) rfl
 have t13:=fun i=>cell_of_heap (i:=13) (v:=.slice none 0 0) (RFk i) rfl
 have t14:=fun i=>cell_of_heap (i:=14) (v:=.slice none 0 0) (RFk i) rfl
 clear RF0 RFw RFk;refine Pl.region_plan0 Ri [(true,0),(true,1),(true,4),(true,5),(true,8),(true,9),(true,12),(true,13),(true,16),(true,17),(true,21),(false,2),(true,3),(false,6),(true,7),(false,10),(true,11),(false,14),(true,15),(false,18),(true,19),(true,20)] [] (by kernel_rfl) (by kernel_rfl) (fun _ _ _ _ e h=>⟨e▸h.1,h.2⟩) RFH.out ?_
 refine Pl.head_sel0 [(true,0),(true,1),(true,4),(true,5),(true,8),(true,9),(true,12),(true,13),(true,16),(true,17),(true,21)] (by kernel_rfl) (by kernel_rfl) ?_
 simp only [Pl.sel,List.drop_succ_cons,List.drop_zero];repeat (go_big_quiet_step (fail))
 refine wpQuiet_nil ?_;rw [←RFH.out];clear t7 t8 t9 t10 t11 t12 t13 t14;have HB0:=Bas.hid (HB1.out.drew);have HK0:Hid (w1.drew.heap[T]? =some (planO ad n cp more)):=HK1.out;clear HB1 HK1;generalize w1.drew=u0 at*;refine Pl.one_sel (by kernel_rfl) ?_
 intro Q' hQ' hP';simp only [Pl.sel,List.drop_succ_cons,List.drop_zero];go_wp2_with (fail);refine (w08_nil u0).mono ?_;rintro e u1 ⟨qa0,qn0,qc0,rfl,hb⟩;have HB1:=Bas.hid (HB0.out.trans (hb.mono HB0.out.size));have HK1:=Bas.hid ((hb.block _ (heap_lt HK0.out)).trans HK0.out);clear hb HB0 HK0;go_wp2_with (fail);refine hQ' _ _ (fun _ _=>RFW.out _ HK1.out) ?_
 clear hQ' hP' Q';refine Pl.head_sel0 [(true,3)] (by kernel_rfl) (by kernel_rfl) ?_
 simp only [Pl.sel,List.drop_succ_cons,List.drop_zero];repeat (go_big_quiet_step (fail))
 refine wpQuiet_nil ?_;refine Pl.one_sel (by kernel_rfl) ?_
 intro Q' hQ' hP';simp only [Pl.sel,List.drop_succ_cons,List.drop_zero];go_wp2_with (fail);refine (w19_nil u1).mono ?_;rintro e u2 ⟨qa1,qn1,qc1,rfl,hb⟩;have HB2:=Bas.hid (HB1.out.trans (hb.mono HB1.out.size));have HK2:=Bas.hid ((hb.block _ (heap_lt HK1.out)).trans HK1.out);clear hb HB1 HK1;go_wp2_with (fail);refine hQ' _ _ (fun _ _=>RFW.out _ HK2.out) ?_
 clear hQ' hP' Q';refine Pl.head_sel0 [(true,7)] (by kernel_rfl) (by kernel_rfl) ?_
 simp only [Pl.sel,List.drop_succ_cons,List.drop_zero];repeat (go_big_quiet_step (fail))
 refine wpQuiet_nil ?_;refine Pl.one_sel (by kernel_rfl) ?_
 intro Q' hQ' hP';simp only [Pl.sel,List.drop_succ_cons,List.drop_zero];go_wp2_with (fail);refine (w26_sl u2).mono ?_;rintro e u3 ⟨qa2,qn2,qc2,rfl,hb⟩;have HB3:=Bas.hid (HB2.out.trans (hb.mono HB2.out.size));have HK3:=Bas.hid ((hb.block _ (heap_lt HK2.out)).trans HK2.out);clear hb HB2 HK2;go_wp2_with (fail);refine hQ' _ _ (fun _ _=>RFW.out _ HK3.out) ?_
 clear hQ' hP' Q';refine Pl.head_sel0 [(true,11)] (by kernel_rfl) (by kernel_rfl) ?_
 simp only [Pl.sel,List.drop_succ_cons,List.drop_zero];repeat (go_big_quiet_step (fail))
 refine wpQuiet_nil ?_;refine Pl.one_sel (by kernel_rfl) ?_
 intro Q' hQ' hP';simp only [Pl.sel,List.drop_succ_cons,List.drop_zero];go_wp2_with (fail);refine (w24_sl u3).mono ?_;rintro e u4 ⟨qa3,qn3,qc3,rfl,hb⟩;have HB4:=Bas.hid (HB3.out.trans (hb.mono HB3.out.size));have HK4:=Bas.hid ((hb.block _ (heap_lt HK3.out)).trans HK3.out);clear hb HB3 HK3;go_wp2_with (fail);refine hQ' _ _ (fun _ _=>RFW.out _ HK4.out) ?_
 clear hQ' hP' Q';refine Pl.head_sel0 [(true,15)] (by kernel_rfl) (by kernel_rfl) ?_
 simp only [Pl.sel,List.drop_succ_cons,List.drop_zero];repeat (go_big_quiet_step (fail))
 refine wpQuiet_nil ?_;refine Pl.one_sel (by kernel_rfl) ?_
 intro Q' hQ' hP';simp only [Pl.sel,List.drop_succ_cons,List.drop_zero];go_wp2_with (fail);refine (w27_nil u4).mono ?_;rintro e u5 ⟨qa4,qn4,qc4,rfl,hb⟩;have HB5:=Bas.hid (HB4.out.trans (hb.mono HB4.out.size));have HK5:=Bas.hid ((hb.block _ (heap_lt HK4.out)).trans HK4.out);clear hb HB4 HK4;go_wp2_with (fail);refine hQ' _ _ (fun _ _=>RFW.out _ HK5.out) ?_
 clear hQ' hP' Q';refine Pl.head_sel0 (rest:=[]) [(true,19),(true,20)] (by kernel_rfl) (by kernel_rfl) ?_
 simp only [Pl.sel,List.drop_succ_cons,List.drop_zero];repeat (go_big_quiet_step (fail))
 refine wpQuiet_nil ?_;simp only [Pl.walkM];clear RFW RFH RhI Ri;have HPX:=Bas.hid (fun (u:World) (j:Nat) (hj:j<5)=>part_ix ⟨#[102,101,97,116]⟩ ⟨#[109,111,114,120]⟩ ⟨#[107,101,114,120]⟩ ⟨#[97,110,107,114]⟩ ⟨#[116,114,97,107]⟩ qa0 qa1 qa2 qa3 qa4 qn0 qn1 qn2 qn3 qn4 qc0 qc1 qc2 qc3 qc4 u j hj)
 go_wp2_with (fail);obtain ⟨P5,hP5⟩:∃P5:Value,P5=.agg #[.string ⟨#[102,101,97,116]⟩,.slice qa0 qn0 qc0,.string ⟨#[109,111,114,120]⟩,.slice qa1 qn1 qc1,.string ⟨#[107,101,114,120]⟩,.slice qa2 qn2 qc2,.string ⟨#[97,110,107,114]⟩,.slice qa3 qn3 qc3,.string ⟨#[116,114,97,107]⟩,.slice qa4 qn4 qc4]:=⟨_,rfl⟩;rw [←hP5] at HPX ⊢;clear hP5;go_loopw [4,34] (fun vc vi wr=>∃i:Nat,i≤5∧vi=.int .i64 i∧vc=.slice none 0 0∧Below w.heap.size w wr∧wr.heap[T]? =some (planO ad n cp more)) (fun _ vi _=>5 - (intOf vi).toNat)
 case atStart=>exact ⟨0,by omega,rfl,rfl,HB5.out,HK5.out⟩
 case round=>
  obtain ⟨i,hi,rfl,rfl,hb,hk⟩:=hrel;have HBR:=Bas.hid hb;have HKR:=Bas.hid hk;clear hb hk;by_cases hin:i<5
  ·have e1:decide ((i:Int)<5)=true:=by simp;omega
   have e2:decide (i<5)=true:=by simp;omega
   obtain ⟨x,ya,yn,yc,hix⟩:=HPX.out wr i hin;have hb6:=(Below.refl wr.heap.size wr).alloc (Nat.le_refl _) (.cells #[.string x,.slice ya yn yc] 101);have HB6:=Bas.hid (HBR.out.trans (hb6.mono HBR.out.size));have HK6:=Bas.hid ((hb6.block _ (heap_lt HKR.out)).trans HKR.out);have cF:(wr.alloc (.cells #[.string x,.slice ya yn yc] 101)).cell? ⟨T,2+i,none⟩=some (.bool false):=by
    rcases (by omega:i=0∨i=1∨i=2∨i=3∨i=4) with rfl|rfl|rfl|rfl|rfl
    ·exact cell_of_heap (i:=2) HK6.out rfl
    ·exact cell_of_heap (i:=3) HK6.out rfl
    ·exact cell_of_heap (i:=4) HK6.out rfl
    ·exact cell_of_heap (i:=5) HK6.out rfl
    ·exact cell_of_heap (i:=6) HK6.out rfl
   have lT6:=heap_lt HK6.out;clear hb6;go_wp2_with (fail);go_roundw
   case rel=>exact ⟨i+1,by omega,by go_num,rfl,HB6.out,HK6.out⟩
   case measure=>simp [intOf];omega
  ·obtain rfl:i=5:=by omega
   have e1:decide (((5:Nat):Int)<5)=false:=by decide
   have c1:=cell_of_heap (i:=1) (v:=.int .u8 more) HKR.out rfl;have lT6:=heap_lt HKR.out;go_wp2_with (fail);obtain ⟨mm,hmm⟩:∃mm:Nat,more%40=(mm:Int):=Int.eq_ofNat_of_zero_le (Int.emod_nonneg _ (by omega))
   have hmm2:mm≤255:=by omega
   have hft:=Fo.font_any (.slice ad n cp) A mm wr (by rw [HAN.out];exact HIN.out wr HBR.out) HA.out (by rw [HAN.out];exact hn) hmm2
   rw [HAN.out] at hft;rw [hmm] at HKK ⊢;have HFT:=Bas.hid hft;clear hft hmm;refine HFT.out.mono ?_;rintro e w9 ⟨g',cap,bs,rfl,q1,q2,q3,q4,q5,q6⟩;have HBE:=Bas.hid (HBR.out.trans (q6.mono HBR.out.size));have HFIN:=Bas.hid (HKK.out g' cap bs w9 q1 q2 q3 q4 HBE.out);clear q1 q2 q3 q4 q5 q6 HKK;go_wp2_with (fail);exact HFIN.out
end Sh
namespace Fo
open Vw Wr
def four(g m:Int)(d:List Int):List PartD:=[⟨sMaxp,maxpL g⟩,⟨sHead,headL 1000⟩,⟨sHhea,hheaL m⟩,⟨sHmtx,d⟩]
theorem pC_flat(O:List PartD)(rs:List Value){q:Nat}(h:rs.length=q)(ho:O.length=q):((O.zip rs).flatMap pC).length=q*2:=by
 rw [List.length_flatMap];have:(O.zip rs).map (fun x=>(pC x).length)=List.replicate q 2:=by
  rw [List.eq_replicate_iff];refine ⟨by simp [h,ho],fun x hx=> ?_⟩
  obtain ⟨y,_,rfl⟩:=List.mem_map.1 hx;rfl
 rw [this,List.sum_replicate_nat]
theorem pC_one{w:World}(O:List PartD)(rs:List Value)(hE:∀(i:Nat) (c:PartD) (r:Value),O[i]? =some c→rs[i]? =some r→Row.Leads w r c.data.length (c.data.flatMap u8C)):∀u∈(O.zip rs).flatMap pC,u.oneCell'=true:=by
 intro u hu;obtain ⟨⟨c,r⟩,hx,hu⟩:=List.mem_flatMap.1 hu;obtain ⟨i,hi⟩:=List.mem_iff_getElem?.1 hx;obtain ⟨hc,hr⟩:=List.getElem?_zip_eq_some.1 hi;obtain ⟨a,cp,rfl⟩:=Row.leads_slice (hE i c r hc hr);simp only [pC,List.mem_cons,List.not_mem_nil,or_false] at hu;rcases hu with rfl|rfl<;>rfl
theorem font_gen(v vo:Value)(A:List Int)(more:Nat)(O P:List PartD)(idx:List Nat)(w:World)(hin:Row.Leads w v A.length (A.flatMap u16C))(hA:∀x∈A,0≤x∧x≤65535)(hn:A.length≤200)(hmore:more≤255)
  (ho:PParts w vo O) (hO:O.length≤10) (hby:∀p∈O,∀x∈p.data,0≤x∧x≤255) (hidx:idx.length=4+O.length) (hord:ordered ((four ((A.length+more:Nat):Int) (A.length:Nat) (hmtxL A more)++O).map PartD.tag) ⟨#[]⟩ true idx) (hP:P=idx.map fun i=>(four ((A.length+more:Nat):Int) (A.length:Nat) (hmtxL A more)++O).getD i default)
  (htot:atM P P.length≤1000000) (hri:∀(i j:Nat) p q,i<j→P[i]? =some p→P[j]? =some q→ltS p.tag q.tag=true):
  Calls Tryz.prog 19 #[v,.int .i64 more,vo] w fun e w'=>∃g' cap bs,e=.returned (.slice (some ⟨g',0,none⟩) bs.length cap)∧bs.length≤cap∧cap≤maxLen∧VB w' (some ⟨g',0,none⟩) bs∧IsFont bs P∧w'.ownsRow w.heap.size 5 1 (.slice (some ⟨g',0,none⟩) bs.length cap) bs.length (bs.map (Value.int .u8))∧Below w.heap.size w w':=by
 obtain ⟨ad,cp,rfl⟩:=Row.leads_slice hin;have HIN:=Bas.hid hin;have HA:=Bas.hid hA;obtain ⟨n,hnn⟩:∃n,A.length=n:=⟨_,rfl⟩;have HN:=Bas.hid hnn;rw [hnn] at hn ⊢;have HP:=Bas.hid (fun w'=>plain_any ((n+more:Nat):Int) 1000 n w' (by omega) (by omega) (by omega))
 have HB0:=Bas.hid (Below.refl w.heap.size w);obtain ⟨rso,hol,hoL,hoE⟩:=ho;obtain ⟨ado,cpo,rfl⟩:=Row.leads_slice hoL;obtain ⟨q,hq⟩:∃q,O.length=q:=⟨_,rfl⟩;have HQ:=Bas.hid hq;rw [hq] at hol hoL hO hidx ⊢;have HOR:=Bas.hid hol;have HOL:=Bas.hid hoL;have HOE:=Bas.hid hoE;have HMKX:=Bas.hid (fun (v':Value) (w':World) (h:PParts w' v' (four ((n+more:Nat):Int) (n:Nat) (hmtxL A more)++O))=>make_font v' _ idx w' h (by simp [four]) (by simp [four];omega) (by rw [hidx,List.length_append,←hq];rfl) (by rw [hnn] at hord;exact hord) P (by rw [hnn] at hP;exact hP) htot (fun p hp=>by
  rcases List.mem_append.1 hp with hp|hp
  ·simp only [four,List.mem_cons,List.not_mem_nil,or_false] at hp;rcases hp with rfl|rfl|rfl|rfl
   ·exact maxpL_byte _
   ·exact headL_byte 1000
   ·exact hheaL_byte _
   ·exact hmtxL_byte A more
  ·exact hby p hp) hri)
 clear hin hA hnn hord hP htot hri hby hq hol hoL hoE hidx;go_enter Tryz.func19,Tryz.ntmps19
 go_wp2_with (fail);go_loopw [7,13] (fun vb vi wr=>∃(i:Nat) (v7:Value),i≤n∧vi=.int .i64 i∧v7=vb∧wr.ownsRow w.heap.size 5 1 v7 (hmtxTo A i).length ((hmtxTo A i).map (Value.int .u8))∧Below w.heap.size w wr) (fun _ vi _=>n - (intOf vi).toNat)
 case atStart=>exact ⟨0,_,Nat.zero_le _,rfl,rfl,Row.owned_nil _ _ _ _,HB0.out⟩
 case round=>
  obtain ⟨i,v7,hi,rfl,hv7,hown,hb⟩:=hrel;rw [←hv7];clear hv7;have HO:=Bas.hid hown;have HB:=Bas.hid hb;have hil:=hmtxTo_len A i;have HIL:=Bas.hid hil;obtain ⟨bb,hbb⟩:∃bb,hmtxTo A i=bb:=⟨_,rfl⟩;rw [hbb] at HO hil;have HBBE:=Bas.hid hbb;have hbbl:bb.length≤800:=by omega
  clear hown hb hbb HB0;by_cases hin:i<n
  ·have e1:decide ((i:Int)<(n:Int))=true:=by simp;omega
   have e2:decide (i<n)=true:=by simp;omega
   obtain ⟨x,hx⟩:∃x,A[i]? =some x:=⟨_,List.getElem?_eq_getElem (by rw [HN.out];exact hin)⟩
   obtain ⟨B,Of,cp0,hv0,hcl⟩:=Row.leads_elem (m:=1) (fun _=>rfl) HIN.out hx (by omega)
   cases hv0;have h0:=hcl 0 _ rfl;simp only [Nat.mul_one,Nat.add_zero] at h0;have c0:=(HB.out.cell (p:=⟨B,Of+i,none⟩) (World.block_lt_of_cell? _ _ h0)).trans h0;have hxb:=HA.out x (List.mem_of_getElem? hx);have HNX:Hid (hmtxTo A (i+1)=bb++putB x 2++putB (i:Int) 2):=by
    unfold Hid;rw [hmtxTo_succ,HBBE.out,List.getD_eq_getElem?_getD,hx];rfl
   obtain ⟨x0,x1⟩:=hxb;clear hx hcl h0 hil;go_wp2_with (fail);refine (put_any x 2 w.heap.size _ bb wr (by omega) (by omega) (by omega) (by omega) HB.out.size HO.out).mono ?_
   rintro e w1 ⟨v1,rfl,g1⟩;have HB1:=Bas.hid (g1.below HB.out HB.out.size (fun g h=>(Row.own_block HO.out h).1))
   clear c0;go_wp2_with (fail);refine (put_any (i:Int) 2 w.heap.size _ _ w1 (by omega) (by omega) (by omega) (by rw [List.length_append,putB_len];omega) HB1.out.size g1.own).mono ?_
   rintro e w2 ⟨v2,rfl,g2⟩;have HB2:=Bas.hid (g2.below HB1.out HB1.out.size (fun g h=>(Row.own_block g1.own h).1))
   have HO2:=Bas.hid g2.own;clear g1 g2 HB1;go_wp2_with (fail);go_roundw
   case rel=>exact ⟨i+1,_,by omega,by go_num,rfl,by rw [HNX.out];exact HO2.out,HB2.out⟩
   case measure=>simp [intOf];omega
  ·have hin2:i=n:=by omega
   subst hin2;have HBF:Hid (hmtxL A more=bb++zs (2*more)):=by unfold Hid;rw [hmtxL,HN.out,HBBE.out]
   have H2M:Hid (2*(more:Int)=((2*more:Nat):Int)):=by unfold Hid;omega
   have hO:=HO.out;go_wp2_with (at_builtin;refine Row.fence ?_);refine Row.unfence ?_;refine (Row.append_zeros rfl _ _ 47 3 5 rfl (.int .u8 0) 1 .i64 .i64 Tryz.underlying47 Tryz.underlying3 info8 rfl rfl w.heap.size v7 bb.length _ rfl hO (2*more) (congrArg (Value.int .i64) H2M.out) (by unfold maxLen;omega) (by omega) HB.out.size ?_)
   intro v8 x8 h81 h82 _ h83;have g8:Grown wr w.heap.size v7 (hmtxL A more) v8 x8:=⟨by
    have hzr:(zs (2*more)).map (Value.int .u8)=List.replicate (2*more) (.int .u8 0):=by simp [zs]
    rw [HBF.out,List.map_append,List.length_append,hzr,zs_len];exact h81,h82,h83.imp id fun h=>⟨_,h,Nat.le_refl _⟩⟩
   have HB8:=Bas.hid (g8.below HB.out HB.out.size (fun g h=>(Row.own_block hO h).1))
   have HO8:=Bas.hid g8.own;have hl8:=hmtxL_len A more;obtain ⟨ad8,cp8,hv8⟩:=own_slice g8.own;rw [hl8,HN.out] at hv8;have HV8:=Bas.hid hv8;clear h81 h82 h83 g8 hO HO HB hl8 H2M;rw [hv8];clear hv8;go_wp2_with (fail);refine (HP.out x8).mono ?_;rintro e x9 ⟨G,r0,r1,r2,rfl,how,hb9⟩;have HB9:=Bas.hid (HB8.out.trans (hb9.mono HB8.out.size));have HO9:=Bas.hid (Row.owned_below HO8.out hb9);have HW9:=Bas.hid how;have HBS:=Bas.hid HB8.out.size;clear hb9 how HB8 HO8;go_wp2_with (at_builtin;refine Row.fence ?_);refine Row.unfence ?_;have hbX:=(Below.refl x9.heap.size x9).alloc (Nat.le_refl _) (.cells #[.string sHmtx,.slice ad8 (4*i+2*more) cp8] 101);have kX:=Bas.heap_new x9 (.cells #[.string sHmtx,.slice ad8 (4*i+2*more) cp8] 101);have HBX:=Bas.hid (HB9.out.trans (hbX.mono HB9.out.size));have HOX:=Bas.hid (Row.owned_below HO9.out hbX);have HWX:Hid (Own3 (x9.alloc (.cells #[.string sHmtx,.slice ad8 (4*i+2*more) cp8] 101)) w.heap.size G sMaxp sHead sHhea r0 r1 r2 (maxpL ((i+more:Nat):Int)) (headL 1000) (hheaL i)):=by
    obtain ⟨h1,h2,h3,h4,h5,h6⟩:=HW9.out;exact ⟨Nat.le_trans HBS.out h1,(hbX.block _ (heap_lt h2)).trans h2,Row.owned_base (Row.owned_below h3 hbX) HBS.out,Row.owned_base (Row.owned_below h4 hbX) HBS.out,Row.owned_base (Row.owned_below h5 hbX) HBS.out,h6⟩
   rw [show (⟨#[104,109,116,120]⟩:ByteArray)=sHmtx from rfl]
   generalize x9.alloc (.cells #[.string sHmtx,.slice ad8 (4*i+2*more) cp8] 101)=X at*;clear hbX HB9 HO9 HW9;have hOW:=own3_row HWX.out;refine (Row.append_any rfl _ _ 98 101 rfl (.agg #[.string ⟨#[]⟩,.slice none 0 0]) 2 40 Tryz.underlying98 infoP rfl (by decide) w.heap.size (.slice (some ⟨G,0,none⟩) 3 3) 3 _ rfl hOW (.slice (some ⟨x9.heap.size,0,none⟩) 1 1) 1 [.string sHmtx,.slice ad8 (4*i+2*more) cp8] rfl (leads_heap kX) rfl (by simp;exact ⟨rfl,rfl⟩) (by unfold maxLen;omega) (by omega) HBX.out.size ?_)
   intro v11 x11 hown11 hg11 _;obtain ⟨_,_,h3,h4,h5,_⟩:=HWX.out;have hkeep:∀{u:Value} {xs:List Int},X.ownsRow w.heap.size 5 1 u xs.length (xs.map (Value.int .u8))→x11.ownsRow w.heap.size 5 1 u xs.length (xs.map (Value.int .u8)):=fun {u xs} h=>Row.owned_keep h fun g hg=>hg11.block g (Row.own_block h hg).2 (fun e=>own_apart h hOW (by decide) g hg e.symm)
   have HR0:=Bas.hid (hkeep h3);have HR1:=Bas.hid (hkeep h4);have HR2:=Bas.hid (hkeep h5);have HR3:=Bas.hid (hkeep HOX.out);have HB11:=Bas.hid (HBX.out.grown hg11 HBX.out.size (fun g' hg'=>(Row.own_block hOW hg').1))
   have HO11:=Bas.hid hown11;obtain ⟨ad11,cp11,hv11⟩:=own_slice hown11;subst hv11;clear hown11 hg11 hOW h3 h4 h5 hkeep HOX HBX HWX kX;go_wp2_with (at_builtin;refine Row.fence ?_);refine Row.unfence ?_;refine (Row.append_any rfl _ _ 98 101 rfl (.agg #[.string ⟨#[]⟩,.slice none 0 0]) 2 40 Tryz.underlying98 infoP rfl (by decide) w.heap.size _ (3+1) _ rfl HO11.out (.slice ado q cpo) q _ rfl (Row.leads_below HOL.out HB11.out) (pC_flat _ _ HOR.out HQ.out) (pC_one _ _ HOE.out) (by unfold maxLen;omega) (by omega) HB11.out.size ?_)
   intro v12 x12 hown12 hg12 _;have hkeep:∀{u:Value} {xs:List Int},x11.ownsRow w.heap.size 5 1 u xs.length (xs.map (Value.int .u8))→x12.ownsRow w.heap.size 5 1 u xs.length (xs.map (Value.int .u8)):=fun {u xs} h=>Row.owned_keep h fun g hg=>hg12.block g (Row.own_block h hg).2 (fun e=>own_apart h HO11.out (by decide) g hg e.symm)
   have HB12:=Bas.hid (HB11.out.grown hg12 HB11.out.size (fun g' hg'=>(Row.own_block HO11.out hg').1))
   have hin4:PParts x12 v12 (four ((i+more:Nat):Int) i (hmtxL A more)++O):=by
    refine ⟨[r0,r1,r2,v8]++rso,by rw [List.length_append,List.length_append,HQ.out,HOR.out];rfl, ?_,fun j c r hc hr=> ?_⟩
    ·have h:=Row.leads_owned hown12;rw [HV8.out,List.zip_append (by rfl),List.flatMap_append,List.length_append,HQ.out]
     exact h
    ·by_cases hj:j<4
     ·rw [List.getElem?_append_left (by exact hj)] at hc hr
      rcases (by omega:j=0∨j=1∨j=2∨j=3) with rfl|rfl|rfl|rfl
      ·cases hc;cases hr;rw [u8_flat];exact Row.leads_owned (hkeep HR0.out)
      ·cases hc;cases hr;rw [u8_flat];exact Row.leads_owned (hkeep HR1.out)
      ·cases hc;cases hr;rw [u8_flat];exact Row.leads_owned (hkeep HR2.out)
      ·cases hc;cases hr;rw [u8_flat];exact Row.leads_owned (hkeep HR3.out)
     ·rw [List.getElem?_append_right (by simp [four];omega)] at hc
      rw [List.getElem?_append_right (by simp;omega)] at hr
      exact Row.leads_below (HOE.out _ c r hc hr) HB12.out
   have HMK:=Bas.hid (HMKX.out v12 x12 hin4);obtain ⟨ad12,cp12,hv12⟩:=own_slice hown12;subst hv12;clear hown12 hg12 hkeep hin4 HR0 HR1 HR2 HR3 HB11 HO11 HMKX;go_wp2_with (fail);refine HMK.out.mono ?_;rintro e x13 ⟨c,cap,bs,rfl,q1,q2,hv,hF,ho,hb13⟩;have HB13:=Bas.hid (HB12.out.trans (hb13.mono HB12.out.size));have HFIN:Hid (bs.length≤cap∧cap≤maxLen∧VB x13 (some ⟨c,0,none⟩) bs∧IsFont bs P∧x13.ownsRow w.heap.size 5 1 (.slice (some ⟨c,0,none⟩) bs.length cap) bs.length (bs.map (Value.int .u8))):=⟨q1,q2,hv,hF,Row.owned_base ho HB12.out.size⟩;clear q1 q2 hv hF ho hb13 HMK HB12;go_wp2_with (fail);go_ret;exact ⟨c,cap,bs,rfl,HFIN.out.1,HFIN.out.2.1,HFIN.out.2.2.1,HFIN.out.2.2.2.1,HFIN.out.2.2.2.2,HB13.out⟩
def sFeat:ByteArray:=⟨#[102,101,97,116]⟩
def sMorx:ByteArray:=⟨#[109,111,114,120]⟩
def sKerx:ByteArray:=⟨#[107,101,114,120]⟩
def sAnkr:ByteArray:=⟨#[97,110,107,114]⟩
def sTrak:ByteArray:=⟨#[116,114,97,107]⟩
def optL{α:Type}(b:Bool)(x:α):List α:=if b then [x] else []
structure HasD where
 f:Bool
 m:Bool
 k:Bool
 a:Bool
 t:Bool
structure TabsD where
 f:List Int
 m:List Int
 k:List Int
 a:List Int
 t:List Int
def opts(h:HasD)(D:TabsD):List PartD:=optL h.f ⟨sFeat,D.f⟩++optL h.m ⟨sMorx,D.m⟩++optL h.k ⟨sKerx,D.k⟩++optL h.a ⟨sAnkr,D.a⟩++optL h.t ⟨sTrak,D.t⟩
def fontP(h:HasD)(D:TabsD)(g m:Int)(d:List Int):List PartD:=
 optL h.a ⟨sAnkr,D.a⟩++optL h.f ⟨sFeat,D.f⟩++[⟨sHead,headL 1000⟩,⟨sHhea,hheaL m⟩,⟨sHmtx,d⟩]++optL h.k ⟨sKerx,D.k⟩++[⟨sMaxp,maxpL g⟩]++optL h.m ⟨sMorx,D.m⟩++optL h.t ⟨sTrak,D.t⟩
def bn(b:Bool):Nat:=if b then 1 else 0
def idxO(h:HasD):List Nat:=
 optL h.a (4+bn h.f+bn h.m+bn h.k)++optL h.f 4++[1,2,3]++optL h.k (4+bn h.f+bn h.m)++[0]++optL h.m (4+bn h.f)++optL h.t (4+bn h.f+bn h.m+bn h.k+bn h.a)
def ltD(a b:ByteArray):Bool:=Op.bytesLess a.data.toList b.data.toList
def gtD(a b:ByteArray):Bool:= !(Op.bytesLess a.data.toList b.data.toList||a.data.toList==b.data.toList)
theorem ltS_data(a b:ByteArray):ltS a b=ltD a b:=by unfold ltS ltD;rw [ByteArray.toList_eq,ByteArray.toList_eq]
theorem gtS_data(a b:ByteArray):gtS a b=gtD a b:=by unfold gtS gtD;rw [ByteArray.toList_eq,ByteArray.toList_eq]
def leastB(T:List ByteArray)(above:ByteArray)(f:Bool):Nat→Int
 |0=>-1
 |k+1=>if (f||gtD (T.getD k ⟨#[]⟩) above)&&(decide (leastB T above f k<0)||ltD (T.getD k ⟨#[]⟩) (T.getD (leastB T above f k).toNat ⟨#[]⟩)) then k else leastB T above f k
theorem leastB_eq(T:List ByteArray)(above:ByteArray)(f:Bool):∀n,leastTo T above f n=leastB T above f n
 |0=>rfl
 |k+1=>by simp only [leastTo,leastStep,leastB,leastB_eq T above f k,ltS_data,gtS_data]
def orderedB(T:List ByteArray):ByteArray→Bool→List Nat→Bool
 |_,_,[]=>true
 |last,f,i::O=>leastB T last f T.length==(i:Int)&&decide (i<T.length)&&(T.getD i ⟨#[]⟩).data.size==4&&orderedB T (T.getD i ⟨#[]⟩) false O
theorem ordered_of(T:List ByteArray):∀(O:List Nat) (last:ByteArray) (f:Bool),orderedB T last f O=true→ordered T last f O
 |[],_,_,_=>trivial
 |i::O,last,f,h=>by
  simp only [orderedB,Bool.and_eq_true,beq_iff_eq,decide_eq_true_eq] at h;exact ⟨by rw [leastB_eq];exact h.1.1.1,h.1.1.2,h.1.2,ordered_of T O _ _ h.2⟩
def risB:List ByteArray→Bool
 |[]=>true
 |a::l=>l.all (ltD a)&&risB l
theorem ris_of:∀(l:List PartD),risB (l.map PartD.tag)=true→∀(i j:Nat) p q,i<j→l[i]? =some p→l[j]? =some q→ltS p.tag q.tag=true
 |[],_,i,j,p,q,_,hp,_=>by simp at hp
 |x::l,h,i,j,p,q,hij,hp,hq=>by
  simp only [List.map_cons,risB,Bool.and_eq_true,List.all_eq_true] at h;obtain ⟨j,rfl⟩:∃j',j=j'+1:=⟨j - 1,by omega⟩
  rw [List.getElem?_cons_succ] at hq;cases i with
  |zero=>
   cases hp;rw [ltS_data];exact h.1 _ (List.mem_map.2 ⟨q,List.mem_of_getElem? hq,rfl⟩)
  |succ i=>exact ris_of l h.2 i j p q (by omega) (by rwa [List.getElem?_cons_succ] at hp) hq
def tagL(h:HasD):List ByteArray:=[sMaxp,sHead,sHhea,sHmtx]++(optL h.f sFeat++optL h.m sMorx++optL h.k sKerx++optL h.a sAnkr++optL h.t sTrak)
theorem tagL_ok(h:HasD):orderedB (tagL h) ⟨#[]⟩ true (idxO h)=true:=by
 obtain ⟨f,m,k,a,t⟩:=h;cases f<;>cases m<;>cases k<;>cases a<;>cases t<;>kernel_rfl
theorem ord_any(h:HasD)(D:TabsD)(g m:Int)(d:List Int):ordered ((four g m d++opts h D).map PartD.tag) ⟨#[]⟩ true (idxO h):=by
 have e:(four g m d++opts h D).map PartD.tag=tagL h:=by
  obtain ⟨f,m,k,a,t⟩:=h;cases f<;>cases m<;>cases k<;>cases a<;>cases t<;>rfl
 rw [e];exact ordered_of _ _ _ _ (tagL_ok h)
theorem fontP_idx(h:HasD)(D:TabsD)(g m:Int)(d:List Int):fontP h D g m d=(idxO h).map fun i=>(four g m d++opts h D).getD i default:=by
 obtain ⟨f,m,k,a,t⟩:=h;cases f<;>cases m<;>cases k<;>cases a<;>cases t<;>rfl
theorem idxO_len(h:HasD)(D:TabsD):(idxO h).length=4+(opts h D).length∧(opts h D).length≤5:=by
 obtain ⟨f,m,k,a,t⟩:=h;cases f<;>cases m<;>cases k<;>cases a<;>cases t<;>exact ⟨rfl,by simp [opts,optL]⟩
theorem ris_any(h:HasD)(D:TabsD)(g m:Int)(d:List Int):∀(i j:Nat) p q,i<j→(fontP h D g m d)[i]? =some p→(fontP h D g m d)[j]? =some q→ltS p.tag q.tag=true:=by
 refine ris_of _ ?_;obtain ⟨f,m,k,a,t⟩:=h;cases f<;>cases m<;>cases k<;>cases a<;>cases t<;>rfl
def TabsD.Ok(D:TabsD):Prop:=((∀x∈D.f,0≤x∧x≤255)∧(∀x∈D.m,0≤x∧x≤255)∧(∀x∈D.k,0≤x∧x≤255)∧(∀x∈D.a,0≤x∧x≤255)∧(∀x∈D.t,0≤x∧x≤255))∧D.f.length≤60000∧D.m.length≤60000∧D.k.length≤60000∧D.a.length≤60000∧D.t.length≤60000
theorem mem_opt{α:Type}{b:Bool}{x y:α}(h:y∈optL b x):b=true∧y=x:=by
 cases b
 ·cases h
 ·exact ⟨rfl,by simpa [optL] using h⟩
theorem opts_mem(h:HasD)(D:TabsD):∀p∈opts h D,(h.f=true∧p=⟨sFeat,D.f⟩)∨(h.m=true∧p=⟨sMorx,D.m⟩)∨(h.k=true∧p=⟨sKerx,D.k⟩)∨(h.a=true∧p=⟨sAnkr,D.a⟩)∨(h.t=true∧p=⟨sTrak,D.t⟩):=by
 intro p hp;simp only [opts,List.mem_append] at hp;rcases hp with (((hp|hp)|hp)|hp)|hp
 ·exact .inl (mem_opt hp)
 ·exact .inr (.inl (mem_opt hp))
 ·exact .inr (.inr (.inl (mem_opt hp)))
 ·exact .inr (.inr (.inr (.inl (mem_opt hp))))
 ·exact .inr (.inr (.inr (.inr (mem_opt hp))))
theorem fontP_mem(h:HasD)(D:TabsD)(g m:Int)(d:List Int)(p:PartD):p∈fontP h D g m d↔p∈opts h D∨p∈four g m d:=by
 simp only [fontP,opts,four,List.mem_append,List.mem_cons,List.not_mem_nil,or_false];constructor
 ·rintro ((((((h|h)|h|h|h)|h)|h)|h)|h)<;>simp [h]
 ·rintro (((((h|h)|h)|h)|h)|h|h|h|h)<;>simp [h]
theorem opts_byte(h:HasD)(D:TabsD)(hD:D.Ok):∀p∈opts h D,(∀x∈p.data,0≤x∧x≤255)∧p.data.length≤60000:=by
 intro p hp;obtain ⟨⟨h1,h2,h3,h4,h5⟩,g1,g2,g3,g4,g5⟩:=hD;rcases opts_mem h D p hp with ⟨_,rfl⟩|⟨_,rfl⟩|⟨_,rfl⟩|⟨_,rfl⟩|⟨_,rfl⟩
 ·exact ⟨h1,g1⟩
 ·exact ⟨h2,g2⟩
 ·exact ⟨h3,g3⟩
 ·exact ⟨h4,g4⟩
 ·exact ⟨h5,g5⟩
theorem atM_le(P:List PartD)(M:Nat)(h:∀p∈P,p.data.length≤M):atM P P.length≤12+16*P.length+(M+3)*P.length:=by
 unfold atM;rw [List.take_length];have:=Row.flat_len_le bodyM (M+3) P (fun p hp=>by rw [bodyM_len];have:=h p hp;have:=pad4_le p.data.length;omega)
 omega
theorem fontP_at(h:HasD)(D:TabsD)(g m:Int)(d:List Int)(hD:D.Ok)(hd:d.length≤60000):atM (fontP h D g m d) (fontP h D g m d).length≤1000000:=by
 have h1:=atM_le (fontP h D g m d) 60000 (fun p hp=>by
  rcases (fontP_mem h D g m d p).1 hp with hp|hp
  ·exact (opts_byte h D hD p hp).2
  ·simp only [four,List.mem_cons,List.not_mem_nil,or_false] at hp;rcases hp with rfl|rfl|rfl|rfl
   ·rw [maxpL_len];omega
   ·rw [headL_len];omega
   ·rw [hheaL_len];omega
   ·exact hd)
 have h2:(fontP h D g m d).length≤9:=by
  rw [fontP_idx,List.length_map];have:=idxO_len h D;omega
 generalize (fontP h D g m d).length=q at*;have:(60000+3)*q≤60003*9:=Nat.mul_le_mul_left _ h2;omega
end Fo
namespace Ft
open Vw Wr
def toF(p:WPlan):FeatD:=⟨p.type,decide (p.flags≥32768),dfltOf p.sets p.flags,p.sets⟩
def risesL:Option Int→List WPlan→Bool
 |_,[]=>true
 |prev,p::l=>risesB prev p.type&&risesL (some p.type) l
theorem sets_back:∀(l:List Int) (pre post:List Int),(∀s∈l,0≤s∧s≤65535)→(List.range l.length).map (fun j=>be (pre++(l.flatMap sB++post)) (pre.length+4*j) 2)=l
 |[],pre,post,_=>rfl
 |s::l,pre,post,h=>by
  obtain ⟨h1,h2⟩:=h s (by simp)
  have ih:=sets_back l (pre++sB s) post (fun x hx=>h x (by simp [hx]))
  have e:pre++((s::l).flatMap sB++post)=pre++sB s++(l.flatMap sB++post):=by simp [List.flatMap_cons,List.append_assoc]
  rw [List.length_cons,List.range_succ_eq_map,List.map_cons,List.map_map,e]
  congr 1
  ·have a1:=be_mid pre (putB 9 2++(l.flatMap sB++post)) s 2 (pre.length+4*0) (by omega) h1 (by omega)
   simp only [sB,List.append_assoc] at a1 ⊢;exact a1
  ·refine Eq.trans ?_ ih;apply List.map_congr_left;intro j _;have hl:(pre++sB s).length+4*j=pre.length+4*(j+1):=by rw [List.length_append,sB_len];omega
   simp only [Function.comp,hl,Nat.succ_eq_add_one]
theorem row_back(L:List WPlan)(hL:L.length≤30)(h:∀p∈L,okPlan p)(x y:List WPlan)(p:WPlan)(hx:L=x++p::y):parseF (featW L) (rowAt (featW L) x.length)=some (toF p):=by
 have hp:=h p (by rw [hx];simp)
 obtain ⟨⟨⟨t1,t2⟩,⟨f1,f2⟩,hs⟩,h60⟩:=hp;obtain ⟨n,hn⟩:∃n,n=L.length:=⟨_,rfl⟩;obtain ⟨off,ho⟩:∃off,off=(setsW x).length:=⟨_,rfl⟩;have hoff:off≤7200:=by
  have:=setsW_le L h x.length (by rw [hx];simp)
  have e:L.take x.length=x:=by rw [hx,List.take_left]
  rw [e] at this;have hxl:x.length≤L.length:=by rw [hx];simp
  omega
 have hrows:rowsW n 0 L=rowsW n 0 x++(rowW n off p++rowsW n (off+4*p.sets.length) y):=by
  have key:∀(x:List WPlan) (o:Nat),rowsW n o (x++p::y)=rowsW n o x++(rowW n (o+(setsW x).length) p++rowsW n (o+(setsW x).length+4*p.sets.length) y):=by
   intro x;induction x with
   |nil=>intro o;simp [rowsW,setsW]
   |cons q x ih=>intro o;rw [List.cons_append,rowsW,ih,rowsW,setsW_cons,List.append_assoc,Nat.add_assoc o]
  rw [hx,key x 0,Nat.zero_add,←ho]
 have hsets:setsW L=setsW x++(p.sets.flatMap sB++setsW y):=by
  unfold setsW;rw [hx,List.flatMap_append,List.flatMap_cons]
 have hw:featW L=(headW n++rowsW n 0 x)++(rowW n off p++(rowsW n (off+4*p.sets.length) y++setsW L)):=by
  unfold featW;rw [←hn,hrows];simp only [List.append_assoc]
 have hw2:featW L=(headW n++rowsW n 0 L++setsW x)++(p.sets.flatMap sB++setsW y):=by
  unfold featW;rw [←hn,hsets];simp only [List.append_assoc]
 have hpl:(headW n++rowsW n 0 x).length=12+12*x.length:=by rw [List.length_append,headW_len,rowsW_len]
 have hrb:rowAt (featW L) x.length=rowW n off p:=by
  unfold rowAt;rw [hw,←hpl,List.drop_left,List.take_append_of_le_length (by rw [rowW_len];exact Nat.le_refl _),List.take_of_length_le (by rw [rowW_len];exact Nat.le_refl _)]
 have hpl2:(headW n++rowsW n 0 L++setsW x).length=12+12*n+off:=by rw [List.length_append,List.length_append,headW_len,rowsW_len,←hn,←ho]
 have hlen:12+12*n+off+4*p.sets.length≤(featW L).length:=by
  rw [hw2,List.length_append,hpl2,List.length_append,setB_len];omega
 have a0:=be_mid [] (putB (p.sets.length:Int) 2++(putB (12+12*(n:Int)+(off:Int)) 4++(putB p.flags 2++putB 7 2))) p.type 2 0 rfl t1 (by omega)
 have a2:=be_mid (putB p.type 2) (putB (12+12*(n:Int)+(off:Int)) 4++(putB p.flags 2++putB 7 2)) (p.sets.length:Int) 2 2 (by simp [putB_len]) (by omega) (by omega)
 have a4:=be_mid (putB p.type 2++putB (p.sets.length:Int) 2) (putB p.flags 2++putB 7 2) (12+12*(n:Int)+(off:Int)) 4 4 (by simp [putB_len]) (by omega) (by omega)
 have a8:=be_mid (putB p.type 2++putB (p.sets.length:Int) 2++putB (12+12*(n:Int)+(off:Int)) 4) (putB 7 2) p.flags 2 8 (by simp [putB_len]) f1 (by omega)
 have e:rowW n off p=putB p.type 2++(putB (p.sets.length:Int) 2++(putB (12+12*(n:Int)+(off:Int)) 4++(putB p.flags 2++putB 7 2))):=by simp only [rowW,List.append_assoc]
 simp only [List.append_assoc,List.nil_append] at a0 a2 a4 a8;rw [←e] at a0 a2 a4 a8;have hset:setsAt (featW L) (12+12*n+off) p.sets.length=p.sets:=by
  unfold setsAt;rw [hw2,←hpl2];exact sets_back p.sets _ (setsW y) hs
 rw [hrb];unfold parseF;rw [a0,a2,a4,a8,show (12+12*(n:Int)+(off:Int)).toNat=12+12*n+off by omega,Int.toNat_natCast,if_pos hlen,hset]
 rfl
theorem feats_back(L:List WPlan)(hL:L.length≤30)(h:∀p∈L,okPlan p):∀(l x:List WPlan) (prev:Option Int),L=x++l→featsAt (featW L) l.length x.length prev=if risesL prev l=true then some (l.map toF) else none
 |[],x,prev,_=>rfl
 |p::l,x,prev,hx=>by
  have ih:=feats_back L hL h l (x++[p]) (some p.type) (by rw [hx];simp)
  rw [List.length_append] at ih;rw [List.length_cons,featsAt,row_back L hL h x l p hx,Option.bind_some,risesL];show (if risesB prev (toF p).type=true then _ else _)=_
  have et:(toF p).type=p.type:=rfl;rw [et];cases h1:risesB prev p.type with
  |false=>simp
  |true=>
   simp only [if_true,Bool.true_and];have ih':featsAt (featW L) l.length (x.length+1) (some p.type)=if risesL (some p.type) l=true then some (l.map toF) else none:=ih
   rw [ih'];by_cases h2:risesL (some p.type) l=true
   ·rw [if_pos h2,if_pos h2];rfl
   ·rw [if_neg h2,if_neg h2];rfl
theorem fall_back(L:List WPlan)(hL:L.length≤30)(h:∀p∈L,okPlan p):parseFs (featW L)=if risesL none L=true then some (L.map toF) else none:=by
 have hlen:12+12*L.length≤(featW L).length:=by
  unfold featW;rw [List.length_append,List.length_append,headW_len,rowsW_len];omega
 have a0:=be_mid [] (putB (L.length:Int) 2++([0,0,0,0,0,0]++(rowsW L.length 0 L++setsW L))) 65536 4 0 rfl (by omega) (by omega)
 have a4:=be_mid (putB 65536 4) ([0,0,0,0,0,0]++(rowsW L.length 0 L++setsW L)) (L.length:Int) 2 4 (by simp [putB_len]) (by omega) (by omega)
 have e:featW L=putB 65536 4++(putB (L.length:Int) 2++([0,0,0,0,0,0]++(rowsW L.length 0 L++setsW L))):=by simp only [featW,headW,List.append_assoc]
 rw [List.nil_append,←e] at a0;rw [←e] at a4;unfold parseFs;rw [a0,a4,Int.toNat_natCast,if_pos ⟨by omega,rfl,hlen⟩]
 exact feats_back L hL h L [] none rfl
theorem featW_byte(l:List WPlan):∀x∈featW l,0≤x∧x≤255:=by
 have P:=putB_byte;have hrow:∀(l:List WPlan) (n off:Nat),∀x∈rowsW n off l,0≤x∧x≤255:=by
  intro l;induction l with
  |nil=>intro n off x hx;cases hx
  |cons p l ih=>
   intro n off x hx;rw [rowsW,List.mem_append] at hx;rcases hx with hx|hx
   ·simp only [rowW,List.mem_append] at hx;rcases hx with (((hx|hx)|hx)|hx)|hx<;>exact P _ _ x hx
   ·exact ih _ _ x hx
 intro x hx;simp only [featW,headW,List.mem_append] at hx;rcases hx with (((hx|hx)|hx)|hx)|hx
 ·exact P _ _ x hx
 ·exact P _ _ x hx
 ·simp at hx;omega
 ·exact hrow _ _ _ x hx
 ·obtain ⟨p,_,hx⟩:=List.mem_flatMap.1 hx;obtain ⟨s,_,hx⟩:=List.mem_flatMap.1 hx;rcases List.mem_append.1 hx with hx|hx<;>exact P _ _ x hx
theorem featW_len_le(l:List WPlan)(hl:l.length≤30)(h:∀p∈l,okPlan p):12≤(featW l).length∧(featW l).length≤7572:=by
 have:=setsW_le l h l.length (Nat.le_refl _);rw [List.take_length] at this;simp only [featW,List.length_append,headW_len,rowsW_len];omega
end Ft
namespace Sh
open Vw Wr Ch
structure KSub where
 cover:Int
 data:List Int
def kSubC(x:KSub×Value):List Value:=[.int .u32 x.1.cover,x.2]
theorem kSubC_len(x:KSub×Value):(kSubC x).length=2:=rfl
def okK(s:KSub):Prop:=(0≤s.cover∧s.cover≤4294967295)∧(∀x∈s.data,0≤x∧x≤255)∧s.data.length≤400
def KSubs(w:World)(v:Value)(l:List KSub):Prop:=∃ds:List Value,ds.length=l.length∧Row.Leads w v l.length ((l.zip ds).flatMap kSubC)∧∀(j:Nat) (s:KSub) (d:Value),l[j]? =some s→ds[j]? =some d→Row.Leads w d s.data.length (s.data.map (Value.int .u8))
theorem KSubs.below{w w':World}{v:Value}{l:List KSub}(h:KSubs w v l)(hb:Below w.heap.size w w'):KSubs w' v l:=by
 obtain ⟨ds,h1,h2,h3⟩:=h;exact ⟨ds,h1,Row.leads_below h2 hb,fun j s d hs hd=>Row.leads_below (h3 j s d hs hd) hb⟩
def kSubB(s:KSub):List Int:=putB (12+(s.data.length:Int)) 4++putB s.cover 4++[0,0,0,0]++s.data
def kerxH(n:Nat):List Int:=putB 2 2++putB 0 2++putB (n:Int) 4
def kerxW(l:List KSub):List Int:=kerxH l.length++l.flatMap kSubB
theorem kerxH_len(n:Nat):(kerxH n).length=8:=by simp [kerxH,putB_len]
theorem kSubB_len(s:KSub):(kSubB s).length=12+s.data.length:=by simp [kSubB,putB_len];omega
theorem kerx_pre(l:List KSub)(hok:∀s∈l,okK s)(k:Nat)(hk:k≤l.length):(kerxH l.length++(l.take k).flatMap kSubB).length≤8+412*k:=by
 rw [List.length_append,kerxH_len];have:=Row.take_len_le kSubB 412 l k (fun s hs=>by rw [kSubB_len];have:=(hok s hs).2.2;omega) hk
 omega
theorem w26_any(v:Value)(l:List KSub)(w:World)(hl:l.length≤10)(hok:∀s∈l,okK s)(hin:KSubs w v l):
  Calls Tryz.prog 16 #[v] w fun e w'=>∃v',e=.returned v'∧w'.ownsRow w.heap.size 5 1 v' (kerxW l).length ((kerxW l).map (Value.int .u8))∧Below w.heap.size w w':=by
 obtain ⟨ds,hdl,hlead,hel⟩:=hin;obtain ⟨ad,cap,rfl⟩:=Row.leads_slice hlead;obtain ⟨n,hn⟩:∃n,n=l.length:=⟨_,rfl⟩;rw [←hn];have hn10:n≤10:=by omega
 have HN:=Bas.hid hn;have HEL:=Bas.hid hel;have HLD:=Bas.hid hlead;have HOK:=Bas.hid hok;have HDL:=Bas.hid hdl;have HPRE:=Bas.hid (fun k=>kerx_pre l hok k)
 clear hdl hlead hel hok hn;have hem:w.ownsRow w.heap.size 5 1 (.slice none 0 0) ([]:List Int).length (([]:List Int).map (Value.int .u8)):=Row.owned_nil _ _ _ _;have HE:=Bas.hid hem;clear hem;go_enter Tryz.func16,Tryz.ntmps16
 go_wp2_with (fail);refine (put_any 2 2 w.heap.size _ [] w (by omega) (by omega) (by omega) (by simp) (Nat.le_refl _) HE.out).mono ?_
 rintro e w2 ⟨v2,rfl,hg2⟩;have HB2:=Bas.hid ((Below.refl w.heap.size w).grown hg2.grow (Nat.le_refl _) (fun g hg=>by cases hg))
 have HO2:=Bas.hid hg2.own;clear hg2;go_wp2_with (fail);refine (put_any 0 2 w.heap.size _ _ w2 (by omega) (by omega) (by omega) (by simp [putB_len]) HB2.out.size HO2.out).mono ?_
 rintro e w3 ⟨v3,rfl,hg3⟩;have HB3:=Bas.hid (HB2.out.grown hg3.grow HB2.out.size (fun g hg=>(Row.own_block HO2.out hg).1))
 have HO3:=Bas.hid hg3.own;clear hg3 HB2 HO2;go_wp2_with (fail);refine (put_any (n:Int) 4 w.heap.size _ _ w3 (by omega) (by omega) (by omega) (by simp [putB_len]) HB3.out.size HO3.out).mono ?_
 rintro e w4 ⟨v4,rfl,hg4⟩;have HB4:=Bas.hid (HB3.out.grown hg4.grow HB3.out.size (fun g hg=>(Row.own_block HO3.out hg).1))
 have HO4:Hid (w4.ownsRow w.heap.size 5 1 v4 (kerxH l.length++(l.take 0).flatMap kSubB).length ((kerxH l.length++(l.take 0).flatMap kSubB).map (Value.int .u8))):=by
  have h:=hg4.own;unfold Hid;simpa [kerxH,HN.out] using h
 clear hg4 HB3 HO3;go_wp2_with (fail);go_loopw [3,5,13] (fun xb _ vi wr=>∃(k:Nat) (vb:Value),k≤n∧vi=.int .i64 k∧vb=xb∧wr.ownsRow w.heap.size 5 1 vb (kerxH l.length++(l.take k).flatMap kSubB).length ((kerxH l.length++(l.take k).flatMap kSubB).map (Value.int .u8))∧Below w.heap.size w wr) (fun _ _ vi _=>n - (intOf vi).toNat)
 case atStart=>exact ⟨0,_,Nat.zero_le _,rfl,rfl,HO4.out,HB4.out⟩
 case round=>
  obtain ⟨k,vb,hk,rfl,hvb,hown,hb⟩:=hrel;rw [←hvb];clear hvb HO4 HB4 HE;have HO:=Bas.hid hown;have HB:=Bas.hid hb;have hpl:=HPRE.out k (by have:=HN.out;omega)
  by_cases hkn:k<n
  ·have hlen:=HN.out;obtain ⟨s,hs⟩:∃s,l[k]? =some s:=⟨_,List.getElem?_eq_getElem (by omega)⟩
   obtain ⟨d,hd⟩:∃d,ds[k]? =some d:=⟨_,List.getElem?_eq_getElem (by rw [HDL.out];omega)⟩
   have hse:=HEL.out k s d hs hd;obtain ⟨⟨o1,o2⟩,o3,o4⟩:=HOK.out s (List.mem_of_getElem? hs);have hz:(l.zip ds)[k]? =some (s,d):=List.getElem?_zip_eq_some.2 ⟨hs,hd⟩;obtain ⟨B0,O0,cp0,hv0,hcl⟩:=Row.leads_elem kSubC_len HLD.out hz (by omega)
   obtain ⟨da,dc,rfl⟩:=Row.leads_slice hse;cases hv0;have q0:=(hb.cell (p:=⟨B0,O0+k*2,none⟩) (World.block_lt_of_cell? _ _ (hcl 0 _ rfl))).trans (hcl 0 _ rfl);have q1:=(hb.cell (p:=⟨B0,O0+k*2+1,none⟩) (World.block_lt_of_cell? _ _ (hcl 1 _ rfl))).trans (hcl 1 _ rfl);have HSE:=Bas.hid hse;have HNEW:=Bas.hid (Row.take_flat kSubB l k s hs);obtain ⟨cv,D⟩:=s;simp only at q0 q1 HSE HNEW o1 o2 o4;obtain ⟨m,hm⟩:∃m,m=D.length:=⟨_,rfl⟩;have HM:=Bas.hid hm;rw [←hm] at q1 HSE o4;obtain ⟨bb,hbb⟩:∃bb,kerxH l.length++(l.take k).flatMap kSubB=bb:=⟨_,rfl⟩;rw [hbb] at HO hpl;have HBB:=Bas.hid hbb;clear hcl hse hb hown hz hlen hs hd hm hbb o3;go_wp2_with (fail);have k8:=Bas.heap_new wr (.cells #[.int .u32 cv,.slice da m dc] 96);have hbW:=(Below.refl wr.heap.size wr).alloc (Nat.le_refl _) (.cells #[.int .u32 cv,.slice da m dc] 96);have HO8:=Bas.hid (Row.owned_below HO.out hbW);have HB8:=Bas.hid (HB.out.trans (hbW.mono HB.out.size));have hnl:vb.ownBlock≠some wr.heap.size:=fun e=>Nat.lt_irrefl _ (Row.own_block HO.out e).2
   generalize wr.alloc (.cells #[.int .u32 cv,.slice da m dc] 96)=W8 at*;generalize wr.heap.size=T8 at k8 hnl ⊢;have HK8:=Bas.hid k8;have HNL:=Bas.hid hnl;clear q0 q1 hbW HO HB k8 hnl;obtain ⟨RI,RF,Ri,RF0,RFk,RFw⟩:=Pl.fam_of W8 (fun u=>u.heap[T8]? =some (.cells #[.int .u32 cv,.slice da m dc] 96 (0,0))) HK8.out
   have RFH:=Bas.hid RF0;have RhI:Nonempty RI:=⟨Ri⟩;have RFW:=Bas.hid RFw;have t0:=fun i=>cell_of_heap (i:=0) (v:=.int .u32 cv) (RFk i) rfl
   have t1:=fun i=>cell_of_heap (i:=1) (v:=.slice da m dc) (RFk i) rfl
   clear RF0 RFw RFk;refine Pl.region_plan0 Ri [(true,0),(true,1),(true,2),(true,3),(true,4),(true,6),(true,7),(true,8),(false,5),(false,9),(false,10)] [9,10] (by kernel_rfl) (by kernel_rfl) (fun _ _ _ _ e h=>⟨e▸h.1,h.2⟩) RFH.out ?_
   refine Pl.head_sel0 [(true,0),(true,1),(true,2),(true,3),(true,4),(true,6),(true,7),(true,8)] (by kernel_rfl) (by kernel_rfl) ?_
   simp only [Pl.sel,List.drop_succ_cons,List.drop_zero];repeat (go_big_quiet_step (fail))
   refine wpQuiet_nil ?_;rw [←RFH.out];clear t0 t1 RFH;refine Pl.one_sel (by kernel_rfl) ?_
   intro Q' hQ' hP';simp only [Pl.sel,List.drop_succ_cons,List.drop_zero];go_wp2_with (fail);have hOd:=Row.owned_keep HO8.out (w':=W8.drew) (fun _ _=>rfl)
   have hBd:Below w.heap.size w W8.drew:=HB8.out.drew;have hkd:W8.drew.heap[T8]? =_:=HK8.out;refine (put_any (12+(m:Int)) 4 w.heap.size _ _ W8.drew (by omega) (by omega) (by omega) (by omega) hBd.size hOd).mono ?_
   rintro e w9 ⟨v9,rfl,g9⟩;have HB9:=Bas.hid (g9.below hBd hBd.size (fun g hg=>(Row.own_block hOd hg).1))
   have HK9:=Bas.hid ((g9.grow.block T8 (heap_lt hkd) (fun e=>HNL.out e.symm)).trans hkd)
   have HN9:Hid (v9.ownBlock≠some T8):=by
    intro e;rcases g9.at' with h|⟨g,h,h2⟩
    ·exact HNL.out (h▸e)
    ·rw [h] at e;cases e;exact absurd (heap_lt hkd) (Nat.not_lt.2 h2)
   have HO9:=Bas.hid g9.own;clear g9 hOd hBd hkd HO8 HB8 HK8 HNL;go_wp2_with (fail);refine hQ' _ _ (fun _ _=>RFW.out _ HK9.out) ?_
   clear hQ' hP' Q' RFW RhI Ri;refine Pl.tail_sel [(false,9),(false,10)] (by kernel_rfl) (by kernel_rfl) ?_
   simp only [Pl.sel,List.drop_succ_cons,List.drop_zero];go_wp2_with (fail);refine (put_any cv 4 w.heap.size _ _ w9 (by omega) (by omega) (by omega) (by simp only [List.length_append,putB_len];omega) HB9.out.size HO9.out).mono ?_
   rintro e wA ⟨vA,rfl,gA⟩;have HBA:=Bas.hid (gA.below HB9.out HB9.out.size (fun g hg=>(Row.own_block HO9.out hg).1))
   have HKA:=Bas.hid ((gA.grow.block T8 (heap_lt HK9.out) (fun e=>HN9.out e.symm)).trans HK9.out)
   have HNA:Hid (vA.ownBlock≠some T8):=by
    intro e;rcases gA.at' with h|⟨g,h,h2⟩
    ·exact HN9.out (h▸e)
    ·rw [h] at e;cases e;exact absurd (heap_lt HK9.out) (Nat.not_lt.2 h2)
   have HOA:=Bas.hid gA.own;clear gA HO9 HB9 HK9 HN9;go_wp2_with (fail);obtain ⟨RI,RF,Ri,RF0,RFk,RFw⟩:=Pl.fam_of wA (fun u=>u.heap[T8]? =some (.cells #[.int .u32 cv,.slice da m dc] 96 (0,0))) HKA.out
   have RFH:=Bas.hid RF0;have RhI:Nonempty RI:=⟨Ri⟩;have RFW:=Bas.hid RFw;have t1:=fun i=>cell_of_heap (i:=1) (v:=.slice da m dc) (RFk i) rfl
   clear RF0 RFw RFk;refine Pl.region_plan0 Ri [(true,0),(true,3),(true,4),(false,1),(false,2),(false,5),(false,6)] [5,6] (by kernel_rfl) (by kernel_rfl) (fun _ _ _ _ e h=>⟨e▸h.1,h.2⟩) RFH.out ?_
   refine Pl.head_sel0 [(true,0),(true,3),(true,4)] (by kernel_rfl) (by kernel_rfl) ?_
   simp only [Pl.sel,List.drop_succ_cons,List.drop_zero];repeat (go_big_quiet_step (fail))
   refine wpQuiet_nil ?_;rw [←RFH.out];clear t1 RFH;have HOD:=Bas.hid (Row.owned_keep HOA.out (w':=wA.drew) (fun _ _=>rfl))
   have HBD:Hid (Below w.heap.size w wA.drew):=HBA.out.drew;have HKD:Hid (wA.drew.heap[T8]? =some (.cells #[.int .u32 cv,.slice da m dc] 96 (0,0))):=HKA.out;clear HOA HBA HKA;generalize wA.drew=wD at*;refine Pl.one_sel (by kernel_rfl) ?_
   intro Q' hQ' hP';simp only [Pl.sel,List.drop_succ_cons,List.drop_zero];go_wp2_with (fail);have hb1:=(Below.refl wD.heap.size wD).alloc (Nat.le_refl _) (.cells #[.int .u8 0,.int .u8 0,.int .u8 0,.int .u8 0] 5);have HKE:=Bas.hid ((hb1.block _ (heap_lt HKD.out)).trans HKD.out);have HBE:=Bas.hid (HBD.out.trans (hb1.mono HBD.out.size));have HOE:=Bas.hid (Row.owned_below HOD.out hb1);have HLE:=Bas.hid (Row.leads_owned (own_four 0 0 0 0 (Bas.heap_new wD (.cells #[.int .u8 0,.int .u8 0,.int .u8 0,.int .u8 0] 5)) (Nat.zero_le _)));clear hb1 HOD HBD HKD;generalize wD.alloc (.cells #[.int .u8 0,.int .u8 0,.int .u8 0,.int .u8 0] 5)=wE at*;refine hQ' _ _ (fun _ _=>RFW.out _ HKE.out) ?_
   clear hQ' hP' Q';refine Pl.one_sel (by kernel_rfl) ?_
   intro Q' hQ' hP';simp only [Pl.sel,List.drop_succ_cons,List.drop_zero];refine Row.append_at rfl _ _ 47 5 rfl (.int .u8 0) 1 1 Tryz.underlying47 info8 rfl (by decide) w.heap.size vA _ _ rfl HOE.out _ 4 _ rfl HLE.out (by simp) (byte_one _) (by unfold maxLen;simp only [List.length_append,putB_len];omega) (by simp only [List.length_append,putB_len];omega) HBE.out.size ?_
   intro v10 w10 h101 h102 _ h103;have HB10:=Bas.hid (HBE.out.grown h102 HBE.out.size (fun g hg=>(Row.own_block HOE.out hg).1))
   have HK10:=Bas.hid ((h102.block T8 (heap_lt HKE.out) (fun e=>HNA.out e.symm)).trans HKE.out)
   have HO10:Hid (w10.ownsRow w.heap.size 5 1 v10 (bb++putB (12+(m:Int)) 4++putB cv 4++[0,0,0,0]).length ((bb++putB (12+(m:Int)) 4++putB cv 4++[0,0,0,0]).map (Value.int .u8))):=by
    rw [List.map_append,List.length_append];exact h101
   clear h101 h102 h103 HBE HOE HLE;go_wp2_with (fail);refine hQ' _ _ (fun _ _=>RFW.out _ HK10.out) ?_
   clear hQ' hP' Q' RFW RhI Ri;refine Pl.tail_sel [(false,5),(false,6)] (by kernel_rfl) (by kernel_rfl) ?_
   simp only [Pl.sel,List.drop_succ_cons,List.drop_zero];refine Row.append_at rfl _ _ 47 5 rfl (.int .u8 0) 1 1 Tryz.underlying47 info8 rfl (by decide) w.heap.size v10 _ _ rfl HO10.out (.slice da m dc) m _ rfl (Row.leads_below HSE.out HB10.out) (by simp [HM.out]) (byte_one _) (by unfold maxLen;simp only [List.length_append,putB_len,List.length_cons,List.length_nil];omega) (by simp only [List.length_append,putB_len,List.length_cons,List.length_nil];omega) HB10.out.size ?_
   intro v11 w11 h111 h112 _ h113;have HB11:=Bas.hid (HB10.out.grown h112 HB10.out.size (fun g hg=>(Row.own_block HO10.out hg).1))
   have HO11:Hid (w11.ownsRow w.heap.size 5 1 v11 (kerxH l.length++(l.take (k+1)).flatMap kSubB).length ((kerxH l.length++(l.take (k+1)).flatMap kSubB).map (Value.int .u8))):=by
    have e1:kerxH l.length++(l.take (k+1)).flatMap kSubB=bb++putB (12+(m:Int)) 4++putB cv 4++[0,0,0,0]++D:=by
     rw [HNEW.out,←List.append_assoc,HBB.out];simp only [kSubB,←HM.out,List.append_assoc]
    rw [e1,List.map_append,List.length_append,←HM.out];exact h111
   clear h111 h112 h113 HB10 HO10 HK10;go_wp2_with (fail);go_roundw
   case rel=>exact ⟨k+1,_,by omega,by go_num,rfl,HO11.out,HB11.out⟩
   case measure=>simp [intOf];omega
  ·have hkn2:k=n:=by omega
   have HF:Hid (wr.ownsRow w.heap.size 5 1 vb (kerxW l).length ((kerxW l).map (Value.int .u8))):=by
    have h:=HO.out;rw [hkn2,HN.out,List.take_length] at h;exact h
   clear hown hb HO;go_wp2_with (fail);go_ret;exact ⟨_,rfl,HF.out,HB.out⟩
def aptC(p:Int×Int):List Value:=[.int .i16 p.1,.int .i16 p.2]
theorem aptC_len(p:Int×Int):(aptC p).length=2:=rfl
def APts(w:World)(v:Value)(l:List (List (Int×Int))):Prop:=∃rs:List Value,rs.length=l.length∧Row.Leads w v l.length ((l.zip rs).flatMap fun x=>[x.2])∧∀(j:Nat) (s:List (Int×Int)) (d:Value),l[j]? =some s→rs[j]? =some d→Row.Leads w d s.length (s.flatMap aptC)
theorem APts.below{w w':World}{v:Value}{l:List (List (Int×Int))}(h:APts w v l)(hb:Below w.heap.size w w'):APts w' v l:=by
 obtain ⟨ds,h1,h2,h3⟩:=h;exact ⟨ds,h1,Row.leads_below h2 hb,fun j s d hs hd=>Row.leads_below (h3 j s d hs hd) hb⟩
def aptB(p:Int×Int):List Int:=putB (p.1%65536) 2++putB (p.2%65536) 2
def aptsB(s:List (Int×Int)):List Int:=putB (s.length:Int) 4++s.flatMap aptB
def offA(l:List (List (Int×Int)))(k:Nat):List Int:=putB ((((l.take k).flatMap aptsB).length:Nat):Int) 2
def ofH(n:Nat):List Int:=putB 8 2++putB 0 2++putB (n:Int) 2
def ofA(l:List (List (Int×Int)))(k:Nat):List Int:=ofH l.length++(List.range k).flatMap (offA l)
def ankrW(l:List (List (Int×Int))):List Int:=[0,0,0,0,0,0,0,12]++putB (12+((ofA l l.length).length:Int)) 4++ofA l l.length++l.flatMap aptsB
theorem aptB_len(p:Int×Int):(aptB p).length=4:=by simp [aptB,putB_len]
theorem aptL_len(s:List (Int×Int)):(s.flatMap aptB).length=4*s.length:=by
 induction s with
 |nil=>rfl
 |cons a s ih=>rw [List.flatMap_cons,List.length_append,aptB_len,ih,List.length_cons];omega
theorem aptsB_len(s:List (Int×Int)):(aptsB s).length=4+4*s.length:=by rw [aptsB,List.length_append,putB_len,aptL_len]
theorem ofH_len(n:Nat):(ofH n).length=6:=by simp [ofH,putB_len]
theorem ofA_succ(l:List (List (Int×Int)))(k:Nat):ofA l (k+1)=ofA l k++offA l k:=by
 unfold ofA;rw [List.range_succ,List.flatMap_append,←List.append_assoc];simp
theorem ofA_len(l:List (List (Int×Int))):∀k,(ofA l k).length=6+2*k
 |0=>by simp [ofA,ofH_len]
 |k+1=>by rw [ofA_succ,List.length_append,ofA_len l k,offA,putB_len];omega
theorem apts_pre(l:List (List (Int×Int)))(hok:∀s∈l,s.length≤30)(k:Nat)(hk:k≤l.length):((l.take k).flatMap aptsB).length≤124*k:=
 Row.take_len_le aptsB 124 l k (fun s hs=>by rw [aptsB_len];have:=hok s hs;omega) hk
theorem w24_any(v:Value)(l:List (List (Int×Int)))(w:World)(hl:l.length≤30)(hok:∀s∈l,s.length≤30)(hin:APts w v l):
  Calls Tryz.prog 17 #[v] w fun e w'=>∃v',e=.returned v'∧w'.ownsRow w.heap.size 5 1 v' (ankrW l).length ((ankrW l).map (Value.int .u8))∧Below w.heap.size w w':=by
 obtain ⟨rs,hrl,hlead,hel⟩:=hin;obtain ⟨ad,cap,rfl⟩:=Row.leads_slice hlead;obtain ⟨n,hn⟩:∃n,n=l.length:=⟨_,rfl⟩;rw [←hn];have hn30:n≤30:=by omega
 have HN:=Bas.hid hn;have HEL:=Bas.hid hel;have HLD:=Bas.hid hlead;have HOK:=Bas.hid hok;have HRL:=Bas.hid hrl;have HPRE:=Bas.hid (fun k=>apts_pre l hok k)
 clear hrl hlead hel hok hn;have hb1:=((Below.refl w.heap.size w).alloc (Nat.le_refl _) (.cells #[.int .u8 0,.int .u8 0,.int .u8 0,.int .u8 0] 5)).alloc (by simp) (.cells #[.int .u8 0,.int .u8 0,.int .u8 0,.int .u8 12] 5)
 have k1:=(Below.heap_alloc (w.alloc (.cells #[.int .u8 0,.int .u8 0,.int .u8 0,.int .u8 0] 5)) (.cells #[.int .u8 0,.int .u8 0,.int .u8 0,.int .u8 12] 5) w.heap.size (by simp)).trans (Bas.heap_new w (.cells #[.int .u8 0,.int .u8 0,.int .u8 0,.int .u8 0] 5))
 have k2:=Bas.heap_new2 w (.cells #[.int .u8 0,.int .u8 0,.int .u8 0,.int .u8 0] 5) (.cells #[.int .u8 0,.int .u8 0,.int .u8 0,.int .u8 12] 5);have HB1:=Bas.hid hb1;have HO1:=Bas.hid (own_four 0 0 0 0 k1 (Nat.le_refl _));have HL1:=Bas.hid (Row.leads_owned (own_four 0 0 0 12 k2 (Nat.le_succ w.heap.size)));clear hb1 k1 k2;go_enter Tryz.func17,Tryz.ntmps17
 go_wp2_with (at_builtin;refine Row.fence ?_);refine Row.unfence ?_;generalize (w.alloc (.cells #[.int .u8 0,.int .u8 0,.int .u8 0,.int .u8 0] 5)).alloc (.cells #[.int .u8 0,.int .u8 0,.int .u8 0,.int .u8 12] 5)=w1 at*;refine Row.append_any rfl _ _ 47 5 rfl (.int .u8 0) 1 1 Tryz.underlying47 info8' rfl (by decide) w.heap.size _ 4 _ rfl HO1.out _ 4 _ rfl HL1.out (by simp) (byte_one _) (by unfold maxLen;omega) (by omega) HB1.out.size ?_
 intro v2 w2 ho2 hg2 _;have HB2:=Bas.hid (HB1.out.grown hg2 HB1.out.size (fun g hg=>(Row.own_block HO1.out hg).1))
 have HO2:Hid (w2.ownsRow w.heap.size 5 1 v2 (List.length [0,0,0,0,0,0,0,12]) (List.map (Value.int .u8) [0,0,0,0,0,0,0,12])):=ho2;clear ho2 hg2 HO1 HL1 HB1;go_wp2_with (fail);have hem:w2.ownsRow w2.heap.size 5 1 (.slice none 0 0) ([]:List Int).length (([]:List Int).map (Value.int .u8)):=Row.owned_nil _ _ _ _;refine (put_any 8 2 w2.heap.size _ [] w2 (by omega) (by omega) (by omega) (by simp) (Nat.le_refl _) hem).mono ?_
 rintro e w3 ⟨v3,rfl,hg3⟩;have HB3:=Bas.hid ((Below.refl w2.heap.size w2).grown hg3.grow (Nat.le_refl _) (fun g hg=>by cases hg))
 have HO3:=Bas.hid hg3.own;clear hg3 hem;go_wp2_with (fail);refine (put_any 0 2 w2.heap.size _ _ w3 (by omega) (by omega) (by omega) (by simp [putB_len]) HB3.out.size HO3.out).mono ?_
 rintro e w4 ⟨v4,rfl,hg4⟩;have HB4:=Bas.hid (HB3.out.grown hg4.grow HB3.out.size (fun g hg=>(Row.own_block HO3.out hg).1))
 have HO4:=Bas.hid hg4.own;clear hg4 HB3 HO3;go_wp2_with (fail);refine (put_any (n:Int) 2 w2.heap.size _ _ w4 (by omega) (by omega) (by omega) (by simp [putB_len]) HB4.out.size HO4.out).mono ?_
 rintro e w5 ⟨v5,rfl,hg5⟩;have HB5:=Bas.hid (HB4.out.grown hg5.grow HB4.out.size (fun g hg=>(Row.own_block HO4.out hg).1))
 have HT5:Hid (TwoRows w5 w2.heap.size v5 (ofA l 0) (.slice none 0 0) ((l.take 0).flatMap aptsB)):=by
  refine ⟨?_,Row.owned_nil _ _ _ _,fun g _ h=>by cases h⟩
  have h:=hg5.own;rw [HN.out] at h;simpa only [ofA,ofH,List.range_zero,List.flatMap_nil,List.append_nil,List.nil_append] using h
 clear hg5 HB4 HO4;have HBW2:=HB2;have HRH:=HO2;clear HO2;go_wp2_with (fail);go_loopw [4,5,7,9,20] (fun xb xs _ _ vi wr=>∃(k:Nat) (vb vs:Value),k≤n∧vi=.int .i64 k∧vb=xb∧vs=xs∧TwoRows wr w2.heap.size vb (ofA l k) vs ((l.take k).flatMap aptsB)∧Below w2.heap.size w2 wr) (fun _ _ _ _ vi _=>n - (intOf vi).toNat)
 case atStart=>exact ⟨0,_,_,Nat.zero_le _,rfl,rfl,rfl,HT5.out,HB5.out⟩
 case round=>
  obtain ⟨k,vb,vs,hk,rfl,hvb,hvs,htw,hb⟩:=hrel;rw [←hvb,←hvs];clear hvb hvs HT5 HB5;have HT:=Bas.hid htw;have HB:=Bas.hid hb;have HBT:=Bas.hid (HB2.out.trans (hb.mono HB2.out.size));have hpl:=HPRE.out k (by have:=HN.out;omega)
  have hol:=ofA_len l k;have HOL:=Bas.hid hol;by_cases hkn:k<n
  ·have hlen:=HN.out;obtain ⟨s,hs⟩:∃s,l[k]? =some s:=⟨_,List.getElem?_eq_getElem (by omega)⟩
   obtain ⟨d,hd⟩:∃d,rs[k]? =some d:=⟨_,List.getElem?_eq_getElem (by rw [HRL.out];omega)⟩
   have hse:=HEL.out k s d hs hd;have hs30:=HOK.out s (List.mem_of_getElem? hs);have hz:(l.zip rs)[k]? =some (s,d):=List.getElem?_zip_eq_some.2 ⟨hs,hd⟩;obtain ⟨B0,O0,cp0,hv0,hcl⟩:=Row.leads_elem (m:=1) (fun _=>rfl) HLD.out hz (by omega)
   obtain ⟨da,dc,rfl⟩:=Row.leads_slice hse;cases hv0;have h0:=hcl 0 _ rfl;simp only [Nat.mul_one,Nat.add_zero] at h0;have q0:=(HBT.out.cell (p:=⟨B0,O0+k,none⟩) (World.block_lt_of_cell? _ _ h0)).trans h0;have HSE:=Bas.hid hse;have HNEW:=Bas.hid (Row.take_flat aptsB l k s hs);have HOS:=Bas.hid (ofA_succ l k);obtain ⟨m,hm⟩:∃m,m=s.length:=⟨_,rfl⟩;have HM:=Bas.hid hm;rw [←hm] at q0 HSE hs30;obtain ⟨bb,hbb⟩:∃bb,ofA l k=bb:=⟨_,rfl⟩;rw [hbb] at HT hol;have HBB:=Bas.hid hbb;obtain ⟨sw,hsw⟩:∃sw,(l.take k).flatMap aptsB=sw:=⟨_,rfl⟩;rw [hsw] at HT hpl;have HSW:=Bas.hid hsw;obtain ⟨sl,hsl⟩:∃sl,sl=sw.length:=⟨_,rfl⟩;have HSL:=Bas.hid hsl;obtain ⟨ads,cps,hvs⟩:=row_slice HT.out.r;rw [←hsl] at hvs hpl;clear hcl hse hb htw hz hlen hs hd hm hbb hsw hsl h0 HOL;subst hvs;go_wp2_with (fail);refine (put_any (sl:Int) 2 w2.heap.size _ _ wr (by omega) (by omega) (by omega) (by omega) HB.out.size HT.out.l).mono ?_
   rintro e w6 ⟨v6,rfl,g6⟩;have HT6:=Bas.hid (HT.out.growL g6);have HB6:=Bas.hid (g6.below HB.out HB.out.size (fun g hg=>(Row.own_block HT.out.l hg).1))
   clear g6 HT HB HBT q0;go_wp2_with (fail);refine (put_any (m:Int) 4 w2.heap.size _ _ w6 (by omega) (by omega) (by omega) (by rw [←HSL.out];omega) HB6.out.size HT6.out.r).mono ?_
   rintro e w7 ⟨v7,rfl,g7⟩;have HB7:=Bas.hid (g7.below HB6.out HB6.out.size (fun g hg=>(Row.own_block HT6.out.r hg).1))
   have HT7:Hid (TwoRows w7 w2.heap.size v6 (ofA l (k+1)) v7 (sw++putB (m:Int) 4++(s.take 0).flatMap aptB)):=by
    have h:=HT6.out.growR g7;have e1:ofA l (k+1)=bb++putB (sl:Int) 2:=by rw [HOS.out,HBB.out,offA,HSW.out,←HSL.out]
    rw [e1,List.take_zero,List.flatMap_nil,List.append_nil];exact h
   clear g7 HT6 HB6;go_wp2_with (fail);go_loopw [5,9,34] (fun xs _ vi wr=>∃(j:Nat) (vt:Value),j≤m∧vi=.int .i64 j∧vt=xs∧TwoRows wr w2.heap.size v6 (ofA l (k+1)) vt (sw++putB (m:Int) 4++(s.take j).flatMap aptB)∧Below w2.heap.size w2 wr) (fun _ _ vi _=>m - (intOf vi).toNat)
   case atStart=>exact ⟨0,_,Nat.zero_le _,rfl,rfl,HT7.out,HB7.out⟩
   case round=>
    obtain ⟨j,vt,hj,rfl,hvt,htw,hb⟩:=hrel;rw [←hvt];clear hvt HT7 HB7;have HT:=Bas.hid htw;have HB:=Bas.hid hb;have HBT:=Bas.hid (HB2.out.trans (hb.mono HB2.out.size));by_cases hjn:j<m
    ·have hlen:=HM.out;obtain ⟨p,hp⟩:∃p,s[j]? =some p:=⟨_,List.getElem?_eq_getElem (by omega)⟩
     obtain ⟨B1,O1,cp1,hv1,hcl⟩:=Row.leads_elem aptC_len HSE.out hp (by omega)
     cases hv1;have q0:=(HBT.out.cell (p:=⟨B1,O1+j*2,none⟩) (World.block_lt_of_cell? _ _ (hcl 0 _ rfl))).trans (hcl 0 _ rfl);have q1:=(HBT.out.cell (p:=⟨B1,O1+j*2+1,none⟩) (World.block_lt_of_cell? _ _ (hcl 1 _ rfl))).trans (hcl 1 _ rfl);have HTK:Hid (sw++putB (m:Int) 4++(s.take (j+1)).flatMap aptB=sw++putB (m:Int) 4++(s.take j).flatMap aptB++putB (p.1%65536) 2++putB (p.2%65536) 2):=by
      unfold Hid;rw [Row.take_flat aptB s j p hp,←List.append_assoc,aptB,←List.append_assoc]
     obtain ⟨px,py⟩:=p;simp only at q0 q1 HTK;have hyl:(sw++putB (m:Int) 4++(s.take j).flatMap aptB).length≤10000:=by
      rw [List.length_append,List.length_append,putB_len,aptL_len,List.length_take,←HSL.out,←HM.out];omega
     generalize sw++putB (m:Int) 4++(s.take j).flatMap aptB=ys at*;clear hcl hp hlen htw hb;go_wp2_with (fail);have k8:=Bas.heap_new wr (.cells #[.int .i16 px,.int .i16 py] 132);have hbW:=(Below.refl wr.heap.size wr).alloc (Nat.le_refl _) (.cells #[.int .i16 px,.int .i16 py] 132);have HT8:=Bas.hid (HT.out.below hbW);have HB8:=Bas.hid (HB.out.trans (hbW.mono HB.out.size));have hnl:vt.ownBlock≠some wr.heap.size:=fun e=>Nat.lt_irrefl _ (Row.own_block HT.out.r e).2
     generalize wr.alloc (.cells #[.int .i16 px,.int .i16 py] 132)=W8 at*;generalize wr.heap.size=T8 at k8 hnl ⊢;have HK8:=Bas.hid k8;have HNL:=Bas.hid hnl;clear q0 q1 hbW HT HB HBT k8 hnl;obtain ⟨RI,RF,Ri,RF0,RFk,RFw⟩:=Pl.fam_of W8 (fun u=>u.heap[T8]? =some (.cells #[.int .i16 px,.int .i16 py] 132 (0,0))) HK8.out
     have RFH:=Bas.hid RF0;have RhI:Nonempty RI:=⟨Ri⟩;have RFW:=Bas.hid RFw;have t0:=fun i=>cell_of_heap (i:=0) (v:=.int .i16 px) (RFk i) rfl
     have t1:=fun i=>cell_of_heap (i:=1) (v:=.int .i16 py) (RFk i) rfl
     clear RF0 RFw RFk;refine Pl.region_plan0 Ri [(true,0),(true,1),(true,2),(true,3),(true,4),(true,6),(true,7),(true,8),(true,9),(false,5),(false,10),(false,11)] [10,11] (by kernel_rfl) (by kernel_rfl) (fun _ _ _ _ e h=>⟨e▸h.1,h.2⟩) RFH.out ?_
     refine Pl.head_sel0 [(true,0),(true,1),(true,2),(true,3),(true,4),(true,6),(true,7),(true,8),(true,9)] (by kernel_rfl) (by kernel_rfl) ?_
     simp only [Pl.sel,List.drop_succ_cons,List.drop_zero];repeat (go_big_quiet_step (fail))
     refine wpQuiet_nil ?_;rw [←RFH.out];clear t0 t1 RFH;refine Pl.one_sel (by kernel_rfl) ?_
     intro Q' hQ' hP';simp only [Pl.sel,List.drop_succ_cons,List.drop_zero];go_wp2_with (fail);rw [Tk.u16_of_i16 px];have hOd:=TwoRows.below HT8.out (show Below W8.heap.size W8 W8.drew from (Below.refl _ _).drew)
     have hBd:Below w2.heap.size w2 W8.drew:=HB8.out.drew;have hkd:W8.drew.heap[T8]? =_:=HK8.out;refine (put_any (px%65536) 2 w2.heap.size _ _ W8.drew (by omega) (by omega) (by omega) (by omega) hBd.size hOd.r).mono ?_
     rintro e w9 ⟨v9,rfl,g9⟩;have HB9:=Bas.hid (g9.below hBd hBd.size (fun g hg=>(Row.own_block hOd.r hg).1))
     have HK9:=Bas.hid ((g9.grow.block T8 (heap_lt hkd) (fun e=>HNL.out e.symm)).trans hkd)
     have HT9:=Bas.hid (hOd.growR g9);clear g9 hOd hBd hkd HT8 HB8 HK8 HNL;go_wp2_with (fail);refine hQ' _ _ (fun _ _=>RFW.out _ HK9.out) ?_
     clear hQ' hP' Q' RFW RhI Ri;refine Pl.tail_sel [(false,10),(false,11)] (by kernel_rfl) (by kernel_rfl) ?_
     simp only [Pl.sel,List.drop_succ_cons,List.drop_zero];go_wp2_with (fail);rw [Tk.u16_of_i16 py];refine (put_any (py%65536) 2 w2.heap.size _ _ w9 (by omega) (by omega) (by omega) (by simp only [List.length_append,putB_len];omega) HB9.out.size HT9.out.r).mono ?_
     rintro e wA ⟨vA,rfl,gA⟩;have HBA:=Bas.hid (gA.below HB9.out HB9.out.size (fun g hg=>(Row.own_block HT9.out.r hg).1))
     have HTA:=Bas.hid (HT9.out.growR gA);clear gA HT9 HB9 HK9;go_wp2_with (fail);go_roundw
     case rel=>exact ⟨j+1,_,by omega,by go_num,rfl,by rw [HTK.out];exact HTA.out,HBA.out⟩
     case measure=>simp [intOf];omega
    ·have hjn2:j=m:=by omega
     have hfl:sw++putB (m:Int) 4++(s.take j).flatMap aptB=(l.take (k+1)).flatMap aptsB:=by rw [HNEW.out,HSW.out,hjn2,HM.out,List.take_length,aptsB,List.append_assoc]
     rw [hfl] at htw;have HTF:=Bas.hid htw;have HBF:=Bas.hid hb;clear htw hb hfl HT HB HBT;go_wp2_with (fail);go_roundw
     case rel=>exact ⟨k+1,_,_,by omega,by go_num,rfl,rfl,HTF.out,HBF.out⟩
     case measure=>simp [intOf];omega
  ·have hkn2:k=n:=by omega
   have hlen:=HN.out;have h:=HT.out;rw [hkn2,HN.out,List.take_length] at h;have HF:=Bas.hid h;have hpl2:(l.flatMap aptsB).length≤3720:=by
    have:=HPRE.out l.length (Nat.le_refl _);rw [List.take_length] at this;omega
   obtain ⟨a8,c8,hv8⟩:=row_slice h.l;obtain ⟨a9,c9,hv9⟩:=row_slice h.r;obtain ⟨ol,hol2⟩:∃ol,ol=(ofA l l.length).length:=⟨_,rfl⟩;obtain ⟨dl,hdl2⟩:∃dl,dl=(l.flatMap aptsB).length:=⟨_,rfl⟩;have ho66:ol≤66:=by rw [hol2,ofA_len];omega
   rw [←hol2] at hv8;rw [←hdl2] at hv9 hpl2;have HOL2:=Bas.hid hol2;have HDL2:=Bas.hid hdl2;have HRR:=Bas.hid (Row.owned_below HRH.out HB.out);subst hv8;subst hv9;have HAP:Hid (∀g,v2.ownBlock=some g→g<w2.heap.size):=fun g hg=>(Row.own_block HRH.out hg).2
   clear hb htw h HT hlen hol2 hdl2 hol HOL hpl;go_wp2_with (fail);refine (put_any (12+(ol:Int)) 4 w.heap.size _ _ wr (by omega) (by omega) (by omega) (by simp) HBT.out.size HRR.out).mono ?_
   rintro e w6 ⟨v6,rfl,g6⟩;have hkeep:∀g,w2.heap.size≤g→g<wr.heap.size→w6.heap[g]? =wr.heap[g]? :=fun g h1 h2=>g6.grow.block g h2 (fun e=>by have:=HAP.out g e.symm;omega)
   have HT6:Hid (TwoRows w6 w2.heap.size (.slice a8 ol c8) (ofA l l.length) (.slice a9 dl c9) (l.flatMap aptsB)):=
    ⟨Row.owned_keep HF.out.l fun g hg=>hkeep g (Row.own_block HF.out.l hg).1 (Row.own_block HF.out.l hg).2,Row.owned_keep HF.out.r fun g hg=>hkeep g (Row.own_block HF.out.r hg).1 (Row.own_block HF.out.r hg).2,HF.out.apart⟩
   have HB6:=Bas.hid (g6.below HBT.out HBT.out.size (fun g hg=>(Row.own_block HRR.out hg).1))
   have HO6:=Bas.hid g6.own;have HA6:Hid (∀g,v6.ownBlock=some g→g<w2.heap.size∨wr.heap.size≤g):=by
    intro g hg;rcases g6.at' with h|⟨g',h,h2⟩
    ·exact .inl (HAP.out g (h▸hg))
    ·rw [h] at hg;cases hg;exact .inr h2
   have HF9:=Bas.hid (fun g (hg:(Value.slice a9 dl c9).ownBlock=some g)=>Row.own_block HF.out.r hg)
   clear g6 hkeep HF HRR HBT HRH HAP;go_wp2_with (at_builtin;refine Row.fence ?_);refine Row.unfence ?_;refine Row.append_at rfl _ _ 47 5 rfl (.int .u8 0) 1 1 Tryz.underlying47 info8 rfl (by decide) w.heap.size v6 _ _ rfl HO6.out (.slice a8 ol c8) ol _ rfl (by rw [HOL2.out];exact Row.leads_owned (by have:=HT6.out.l;rw [HOL2.out] at this;exact this)) (by simp [HOL2.out]) (byte_one _) (by unfold maxLen;simp only [List.length_append,putB_len,List.length_cons,List.length_nil];omega) (by simp only [List.length_append,putB_len,List.length_cons,List.length_nil];omega) HB6.out.size ?_
   intro v7 w7 h71 h72 _ h73;have HB7:=Bas.hid (HB6.out.grown h72 HB6.out.size (fun g hg=>(Row.own_block HO6.out hg).1))
   have HL7:Hid (Row.Leads w7 (.slice a9 dl c9) dl ((l.flatMap aptsB).map (Value.int .u8))):=by
    have h:=HT6.out.r;rw [←HDL2.out] at h;refine Row.leads_owned (Row.owned_keep h fun g hg=>h72.block g (Row.own_block h hg).2 fun e=> ?_)
    have h1:=HF9.out g hg;rcases HA6.out g e.symm with h2|h2<;>omega
   have HO7:Hid (w7.ownsRow w.heap.size 5 1 v7 ([0,0,0,0,0,0,0,12]++putB (12+(ol:Int)) 4++ofA l l.length).length (([0,0,0,0,0,0,0,12]++putB (12+(ol:Int)) 4++ofA l l.length).map (Value.int .u8))):=by
    rw [List.map_append,List.length_append,←HOL2.out];exact h71
   clear h71 h72 h73 HB6 HO6 HT6 HA6 HF9;go_wp2_with (at_builtin;refine Row.fence ?_);refine Row.unfence ?_;refine Row.append_at rfl _ _ 47 5 rfl (.int .u8 0) 1 1 Tryz.underlying47 info8 rfl (by decide) w.heap.size v7 _ _ rfl HO7.out (.slice a9 dl c9) dl _ rfl HL7.out (by simp [HDL2.out]) (byte_one _) (by unfold maxLen;simp only [List.length_append,putB_len,List.length_cons,List.length_nil,←HOL2.out];omega) (by simp only [List.length_append,putB_len,List.length_cons,List.length_nil,←HOL2.out];omega) HB7.out.size ?_
   intro v8 w8 h81 h82 _ h83;have HB8:=Bas.hid (HB7.out.grown h82 HB7.out.size (fun g hg=>(Row.own_block HO7.out hg).1))
   have HO8:Hid (w8.ownsRow w.heap.size 5 1 v8 (ankrW l).length ((ankrW l).map (Value.int .u8))):=by
    unfold ankrW;rw [←HOL2.out,List.map_append,List.length_append,←HDL2.out];exact h81
   clear h81 h82 h83 HB7 HO7 HL7;go_wp2_with (fail);go_ret;exact ⟨_,rfl,HO8.out,HB8.out⟩
structure PlanD where
 adv:List Int
 more:Int
 has:Fo.HasD
 feat:List Ft.WPlan
 morx:List WChain
 kerx:List KSub
 ankr:List (List (Int×Int))
 trak:Tk.WPlanT
def PlanD.Ok(p:PlanD):Prop:=((∀x∈p.adv,0≤x∧x≤65535)∧0≤p.more∧p.more≤255)∧(∀c∈p.feat,Ft.rgPlan c)∧(∀c∈p.morx,(0≤c.first∧c.first≤4294967295)∧(0≤c.more∧c.more≤255)∧(∀r∈c.rules,okRule r)∧∀s∈c.subs,(0≤s.cover∧s.cover≤4294967295)∧(0≤s.flags∧s.flags≤4294967295)∧∀x∈s.data,0≤x∧x≤255)∧
 (∀s∈p.kerx,(0≤s.cover∧s.cover≤4294967295)∧∀x∈s.data,0≤x∧x≤255)∧(∀l∈p.ankr,∀q∈l,(-32768≤q.1∧q.1≤32767)∧-32768≤q.2∧q.2≤32767)∧Tk.rgPlan p.trak
def PlanD.Few(p:PlanD):Prop:=(p.adv.length≤99∧p.feat.length≤19∧p.morx.length≤4∧p.kerx.length≤5∧p.ankr.length≤20)∧(∀c∈p.feat,c.sets.length≤59)∧(∀c∈p.morx,c.rules.length≤19∧c.subs.length≤5∧∀s∈c.subs,s.data.length≤399)∧
 (∀s∈p.kerx,s.data.length≤399)∧(∀l∈p.ankr,l.length≤19)∧(p.trak.s0.length≤19∧p.trak.t0.length≤9)∧p.trak.s1.length≤19∧p.trak.t1.length≤9
def advA(A:List Int):List Int:=if A=[] then [500] else A
def PlanD.tabs(p:PlanD):Fo.TabsD:=⟨Ft.featW p.feat,writeB p.morx,kerxW p.kerx,ankrW p.ankr,Tk.writeT p.trak⟩
def PlanD.glyphs(p:PlanD):Nat:=(advA p.adv).length+(p.more%40).toNat
def PlanD.parts(p:PlanD):List Fo.PartD:=Fo.fontP p.has p.tabs (p.glyphs:Int) ((advA p.adv).length:Int) (Fo.hmtxL (advA p.adv) (p.more%40).toNat)
def Byt(l:List Int):Prop:=∀x∈l,0≤x∧x≤255
theorem Byt.app{a b:List Int}(h:Byt a)(k:Byt b):Byt (a++b):=fun x hx=>(List.mem_append.1 hx).elim (h x) (k x)
theorem Byt.flat{α:Type}{f:α→List Int}{l:List α}(h:∀a∈l,Byt (f a)):Byt (l.flatMap f):=fun x hx=>by
 obtain ⟨a,ha,hx⟩:=List.mem_flatMap.1 hx;exact h a ha x hx
theorem Byt.zero(n:Nat):Byt (List.replicate n 0):=fun x hx=>by have:=List.eq_of_mem_replicate hx;omega
theorem byt_put(n:Int)(k:Nat):Byt (putB n k):=putB_byte n k
theorem byt_rows(m:Nat):∀(l:List Tk.PTrack) (off:Nat),Byt (Tk.rowsT m off l)
 |[],_=>fun x hx=>by cases hx
 |p::l,off=>(((byt_put _ _).app (byt_put _ _)).app (byt_put _ _)).app (byt_rows m l _)
theorem byt_data(S:List Int)(l:List Tk.PTrack)(a:Nat):Byt (Tk.dataW S l a):=
 (((((byt_put _ _).app (byt_put _ _)).app (byt_put _ _)).app (byt_rows _ _ _)).app (Byt.flat fun _ _=>byt_put _ _)).app (Byt.flat fun _ _=>Byt.flat fun _ _=>byt_put _ _)
theorem byt_morx(l:List WChain)(h:∀c∈l,okChain c):Byt (writeB l):=by
 refine (((byt_put _ _).app (byt_put _ _)).app (byt_put _ _)).app (Byt.flat fun c hc=> ?_)
 refine ((((byt_put _ _).app (byt_put _ _)).app (byt_put _ _)).app (byt_put _ _)).app (((Byt.flat fun r _=> ?_).app (Byt.flat fun s hs=> ?_)).app (Byt.zero _))
 ·exact (((byt_put _ _).app (byt_put _ _)).app (byt_put _ _)).app (byt_put _ _)
 ·exact (((byt_put _ _).app (byt_put _ _)).app (byt_put _ _)).app ((h c hc).2.2.2.1 s hs).2.2.1
theorem byt_kerx(l:List KSub)(h:∀s∈l,okK s):Byt (kerxW l):=
 (((byt_put _ _).app (byt_put _ _)).app (byt_put _ _)).app (Byt.flat fun s hs=>(((byt_put _ _).app (byt_put _ _)).app (Byt.zero 4)).app (h s hs).2.1)
theorem byt_pts(l:List (List (Int×Int))):Byt (l.flatMap aptsB):=
 Byt.flat fun _ _=>(byt_put _ _).app (Byt.flat fun _ _=>(byt_put _ _).app (byt_put _ _))
theorem byt_ankr(l:List (List (Int×Int))):Byt (ankrW l):=by
 refine (((?_:Byt [0,0,0,0,0,0,0,12]).app (byt_put _ _)).app ((((byt_put _ _).app (byt_put _ _)).app (byt_put _ _)).app (Byt.flat fun _ _=>byt_put _ _))).app (byt_pts l)
 intro x hx;simp at hx;omega
theorem byt_trak(p:Tk.WPlanT):Byt (Tk.writeT p):=by
 have h0:Byt (Tk.d0 p):=by
  unfold Tk.d0;split
  ·intro x hx;cases hx
  ·exact byt_data _ _ _
 have h1:Byt (Tk.d1 p):=by
  unfold Tk.d1;split
  ·intro x hx;cases hx
  ·exact byt_data _ _ _
 exact (((((byt_put _ _).app (byt_put _ _)).app (byt_put _ _)).app (byt_put _ _)).app (Byt.zero 2)).app (h0.app h1)
theorem PlanD.okF{p:PlanD}(h:p.Ok)(f:p.Few):∀c∈p.feat,Ft.okPlan c:=fun c hc=>⟨h.2.1 c hc,by have:=f.2.1 c hc;omega⟩
theorem PlanD.okM{p:PlanD}(h:p.Ok)(f:p.Few):∀c∈p.morx,okChain c:=fun c hc=>by
 obtain ⟨h1,h2,h3,h4⟩:=h.2.2.1 c hc;obtain ⟨f1,f2,f3⟩:=f.2.2.1 c hc;exact ⟨h1,h2,h3,fun s hs=>⟨(h4 s hs).1,(h4 s hs).2.1,(h4 s hs).2.2,by have:=f3 s hs;omega⟩,by omega,by omega⟩
theorem PlanD.okK{p:PlanD}(h:p.Ok)(f:p.Few):∀s∈p.kerx,Sh.okK s:=fun s hs=>⟨(h.2.2.2.1 s hs).1,(h.2.2.2.1 s hs).2,by have:=f.2.2.2.1 s hs;omega⟩
theorem PlanD.tabsOk{p:PlanD}(h:p.Ok)(f:p.Few):p.tabs.Ok:=by
 have hF:=PlanD.okF h f;have hM:=PlanD.okM h f;have hK:=PlanD.okK h f;refine ⟨⟨Ft.featW_byte _,byt_morx _ hM,byt_kerx _ hK,byt_ankr _,byt_trak _⟩, ?_, ?_, ?_, ?_, ?_⟩
 ·have:=(Ft.featW_len_le p.feat (by have:=f.1.2.1;omega) hF).2
  show (Ft.featW p.feat).length≤_;omega
 ·have:=Row.flat_len_le chainB 4623 p.morx (fun c hc=>chainB_len_le c (hM c hc))
  have:=f.1.2.2.1;show (writeB p.morx).length≤_
  rw [writeB,List.length_append,headB_len];omega
 ·have h1:=kerx_pre p.kerx hK p.kerx.length (Nat.le_refl _);have:=f.1.2.2.2.1;rw [List.take_length] at h1;show (kerxW p.kerx).length≤_
  unfold kerxW;omega
 ·have h1:=apts_pre p.ankr (fun s hs=>by have:=f.2.2.2.2.1 s hs;omega) p.ankr.length (Nat.le_refl _)
  rw [List.take_length] at h1;have:=f.1.2.2.2.2;show (ankrW p.ankr).length≤_
  rw [ankrW,List.length_append,List.length_append,List.length_append,putB_len,ofA_len];simp only [List.length_cons,List.length_nil];omega
 ·have:=(Tk.writeT_len p.trak ⟨⟨by have:=f.2.2.2.2.2.1.1;omega,by have:=f.2.2.2.2.2.1.2;omega⟩,by have:=f.2.2.2.2.2.2.1;omega,by have:=f.2.2.2.2.2.2.2;omega⟩).2
  show (Tk.writeT p.trak).length≤_;omega
theorem advA_ok{p:PlanD}(h:p.Ok)(f:p.Few):(∀x∈advA p.adv,0≤x∧x≤65535)∧1≤(advA p.adv).length∧(advA p.adv).length≤99:=by
 unfold advA;split
 ·refine ⟨fun x hx=> ?_,by simp,by simp⟩
  simp at hx;omega
 ·rename_i hne
  exact ⟨h.1.1,by have:=List.length_pos_iff.2 hne;omega,f.1.1⟩
end Sh
end Go.Proofs.YtceihjjjmcgmaaaGreat
