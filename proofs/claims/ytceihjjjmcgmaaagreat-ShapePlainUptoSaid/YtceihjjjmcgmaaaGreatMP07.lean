/- Parts of a proof: texts ShWriteG, ShOpenG, ShTabG, ShRdFeat, ShOpn, Bridge, LkAll, AkTake, AkBack, ShRdAnkr, Ref01B, Sl, RefTabs, RefLk8, RefAnkr, RefFind. -/
import Derived.Test.YtceihjjjmcgmaaaGreatMP06
import Derived.Laws.EntriesVeiled
import Derived.RangeFuncNested
import Derived.RangeFuncCalls
import Derived.OrdersIn
import Derived.RangeFuncBound
import Derived.RangeFuncLeaves
import Derived.Shelf.Abstract
import Derived.Shelf.RegionOpen
import Derived.WalkKit
import Derived.OwnWalkIn
import Derived.TacticsInMore
import Derived.LoopNIn
import Derived.LoopIn
import Derived.Maps.OwnIn
import Derived.Laws.ResultCell
set_option maxHeartbeats 16000000
set_option maxRecDepth 100000
namespace Go.Proofs.YtceihjjjmcgmaaaGreat
open Go.RowKit
namespace Sh
open Vw Wr Ch
open Fo hiding cell_of_heap heap_lt own_slice free_of_heap heap_set leads_heap
structure PlanV where
 ad:Option Addr
 cp:Nat
 f:Option Addr×Nat×Nat
 m:Option Addr×Nat×Nat
 k:Option Addr×Nat×Nat
 a:Option Addr×Nat×Nat
 s0:Option Addr×Nat×Nat
 s1:Option Addr×Nat×Nat
 t0:Option Addr×Nat×Nat
 t1:Option Addr×Nat×Nat
abbrev slV(x:Option Addr×Nat×Nat):Value:=.slice x.1 x.2.1 x.2.2
abbrev planC(n:Nat)(more:Int)(h:HasD)(v:PlanV):Array Value:=#[.slice v.ad n v.cp,.int .u8 more,.bool h.f,.bool h.m,.bool h.k,.bool h.a,.bool h.t,slV v.f,slV v.m,slV v.k,slV v.a,slV v.s0,slV v.s1,slV v.t0,slV v.t1]
def PlanAt(w:World)(v:PlanV)(p:PlanD):Prop:=Row.Leads w (.slice v.ad p.adv.length v.cp) p.adv.length (p.adv.flatMap u16C)∧Ft.WPlans w (slV v.f) p.feat∧WChains w (slV v.m) p.morx∧KSubs w (slV v.k) p.kerx∧APts w (slV v.a) p.ankr∧Tk.PPlan w (slV v.s0) (slV v.s1) (slV v.t0) (slV v.t1) p.trak
theorem PlanAt.below{w w':World}{v:PlanV}{p:PlanD}(h:PlanAt w v p)(hb:Below w.heap.size w w'):PlanAt w' v p:=
 ⟨Row.leads_below h.1 hb,h.2.1.below hb,h.2.2.1.below hb,h.2.2.2.1.below hb,h.2.2.2.2.1.below hb,h.2.2.2.2.2.below hb⟩
def Wrt(bs:List Int)(w:World)(e:Ending)(w':World):Prop:=∃x:Option Addr×Nat×Nat,e=.returned (slV x)∧Row.Leads w' (slV x) bs.length (bs.map (Value.int .u8))∧Below w.heap.size w w'
theorem wrt_of{bs:List Int}{w w':World}{e:Ending}(h:∃v',e=.returned v'∧w'.ownsRow w.heap.size 5 1 v' bs.length (bs.map (Value.int .u8))∧Below w.heap.size w w'):Wrt bs w e w':=by
 obtain ⟨v,h1,h2,h3⟩:=h;obtain ⟨a,c,rfl⟩:=Fo.own_slice h2;exact ⟨(a,_,c),h1,Row.leads_owned h2,h3⟩
abbrev Five:=List (Bool×(PartD×Value))
def selP(l:Five):List (PartD×Value):=(l.filter (·.1)).map (·.2)
abbrev fiveL(h:HasD)(D:TabsD)(x0 x1 x2 x3 x4:Option Addr×Nat×Nat):Five:=[(h.f,⟨sFeat,D.f⟩,slV x0),(h.m,⟨sMorx,D.m⟩,slV x1),(h.k,⟨sKerx,D.k⟩,slV x2),(h.a,⟨sAnkr,D.a⟩,slV x3),(h.t,⟨sTrak,D.t⟩,slV x4)]
abbrev fiveV(x0 x1 x2 x3 x4:Option Addr×Nat×Nat):Value:=.agg #[.string ⟨#[102,101,97,116]⟩,slV x0,.string ⟨#[109,111,114,120]⟩,slV x1,.string ⟨#[107,101,114,120]⟩,slV x2,.string ⟨#[97,110,107,114]⟩,slV x3,.string ⟨#[116,114,97,107]⟩,slV x4]
theorem selP_succ(l:Five)(k:Nat)(b:Bool)(x:PartD×Value)(h:l[k]? =some (b,x)):selP (l.take (k+1))=selP (l.take k)++optL b x:=by
 unfold selP;rw [List.take_add_one,h,List.filter_append,List.map_append];cases b<;>rfl
theorem selP_le(l:Five)(k:Nat):(selP (l.take k)).length≤l.length:=by
 unfold selP;rw [List.length_map];exact Nat.le_trans (List.length_filter_le _ _) (List.length_take_le' _ _)
theorem selP_five(h:HasD)(D:TabsD)(x0 x1 x2 x3 x4:Option Addr×Nat×Nat):(selP (fiveL h D x0 x1 x2 x3 x4)).map (·.1)=opts h D:=by
 obtain ⟨f,m,k,a,t⟩:=h;cases f<;>cases m<;>cases k<;>cases a<;>cases t<;>rfl
theorem selP_mem{l:Five}{x:PartD×Value}(h:x∈selP l):∃b,(b,x)∈l:=by
 obtain ⟨⟨b,y⟩,hy,rfl⟩:=List.mem_map.1 h;exact ⟨b,(List.mem_filter.1 hy).1⟩
theorem five_at(n:Nat)(more:Int)(h:HasD)(v:PlanV)(D:TabsD)(x0 x1 x2 x3 x4:Option Addr×Nat×Nat)(j:Nat)(hj:j<5):
  ∃b p x,(fiveL h D x0 x1 x2 x3 x4)[j]? =some (b,p,slV x)∧(∀w,(Instr.index 106 (fiveV x0 x1 x2 x3 x4) (.int .i64 (j:Int))).run Tryz.prog w=.ok (.agg #[.string p.tag,slV x]) w)∧(planC n more h v)[2+j]? =some (.bool b):=by
 have hu:=run_underlying (P:=Tryz.prog) Tryz.underlying106;rcases (by omega:j=0∨j=1∨j=2∨j=3∨j=4) with rfl|rfl|rfl|rfl|rfl
 ·exact ⟨_,_,x0,rfl,fun w=>by simp [Instr.index,hu,part,asIntOf,go_sem,sFeat],rfl⟩
 ·exact ⟨_,_,x1,rfl,fun w=>by simp [Instr.index,hu,part,asIntOf,go_sem,sMorx],rfl⟩
 ·exact ⟨_,_,x2,rfl,fun w=>by simp [Instr.index,hu,part,asIntOf,go_sem,sKerx],rfl⟩
 ·exact ⟨_,_,x3,rfl,fun w=>by simp [Instr.index,hu,part,asIntOf,go_sem,sAnkr],rfl⟩
 ·exact ⟨_,_,x4,rfl,fun w=>by simp [Instr.index,hu,part,asIntOf,go_sem,sTrak],rfl⟩
theorem pC_one2(p:PartD)(x:Option Addr×Nat×Nat):∀u∈pC (p,slV x),u.oneCell'=true:=fun u hu=>by
 simp only [pC,List.mem_cons,List.not_mem_nil,or_false] at hu;rcases hu with rfl|rfl<;>rfl
def PlanW(p:PlanD)(w:World)(e:Ending)(w':World):Prop:=∃g' cap bs,e=.returned (.slice (some ⟨g',0,none⟩) bs.length cap)∧bs.length≤cap∧cap≤maxLen∧VB w' (some ⟨g',0,none⟩) bs∧IsFont bs p.parts∧
 w'.ownsRow w.heap.size 5 1 (.slice (some ⟨g',0,none⟩) bs.length cap) bs.length (bs.map (Value.int .u8))∧Below w.heap.size w w'
theorem write_gen(v:PlanV)(p:PlanD)(w:World)(hok:p.Ok)(hfew:p.Few)(hin:PlanAt w v p):
  Calls Tryz.prog 10 #[.agg (planC p.adv.length p.more p.has v)] w (PlanW p w):=by
 have HFIN:Hid (∀(va vo:Value) (wr:World),Row.Leads wr va (advA p.adv).length ((advA p.adv).flatMap u16C)→PParts wr vo (opts p.has p.tabs)→Calls Tryz.prog 19 #[va,.int .i64 (p.more%40),vo] wr fun e w'=>∃g' cap bs,e=.returned (.slice (some ⟨g',0,none⟩) bs.length cap)∧bs.length≤cap∧cap≤maxLen∧VB w' (some ⟨g',0,none⟩) bs∧IsFont bs p.parts∧w'.ownsRow wr.heap.size 5 1 (.slice (some ⟨g',0,none⟩) bs.length cap) bs.length (bs.map (Value.int .u8))∧Below wr.heap.size wr w'):=by
  intro va vo wr h1 h2;obtain ⟨a1,a2,a3⟩:=advA_ok hok hfew;have hD:=PlanD.tabsOk hok hfew;have hm:=Int.emod_nonneg p.more (by omega:(40:Int)≠0)
  have hm2:=Int.emod_lt_of_pos p.more (by omega:(0:Int)<40)
  have hn:=idxO_len p.has p.tabs;have h:=font_gen va vo (advA p.adv) (p.more%40).toNat (opts p.has p.tabs) p.parts (idxO p.has) wr h1 a1 (by omega) (by omega) h2 (by omega) (fun q hq=>(opts_byte p.has p.tabs hD q hq).1) hn.1 (ord_any _ _ _ _ _) (fontP_idx _ _ _ _ _) (fontP_at _ _ _ _ _ hD (by rw [hmtxL_len];omega)) (ris_any _ _ _ _ _)
  rw [Int.toNat_of_nonneg hm] at h;exact h
 have HADV:Hid (p.adv≠[]→advA p.adv=p.adv):=fun h=>if_neg h
 have HADV0:Hid (p.adv=[]→advA p.adv=[500]):=fun h=>if_pos h
 have hIN:=Bas.hid hin;obtain ⟨D,hD⟩:∃D,p.tabs=D:=⟨_,rfl⟩;have HD:=Bas.hid hD;have HW0:=Bas.hid (fun u (h:Below w.heap.size w u)=>(Ft.fwrite_any (slV v.f) p.feat u (by have:=hfew.1.2.1;omega) (PlanD.okF hok hfew) (hin.below h).2.1).mono fun _ _ k=>wrt_of k)
 have HW1:=Bas.hid (fun u (h:Below w.heap.size w u)=>(write_any (slV v.m) p.morx u (by have:=hfew.1.2.2.1;omega) (PlanD.okM hok hfew) (hin.below h).2.2.1).mono fun _ _ k=>wrt_of k)
 have HW2:=Bas.hid (fun u (h:Below w.heap.size w u)=>(w26_any (slV v.k) p.kerx u (by have:=hfew.1.2.2.2.1;omega) (PlanD.okK hok hfew) (hin.below h).2.2.2.1).mono fun _ _ k=>wrt_of k)
 have HW3:=Bas.hid (fun u (h:Below w.heap.size w u)=>(w24_any (slV v.a) p.ankr u (by have:=hfew.1.2.2.2.2;omega) (fun s hs=>by have:=hfew.2.2.2.2.1 s hs;omega) (hin.below h).2.2.2.2.1).mono fun _ _ k=>wrt_of k)
 have HW4:=Bas.hid (fun u (h:Below w.heap.size w u)=>(Tk.twrite_any (slV v.s0) (slV v.s1) (slV v.t0) (slV v.t1) p.trak u ⟨⟨by have:=hfew.2.2.2.2.2.1.1;omega,by have:=hfew.2.2.2.2.2.1.2;omega⟩,by have:=hfew.2.2.2.2.2.2.1;omega,by have:=hfew.2.2.2.2.2.2.2;omega⟩ hok.2.2.2.2.2 (hin.below h).2.2.2.2.2).mono fun _ _ k=>wrt_of k)
 have hn99:=hfew.1.1;have hmo1:=hok.1.2.1;have hmo2:=hok.1.2.2;have HLD:=Bas.hid (fun u (h:Below w.heap.size w u)=>(hin.below h).1)
 obtain ⟨n,hn⟩:∃n,p.adv.length=n:=⟨_,rfl⟩;have HN:=Bas.hid hn;rw [hn] at hn99 HLD ⊢;obtain ⟨more,hmore⟩:∃m,p.more=m:=⟨_,rfl⟩;obtain ⟨h,hh⟩:∃h,p.has=h:=⟨_,rfl⟩;rw [hmore] at hmo1 hmo2 HFIN ⊢;rw [hh,hD] at HFIN;rw [hh];clear hok hfew hin hn hmore hh hIN hD;obtain ⟨ad,cp,⟨f0,f1,f2⟩,⟨m0,m1,m2⟩,⟨k0,k1,k2⟩,⟨a0,a1,a2⟩,⟨s00,s01,s02⟩,⟨s10,s11,s12⟩,⟨t00,t01,t02⟩,⟨t10,t11,t12⟩⟩:=v;obtain ⟨hf,hm,hk,ha,ht⟩:=h;simp only at HW0 HW1 HW2 HW3 HW4 HLD;simp only [planC,slV];obtain ⟨PO,hPO⟩:∃PO:Obj,PO=.cells (planC n more ⟨hf,hm,hk,ha,ht⟩ ⟨ad,cp,(f0,f1,f2),(m0,m1,m2),(k0,k1,k2),(a0,a1,a2),(s00,s01,s02),(s10,s11,s12),(t00,t01,t02),(t10,t11,t12)⟩) 44:=⟨_,rfl⟩;have HPO:=Bas.hid hPO;simp only [planC,slV] at hPO;have hb1:=(Below.refl w.heap.size w).alloc (Nat.le_refl _) PO;have HB1:=Bas.hid hb1;have HK1:=Bas.hid (Bas.heap_new w PO);rw [hPO] at HK1;have c0:=cell_of_heap (i:=0) (v:=.slice ad n cp) HK1.out rfl;have lT:=heap_lt HK1.out;rw [←hPO] at HK1;clear hb1;have HS1:Hid ((w.alloc PO).heap.size=w.heap.size+1):=by unfold Hid;simp
 have HX:Hid (n=0→p.adv=[]):=fun h=>List.length_eq_zero_iff.1 (HN.out.trans h)
 have HX2:Hid (n≠0→p.adv≠[]):=fun h e=>h (by rw [←HN.out,e];rfl)
 by_cases hn0:n=0
 case' pos=>
  have HN0:=Bas.hid hn0;have e0:((n:Int)==0)=true:=by simp;omega
  have e0':decide ((n:Int)=0)=true:=by simp;omega
  clear hn0;go_enter Tryz.func10,Tryz.ntmps10
  go_wp2_with (fail);rw [←hPO] at c0 lT ⊢;clear hPO;generalize w.alloc PO=w1 at*;obtain ⟨T,hT⟩:∃T,w.heap.size=T:=⟨_,rfl⟩;have HT:=Bas.hid hT;rw [hT] at HK1 HS1 c0 lT ⊢;clear hT;have hb2:=(Below.refl w1.heap.size w1).alloc (Nat.le_refl _) (.cells #[.int .u16 500] 84);have HB2:=Bas.hid (HB1.out.trans (hb2.mono HB1.out.size));have HK2:=Bas.hid ((hb2.block _ (heap_lt HK1.out)).trans HK1.out);have HL2:Hid (∀u,Below (T+1+1) (w1.alloc (.cells #[.int .u16 500] 84)) u→Row.Leads u (.slice (some ⟨T+1,0,none⟩) 1 1) (advA p.adv).length ((advA p.adv).flatMap u16C)):=by
   intro u hu;rw [HADV0.out (HX.out HN0.out)];have hs1:=HS1.out;rw [←hs1] at hu ⊢;exact leads_heap ((hu.block _ (by simp)).trans (Bas.heap_new w1 (.cells #[.int .u16 500] 84)))
  have HSZ:Hid ((w1.alloc (.cells #[.int .u16 500] 84)).heap.size=T+1+1):=by unfold Hid;rw [←HS1.out];simp
  rw [←HSZ.out] at HL2;have HSW:Hid (w.heap.size≤(w1.alloc (.cells #[.int .u16 500] 84)).heap.size):=HB2.out.size;clear hb2 HB1 HK1 HSZ HS1 HN0 e0 e0' c0 lT;generalize w1.alloc (.cells #[.int .u16 500] 84)=w2 at*;generalize Value.slice (some ⟨T+1,0,none⟩) 1 1=VA at*
 case' neg=>
  have e0:((n:Int)==0)=false:=by simp;omega
  have e0':decide ((n:Int)=0)=false:=by simp;omega
  go_enter Tryz.func10,Tryz.ntmps10
  go_wp2_with (fail);rw [←hPO] at c0 lT ⊢;clear hPO;generalize w.alloc PO=w1 at*;obtain ⟨T,hT⟩:∃T,w.heap.size=T:=⟨_,rfl⟩;have HT:=Bas.hid hT;rw [hT] at HK1 HS1 c0 lT ⊢;clear hT;have HL2:Hid (∀u,Below w1.heap.size w1 u→Row.Leads u (.slice ad n cp) (advA p.adv).length ((advA p.adv).flatMap u16C)):=by
   intro u hu;rw [HADV.out (HX2.out hn0),HN.out];exact HLD.out u (HB1.out.trans (hu.mono HB1.out.size))
  have HB2:=HB1;have HK2:=HK1;have HSW:Hid (w.heap.size≤w1.heap.size):=HB1.out.size;clear HB1 HK1 HS1 e0 e0' c0 lT;generalize w1=w2 at*;obtain ⟨VA,hVA⟩:∃VA,VA=Value.slice ad n cp:=⟨_,rfl⟩;rw [←hVA] at HL2 ⊢;clear hVA hn0
 all_goals (
  have HCELLS:Hid (∀(u:World) (i:Nat) (x:Value),u.heap[T]? =some (PO)→(planC n more ⟨hf,hm,hk,ha,ht⟩ ⟨ad,cp,(f0,f1,f2),(m0,m1,m2),(k0,k1,k2),(a0,a1,a2),(s00,s01,s02),(s10,s11,s12),(t00,t01,t02),(t10,t11,t12)⟩)[i]? =some x→u.cell? ⟨T,i,none⟩=some x):=by
   intro u i x hu hx;rw [HPO.out] at hu;exact cell_of_heap hu hx
  clear HX HX2 HADV HADV0 HLD HPO;obtain ⟨RI,RF,Ri,RF0,RFk,RFw⟩:=Pl.fam_of w2 (fun u=>u.heap[T]? =some PO) HK2.out
  have RFH:=Bas.hid RF0;have RhI:Nonempty RI:=⟨Ri⟩;have RFW:=Bas.hid RFw;have t7:=fun i=>HCELLS.out _ 7 _ (RFk i) rfl
  have t8:=fun i=>HCELLS.out _ 8 _ (RFk i) rfl
  have t9:=fun i=>HCELLS.out _ 9 _ (RFk i) rfl
  have t10:=fun i=>HCELLS.out _ 10 _ (RFk i) rfl
  have t11:=fun i=>HCELLS.out _ 11 _ (RFk i) rfl
  have t12:=fun i=>HCELLS.out _ 12 _ (RFk i) rfl
  have t13:=fun i=>HCELLS.out _ 13 _ (RFk i) rfl
  have t14:=fun i=>HCELLS.out _ 14 _ (RFk i) rfl
  clear RF0 RFw RFk;refine Pl.region_plan0 Ri [(true,0),(true,1),(true,4),(true,5),(true,8),(true,9),(true,12),(true,13),(true,16),(true,17),(true,21),(false,2),(true,3),(false,6),(true,7),(false,10),(true,11),(false,14),(true,15),(false,18),(true,19),(true,20)] [] (by kernel_rfl) (by kernel_rfl) (fun _ _ _ _ e h=>⟨e▸h.1,h.2⟩) RFH.out ?_
  refine Pl.head_sel0 [(true,0),(true,1),(true,4),(true,5),(true,8),(true,9),(true,12),(true,13),(true,16),(true,17),(true,21)] (by kernel_rfl) (by kernel_rfl) ?_
  simp only [Pl.sel,List.drop_succ_cons,List.drop_zero];repeat (go_big_quiet_step (fail))
  refine wpQuiet_nil ?_;rw [←RFH.out];clear t7 t8 t9 t10 t11 t12 t13 t14;have HB0:=Bas.hid (HB2.out.drew);have HK0:Hid (w2.drew.heap[T]? =some PO):=HK2.out;have HBL0:Hid (Below w2.heap.size w2 w2.drew):=(Below.refl _ _).drew;clear HB2 HK2;generalize w2.drew=y0 at*;refine Pl.one_sel (by kernel_rfl) ?_
  intro Q' hQ' hP';simp only [Pl.sel,List.drop_succ_cons,List.drop_zero];go_wp2_with (fail);refine (HW0.out y0 HB0.out).mono ?_;rintro e y1 ⟨⟨qa0,qn0,qc0⟩,rfl,hL,hb⟩;have HB1:=Bas.hid (HB0.out.trans (hb.mono HB0.out.size));have HBL1:=Bas.hid (HBL0.out.trans (hb.mono HBL0.out.size));have HK1:=Bas.hid ((hb.block _ (heap_lt HK0.out)).trans HK0.out);have HR0_1:=Bas.hid hL;clear hb hL HB0 HK0 HBL0 HW0;go_wp2_with (fail);refine hQ' _ _ (fun _ _=>RFW.out _ HK1.out) ?_
  clear hQ' hP' Q';refine Pl.head_sel0 [(true,3)] (by kernel_rfl) (by kernel_rfl) ?_
  simp only [Pl.sel,List.drop_succ_cons,List.drop_zero];repeat (go_big_quiet_step (fail))
  refine wpQuiet_nil ?_;refine Pl.one_sel (by kernel_rfl) ?_
  intro Q' hQ' hP';simp only [Pl.sel,List.drop_succ_cons,List.drop_zero];go_wp2_with (fail);refine (HW1.out y1 HB1.out).mono ?_;rintro e y2 ⟨⟨qa1,qn1,qc1⟩,rfl,hL,hb⟩;have HB2:=Bas.hid (HB1.out.trans (hb.mono HB1.out.size));have HBL2:=Bas.hid (HBL1.out.trans (hb.mono HBL1.out.size));have HK2:=Bas.hid ((hb.block _ (heap_lt HK1.out)).trans HK1.out);have HR1_2:=Bas.hid hL;have HR0_2:=Bas.hid (Row.leads_below HR0_1.out hb);clear hb hL HB1 HK1 HBL1 HW1 HR0_1;go_wp2_with (fail);refine hQ' _ _ (fun _ _=>RFW.out _ HK2.out) ?_
  clear hQ' hP' Q';refine Pl.head_sel0 [(true,7)] (by kernel_rfl) (by kernel_rfl) ?_
  simp only [Pl.sel,List.drop_succ_cons,List.drop_zero];repeat (go_big_quiet_step (fail))
  refine wpQuiet_nil ?_;refine Pl.one_sel (by kernel_rfl) ?_
  intro Q' hQ' hP';simp only [Pl.sel,List.drop_succ_cons,List.drop_zero];go_wp2_with (fail);refine (HW2.out y2 HB2.out).mono ?_;rintro e y3 ⟨⟨qa2,qn2,qc2⟩,rfl,hL,hb⟩;have HB3:=Bas.hid (HB2.out.trans (hb.mono HB2.out.size));have HBL3:=Bas.hid (HBL2.out.trans (hb.mono HBL2.out.size));have HK3:=Bas.hid ((hb.block _ (heap_lt HK2.out)).trans HK2.out);have HR2_3:=Bas.hid hL;have HR0_3:=Bas.hid (Row.leads_below HR0_2.out hb);have HR1_3:=Bas.hid (Row.leads_below HR1_2.out hb);clear hb hL HB2 HK2 HBL2 HW2 HR0_2 HR1_2;go_wp2_with (fail);refine hQ' _ _ (fun _ _=>RFW.out _ HK3.out) ?_
  clear hQ' hP' Q';refine Pl.head_sel0 [(true,11)] (by kernel_rfl) (by kernel_rfl) ?_
  simp only [Pl.sel,List.drop_succ_cons,List.drop_zero];repeat (go_big_quiet_step (fail))
  refine wpQuiet_nil ?_;refine Pl.one_sel (by kernel_rfl) ?_
  intro Q' hQ' hP';simp only [Pl.sel,List.drop_succ_cons,List.drop_zero];go_wp2_with (fail);refine (HW3.out y3 HB3.out).mono ?_;rintro e y4 ⟨⟨qa3,qn3,qc3⟩,rfl,hL,hb⟩;have HB4:=Bas.hid (HB3.out.trans (hb.mono HB3.out.size));have HBL4:=Bas.hid (HBL3.out.trans (hb.mono HBL3.out.size));have HK4:=Bas.hid ((hb.block _ (heap_lt HK3.out)).trans HK3.out);have HR3_4:=Bas.hid hL;have HR0_4:=Bas.hid (Row.leads_below HR0_3.out hb);have HR1_4:=Bas.hid (Row.leads_below HR1_3.out hb);have HR2_4:=Bas.hid (Row.leads_below HR2_3.out hb);clear hb hL HB3 HK3 HBL3 HW3 HR0_3 HR1_3 HR2_3;go_wp2_with (fail);refine hQ' _ _ (fun _ _=>RFW.out _ HK4.out) ?_
  clear hQ' hP' Q';refine Pl.head_sel0 [(true,15)] (by kernel_rfl) (by kernel_rfl) ?_
  simp only [Pl.sel,List.drop_succ_cons,List.drop_zero];repeat (go_big_quiet_step (fail))
  refine wpQuiet_nil ?_;refine Pl.one_sel (by kernel_rfl) ?_
  intro Q' hQ' hP';simp only [Pl.sel,List.drop_succ_cons,List.drop_zero];go_wp2_with (fail);refine (HW4.out y4 HB4.out).mono ?_;rintro e y5 ⟨⟨qa4,qn4,qc4⟩,rfl,hL,hb⟩;have HB5:=Bas.hid (HB4.out.trans (hb.mono HB4.out.size));have HBL5:=Bas.hid (HBL4.out.trans (hb.mono HBL4.out.size));have HK5:=Bas.hid ((hb.block _ (heap_lt HK4.out)).trans HK4.out);have HR4_5:=Bas.hid hL;have HR0_5:=Bas.hid (Row.leads_below HR0_4.out hb);have HR1_5:=Bas.hid (Row.leads_below HR1_4.out hb);have HR2_5:=Bas.hid (Row.leads_below HR2_4.out hb);have HR3_5:=Bas.hid (Row.leads_below HR3_4.out hb);clear hb hL HB4 HK4 HBL4 HW4 HR0_4 HR1_4 HR2_4 HR3_4;go_wp2_with (fail);refine hQ' _ _ (fun _ _=>RFW.out _ HK5.out) ?_
  clear hQ' hP' Q';refine Pl.head_sel0 (rest:=[]) [(true,19),(true,20)] (by kernel_rfl) (by kernel_rfl) ?_
  simp only [Pl.sel,List.drop_succ_cons,List.drop_zero];repeat (go_big_quiet_step (fail))
  refine wpQuiet_nil ?_;simp only [Pl.walkM];clear RFW RFH RhI Ri;have HFA:=Bas.hid (fun (j:Nat) (hj:j<5)=>five_at n more ⟨hf,hm,hk,ha,ht⟩ ⟨ad,cp,(f0,f1,f2),(m0,m1,m2),(k0,k1,k2),(a0,a1,a2),(s00,s01,s02),(s10,s11,s12),(t00,t01,t02),(t10,t11,t12)⟩ D (qa0,qn0,qc0) (qa1,qn1,qc1) (qa2,qn2,qc2) (qa3,qn3,qc3) (qa4,qn4,qc4) j hj)
  have HSF:=Bas.hid (selP_five ⟨hf,hm,hk,ha,ht⟩ D (qa0,qn0,qc0) (qa1,qn1,qc1) (qa2,qn2,qc2) (qa3,qn3,qc3) (qa4,qn4,qc4));have HAL:Hid (∀b q r,(b,q,r)∈fiveL ⟨hf,hm,hk,ha,ht⟩ D (qa0,qn0,qc0) (qa1,qn1,qc1) (qa2,qn2,qc2) (qa3,qn3,qc3) (qa4,qn4,qc4)→Row.Leads y5 r q.data.length (q.data.flatMap u8C)):=by
   intro b q r hm;have hd:=HD.out;subst hd;simp only [fiveL,List.mem_cons,List.not_mem_nil,or_false,Prod.mk.injEq] at hm;rcases hm with ⟨_,rfl,rfl⟩|⟨_,rfl,rfl⟩|⟨_,rfl,rfl⟩|⟨_,rfl,rfl⟩|⟨_,rfl,rfl⟩
   ·rw [u8_flat];exact HR0_5.out
   ·rw [u8_flat];exact HR1_5.out
   ·rw [u8_flat];exact HR2_5.out
   ·rw [u8_flat];exact HR3_5.out
   ·rw [u8_flat];exact HR4_5.out
  clear HR0_5 HR1_5 HR2_5 HR3_5 HR4_5 HD;go_wp2_with (fail);simp only [slV];obtain ⟨P5,hP5⟩:∃P5:Value,P5=.agg #[.string ⟨#[102,101,97,116]⟩,.slice qa0 qn0 qc0,.string ⟨#[109,111,114,120]⟩,.slice qa1 qn1 qc1,.string ⟨#[107,101,114,120]⟩,.slice qa2 qn2 qc2,.string ⟨#[97,110,107,114]⟩,.slice qa3 qn3 qc3,.string ⟨#[116,114,97,107]⟩,.slice qa4 qn4 qc4]:=⟨_,rfl⟩;obtain ⟨L5,hL5⟩:∃L5:Five,L5=fiveL ⟨hf,hm,hk,ha,ht⟩ D (qa0,qn0,qc0) (qa1,qn1,qc1) (qa2,qn2,qc2) (qa3,qn3,qc3) (qa4,qn4,qc4):=⟨_,rfl⟩;have HLN:Hid (L5.length=5):=by unfold Hid;rw [hL5];rfl
  simp only [fiveV,slV] at HFA;simp only [fiveL,slV] at hL5 HFA HAL HSF;rw [←hL5] at HFA HAL HSF;rw [←hP5] at HFA ⊢;clear hP5 hL5;have HO5:Hid (y5.ownsRow y5.heap.size 101 2 (.slice none 0 0) (selP (L5.take 0)).length ((selP (L5.take 0)).flatMap pC)):=Row.owned_nil _ _ _ _;go_loopw [4,5,6,34] (fun vc _ _ vi wr=>∃(i:Nat) (vv:Value),i≤5∧vi=.int .i64 i∧vv=vc∧wr.ownsRow y5.heap.size 101 2 vv (selP (L5.take i)).length ((selP (L5.take i)).flatMap pC)∧Below y5.heap.size y5 wr) (fun _ _ _ vi _=>5 - (intOf vi).toNat)
  case atStart=>exact ⟨0,_,by omega,rfl,rfl,HO5.out,Below.refl _ _⟩
  case round=>
   obtain ⟨i,vv,hi,rfl,hvv,ho,hb⟩:=hrel;rw [←hvv];clear hvv HO5;have HOR:=Bas.hid ho;have HBR:=Bas.hid hb;have HKR:=Bas.hid ((hb.block _ (heap_lt HK5.out)).trans HK5.out);have hsl:=selP_le L5 i;rw [HLN.out] at hsl;clear ho hb;by_cases hin:i<5
   ·have e1:decide ((i:Int)<5)=true:=by simp;omega
    have e2:decide (i<5)=true:=by simp;omega
    obtain ⟨b,q,⟨ya,yn,yc⟩,hg,hix0,hcF⟩:=HFA.out i hin;have hix:=hix0 wr;simp only at hix;have HG:=Bas.hid hg;have HSS:=Bas.hid (selP_succ L5 i b _ hg);obtain ⟨qt,qd⟩:=q;simp only at hix;have hb6:=(Below.refl wr.heap.size wr).alloc (Nat.le_refl _) (.cells #[.string qt,.slice ya yn yc] 101);have HB6:=Bas.hid (HBR.out.trans (hb6.mono HBR.out.size));have HK6:=Bas.hid ((hb6.block _ (heap_lt HKR.out)).trans HKR.out);have HO6:=Bas.hid (Row.owned_below HOR.out hb6);have HN6:=Bas.hid (Bas.heap_new wr (.cells #[.string qt,.slice ya yn yc] 101));have cF:=HCELLS.out _ (2+i) _ HK6.out hcF;have lT6:=heap_lt HK6.out;obtain ⟨av,cv,rfl⟩:=Fo.own_slice HO6.out;clear hb6 hix0 hg hcF;cases b with
    |false=>
     go_wp2_with (fail);go_roundw
     case rel=>exact ⟨i+1,_,by omega,by go_num,rfl,by rw [HSS.out];simpa [optL] using HO6.out,HB6.out⟩
     case measure=>simp [intOf];omega
    |true=>
     have cP0:=cell_of_heap (i:=0) (v:=.string qt) HN6.out rfl;have cP1:=cell_of_heap (i:=1) (v:=.slice ya yn yc) HN6.out rfl;have hb7:=(Below.refl (wr.alloc (.cells #[.string qt,.slice ya yn yc] 101)).heap.size (wr.alloc (.cells #[.string qt,.slice ya yn yc] 101))).alloc (Nat.le_refl _) (.cells #[.string qt,.slice ya yn yc] 101);have HB7:=Bas.hid (HB6.out.trans (hb7.mono HB6.out.size));have HO7:=Bas.hid (Row.owned_below HO6.out hb7);have HL7:=Bas.hid (leads_heap (n:=1) (c:=1) (cs:=[.string qt,.slice ya yn yc]) (Bas.heap_new2 wr (.cells #[.string qt,.slice ya yn yc] 101) (.cells #[.string qt,.slice ya yn yc] 101)));clear hb7 HB6 HO6 HOR HBR;go_wp2_with (at_builtin;refine Row.fence ?_);refine Row.unfence ?_;generalize (wr.alloc (.cells #[.string qt,.slice ya yn yc] 101)).alloc (.cells #[.string qt,.slice ya yn yc] 101)=w7 at*;refine Row.append_any rfl _ _ 98 101 rfl (.agg #[.string ⟨#[]⟩,.slice none 0 0]) 2 40 Tryz.underlying98 infoP rfl (by decide) y5.heap.size _ _ _ rfl HO7.out _ 1 _ rfl HL7.out rfl (pC_one2 ⟨qt,[]⟩ (ya,yn,yc)) (by unfold maxLen;omega) (by omega) HB7.out.size ?_
     intro v8 w8 ho8 hg8 _;have HB8:=Bas.hid (HB7.out.grown hg8 HB7.out.size (fun g hg=>(Row.own_block HO7.out hg).1))
     have HO8:Hid (w8.ownsRow y5.heap.size 101 2 v8 (selP (L5.take (i+1))).length ((selP (L5.take (i+1))).flatMap pC)):=by
      rw [HSS.out,List.length_append,List.flatMap_append];exact ho8
     clear ho8 hg8 HO7 HL7 HB7;go_wp2_with (fail);go_roundw
     case rel=>exact ⟨i+1,_,by omega,by go_num,rfl,HO8.out,HB8.out⟩
     case measure=>simp [intOf];omega
   ·obtain rfl:i=5:=by omega
    have e1:decide (((5:Nat):Int)<5)=false:=by decide
    have c1:=HCELLS.out _ 1 _ HKR.out rfl;have lT6:=heap_lt HKR.out;have HPP:Hid (PParts wr vv (opts ⟨hf,hm,hk,ha,ht⟩ D)):=by
     have hz:L5.take 5=L5:=List.take_of_length_le (by rw [HLN.out];omega)
     have ho:=HOR.out;rw [hz] at ho;have hsf:=HSF.out;rw [←hsf];refine ⟨(selP L5).map (·.2),by simp, ?_,fun j c r hc hr=> ?_⟩
     ·have hzz:((selP L5).map (·.1)).zip ((selP L5).map (·.2))=selP L5:=by rw [List.zip_map'];simp
      rw [hzz,List.length_map];exact Row.leads_owned ho
     ·rw [List.getElem?_map] at hc hr;obtain ⟨x,hx,rfl⟩:=Option.map_eq_some_iff.1 hc;rw [hx] at hr;cases hr;obtain ⟨b,hb⟩:=selP_mem (List.mem_of_getElem? hx);exact Row.leads_below (HAL.out b x.1 x.2 hb) HBR.out
    obtain ⟨av,cv,hvv⟩:=Fo.own_slice HOR.out;have hft:=HFIN.out VA vv wr (HL2.out wr (HBL5.out.trans (HBR.out.mono HBL5.out.size))) HPP.out;have HBE:=Bas.hid (HB5.out.trans (HBR.out.mono HB5.out.size));have HFT:=Bas.hid hft;subst hvv;clear hft HOR HPP HFA HSF HAL HFIN;go_wp2_with (fail);refine HFT.out.mono ?_;rintro e w9 ⟨g',cap,bs,rfl,q1,q2,q3,q4,q5,q6⟩;have HE:=Bas.hid (show PlanW p w (.returned (.slice (some ⟨g',0,none⟩) bs.length cap)) w9 from ⟨g',cap,bs,rfl,q1,q2,q3,q4,Row.owned_base q5 HBE.out.size,HBE.out.trans (q6.mono HBE.out.size)⟩)
    clear q1 q2 q3 q4 q5 q6 HFT;go_wp2_with (fail);go_ret;exact HE.out)
end Sh
namespace Sh
open Fo Vw Wr
def TabP{β:Type}(mk:β→Value)(base:Nat)(good:Bool)(Ok:β→World→Prop)(u:World)(e:Ending)(u':World):Prop:=
 Below u.heap.size u u'∧(good=true→∃x,e=.returned (mk x)∧Lk.Lives base (Ok x) u')∧(good=false→e=.panicked short)
theorem lives_and{a:Nat}{P Q:World→Prop}{w:World}(h:Lk.Lives a P w)(k:Lk.Lives a Q w):Lk.Lives a (fun u=>P u∧Q u) w:=fun u hu=>⟨h u hu,k u hu⟩
theorem lives_set{a gf i:Nat}{P:World→Prop}{w:World}{v:Value}(h:Lk.Lives a P w)(hg:gf<a):Lk.Lives a P (w.setCell ⟨gf,i,none⟩ v):=fun u hu=>
 h u fun k h1 h2=>(hu k h1 (by simpa using h2)).trans (Below.heap_setCell _ _ _ _ (fun e=>by have:k=gf:=e;omega))
def OpenG(w:World)(gf gw:Nat)(good:Bool)(O0:Option Addr×Nat×Nat→World→Prop)(O1 O2 O3 O4:Option Addr→World→Prop)(e:Ending)(w':World):Prop:=
 Mod (fun k=>k=gf) w w'∧(good=true→e=.returned (.tuple #[])∧∃x0 x1 x2 x3 x4,w'.heap[gf]? =some (.cells #[.pointer (some ⟨gw,0,none⟩),slV x0,Value.pointer x1,Value.pointer x2,Value.pointer x3,Value.pointer x4] 204 (0,0))∧Lk.Lives w.heap.size (fun u=>((((True∧O0 x0 u)∧O1 x1 u)∧O2 x2 u)∧O3 x3 u)∧O4 x4 u) w')∧(good=false→e=.panicked short)
theorem open1_gen(bB bF bG gf gw:Nat)(a:Option Addr)(len cap:Nat)(w:World)(b0 b1 b2 b3 b4:Bool)(O0:Option Addr×Nat×Nat→World→Prop)(O1 O2 O3 O4:Option Addr→World→Prop)(h1:w.heap[bB]? =some (.cells #[.slice a len cap] 47 (0,0)))(h2:w.heap[bF]? =some (.cells #[.pointer (some ⟨gf,0,none⟩)] 124 (0,0)))(h3:w.heap[gf]? =some (.cells #[.pointer (some ⟨gw,0,none⟩),.slice none 0 0,.pointer none,.pointer none,.pointer none,.pointer none] 204 (0,0)))
  (hT0:∀u,(∀k,k<w.heap.size→k≠gf→u.heap[k]? =w.heap[k]?)→w.heap.size≤u.heap.size→Calls Tryz.prog 53 #[.slice a len cap,.string ⟨#[102,101,97,116]⟩,.slice none 0 0,.func (.func 54) #[] #[]] u (TabP slV w.heap.size b0 O0 u))
  (hT1:∀u g0,(∀k,k<w.heap.size→k≠gf→u.heap[k]? =w.heap[k]?)→w.heap.size≤g0→u.heap[g0]? =some (.cells #[.slice none 0 0] 214 (0,0))→Calls Tryz.prog 57 #[.slice a len cap,.string ⟨#[109,111,114,120]⟩,.pointer (some ⟨g0,0,none⟩),.func (.func 58) #[] #[.pointer (some ⟨bG,0,none⟩)]] u (TabP Value.pointer w.heap.size b1 O1 u))
  (hT2:∀u g0,(∀k,k<w.heap.size→k≠gf→u.heap[k]? =w.heap[k]?)→w.heap.size≤g0→u.heap[g0]? =some (.cells #[.slice none 0 0] 220 (0,0))→Calls Tryz.prog 60 #[.slice a len cap,.string ⟨#[107,101,114,120]⟩,.pointer (some ⟨g0,0,none⟩),.func (.func 61) #[] #[.pointer (some ⟨bG,0,none⟩)]] u (TabP Value.pointer w.heap.size b2 O2 u))
  (hT3:∀u g0,(∀k,k<w.heap.size→k≠gf→u.heap[k]? =w.heap[k]?)→w.heap.size≤g0→u.heap[g0]? =some (.cells #[.pointer none,.slice none 0 0] 226 (0,0))→Calls Tryz.prog 63 #[.slice a len cap,.string ⟨#[97,110,107,114]⟩,.pointer (some ⟨g0,0,none⟩),.func (.func 64) #[] #[.pointer (some ⟨bG,0,none⟩)]] u (TabP Value.pointer w.heap.size b3 O3 u))
  (hT4:∀u g0,(∀k,k<w.heap.size→k≠gf→u.heap[k]? =w.heap[k]?)→w.heap.size≤g0→u.heap[g0]? =some (.cells #[.slice none 0 0,.slice none 0 0,.slice none 0 0,.slice none 0 0] 233 (0,0))→Calls Tryz.prog 66 #[.slice a len cap,.string ⟨#[116,114,97,107]⟩,.pointer (some ⟨g0,0,none⟩),.func (.func 67) #[] #[]] u (TabP Value.pointer w.heap.size b4 O4 u)):
  Calls Tryz.prog 52 #[.pointer (some ⟨bB,0,none⟩),.pointer (some ⟨bF,0,none⟩),.pointer (some ⟨bG,0,none⟩)] w (OpenG w gf gw (b0&&b1&&b2&&b3&&b4) O0 O1 O2 O3 O4):=by
 have hmf:∀(fn:Fn) (first cap:Array Value) (w:World),(Instr.makeFunc fn first cap).run Tryz.prog w=.ok (.func fn first cap) w:=fun _ _ _ _=>rfl
 have hnBf:bB≠gf:=fun e=>by rw [e,h3] at h1;cases h1
 have hnFf:bF≠gf:=fun e=>by rw [e,h3] at h2;cases h2
 have H1:=Bas.hid h1;have H2:=Bas.hid h2;have HG0:=Bas.hid h3;have HT0:=Bas.hid hT0;have HT1:=Bas.hid hT1;have HT2:=Bas.hid hT2;have HT3:=Bas.hid hT3;have HT4:=Bas.hid hT4;have HM0:Hid (Mod (fun k=>k=gf) w w):=Mod.refl _ _
 have hlt3:=heap_lt h3;have HL0:Hid (Lk.Lives w.heap.size (fun _=>True) w):=fun _ _=>trivial
 clear h1 h2 h3 hT0 hT1 hT2 hT3 hT4;go_enter Tryz.func52,Tryz.ntmps52
 go_wp2_with (fail);have HB0:=Bas.hid ((HM0.out.heap H1.out hnBf));have HP0:=Bas.hid ((HM0.out.heap H2.out hnFf));obtain ⟨RI,RF,Ri,RF0,RFk,RFw⟩:=Pl.fam_of w (fun u=>u.heap[bB]? =some (.cells #[.slice a len cap] 47 (0,0))∧u.heap[bF]? =some (.cells #[.pointer (some ⟨gf,0,none⟩)] 124 (0,0))) ⟨HB0.out,HP0.out⟩
 have RFH:=Bas.hid RF0;have RhI:Nonempty RI:=⟨Ri⟩;have RFW:=Bas.hid RFw;have t1:=fun i=>cell_of_heap (i:=0) (v:=.slice a len cap) (RFk i).1 rfl
 have t2:=fun i=>cell_of_heap (i:=0) (v:=.pointer (some ⟨gf,0,none⟩)) (RFk i).2 rfl
 clear RF0 RFw RFk HB0 HP0;refine Pl.region_plan0 Ri [(true,0),(true,1),(false,2),(true,3),(true,4),(false,5)] [5] (by kernel_rfl) (by kernel_rfl) (fun _ _ _ _ e h=>⟨e▸h.1,h.2⟩) RFH.out ?_
 refine Pl.head_sel0 [(true,0),(true,1)] (by kernel_rfl) (by kernel_rfl) ?_
 simp only [Pl.sel,List.drop_succ_cons,List.drop_zero];repeat (go_big_quiet_step (fail))
 refine wpQuiet_nil ?_;rw [←RFH.out];clear t1 t2 RFH;have HMD0:Hid (Mod (fun k=>k=gf) w w.drew):=HM0.out.on (Below.refl w.heap.size w).drew
 have HGD0:Hid (w.drew.heap[gf]? =some (.cells #[.pointer (some ⟨gw,0,none⟩),.slice none 0 0,.pointer none,.pointer none,.pointer none,.pointer none] 204 (0,0))):=HG0.out;have HLD0:Hid (Lk.Lives w.heap.size (fun _=>True) w.drew):=HL0.out.below (Below.refl w.heap.size w).drew
 clear HM0 HG0 HL0;generalize w.drew=v0 at*;have HMA0:=HMD0;have HGA0:=HGD0;have HLA0:=HLD0;clear HMD0 HGD0 HLD0;refine Pl.one_sel (by kernel_rfl) ?_
 intro Q' hQ' hP';simp only [Pl.sel,List.drop_succ_cons,List.drop_zero];go_wp2_with (fail);refine (HT0.out v0 (fun k hk hn=>HMA0.out.block k hk hn) HMA0.out.size).mono ?_
 rintro e y0 ⟨hb0,hgo,hno⟩;have HMB0:=Bas.hid (HMA0.out.on hb0);cases b0 with
 |false=>
  obtain rfl:=hno rfl;have HE:Hid (OpenG w gf gw (false&&b1&&b2&&b3&&b4) O0 O1 O2 O3 O4 (.panicked short) y0):=⟨HMB0.out,fun h=>by simp at h,fun _=>rfl⟩
  clear hgo hno;go_wp2_with (fail);exact ⟨rfl,HE.out⟩
 |true=>
 obtain ⟨x0,rfl,hlx⟩:=hgo rfl;have HGB0:=Bas.hid ((hb0.block _ (heap_lt HGA0.out)).trans HGA0.out);have HLB0:=Bas.hid (lives_and (HLA0.out.below hb0) hlx);clear hb0 hgo hno hlx HMA0 HGA0 HLA0 HT0;go_wp2_with (fail);refine hQ' _ _ (fun _ _=>RFW.out _ ⟨HMB0.out.heap H1.out hnBf,HMB0.out.heap H2.out hnFf⟩) ?_
 clear hQ' hP' Q' RFW;refine Pl.head_sel0 [(true,3),(true,4)] (by kernel_rfl) (by kernel_rfl) ?_
 simp only [Pl.sel,List.drop_succ_cons,List.drop_zero];repeat (go_big_quiet_step (fail))
 refine wpQuiet_nil ?_;refine Pl.tail_sel [(false,5)] (by kernel_rfl) (by kernel_rfl) ?_
 simp only [Pl.sel,List.drop_succ_cons,List.drop_zero];clear RhI Ri;have g1:=cell_of_heap (i:=1) (v:=.slice none 0 0) HGB0.out rfl;have g2:=free_of_heap (i:=1) HGB0.out;have g3:=heap_lt HGB0.out;have HM1:Hid (Mod (fun k=>k=gf) w (y0.setCell ⟨gf,1,none⟩ (slV x0))):=HMB0.out.set _ (.inl rfl)
 have HG1:Hid ((y0.setCell ⟨gf,1,none⟩ (slV x0)).heap[gf]? =some (.cells #[.pointer (some ⟨gw,0,none⟩),slV x0,.pointer none,.pointer none,.pointer none,.pointer none] 204 (0,0))):=by unfold Hid;have k:=heap_set (i:=1) HGB0.out (slV x0);exact k
 have HL1:=Bas.hid (lives_set (i:=1) (v:=slV x0) HLB0.out hlt3);clear HMB0 HGB0 HLB0;simp only [slV] at HM1 HG1 HL1 ⊢;go_wp2_with (fail);clear g1 g2 g3;generalize y0.setCell ⟨gf,1,none⟩ (.slice x0.1 x0.2.1 x0.2.2)=w1 at*;have HB1:=Bas.hid ((HM1.out.heap H1.out hnBf));have HP1:=Bas.hid ((HM1.out.heap H2.out hnFf));obtain ⟨RI,RF,Ri,RF0,RFk,RFw⟩:=Pl.fam_of w1 (fun u=>u.heap[bB]? =some (.cells #[.slice a len cap] 47 (0,0))∧u.heap[bF]? =some (.cells #[.pointer (some ⟨gf,0,none⟩)] 124 (0,0))) ⟨HB1.out,HP1.out⟩
 have RFH:=Bas.hid RF0;have RhI:Nonempty RI:=⟨Ri⟩;have RFW:=Bas.hid RFw;have t1:=fun i=>cell_of_heap (i:=0) (v:=.slice a len cap) (RFk i).1 rfl
 have t2:=fun i=>cell_of_heap (i:=0) (v:=.pointer (some ⟨gf,0,none⟩)) (RFk i).2 rfl
 clear RF0 RFw RFk HB1 HP1;refine Pl.region_plan0 Ri [(true,0),(true,1),(true,2),(true,4),(false,3),(false,5),(true,6),(true,7),(false,8)] [8] (by kernel_rfl) (by kernel_rfl) (fun _ _ _ _ e h=>⟨e▸h.1,h.2⟩) RFH.out ?_
 refine Pl.head_sel0 [(true,0),(true,1),(true,2),(true,4)] (by kernel_rfl) (by kernel_rfl) ?_
 simp only [Pl.sel,List.drop_succ_cons,List.drop_zero];repeat (go_big_quiet_step (fail))
 refine wpQuiet_nil ?_;rw [←RFH.out];clear t1 t2 RFH;have HMD1:Hid (Mod (fun k=>k=gf) w w1.drew):=HM1.out.on (Below.refl w1.heap.size w1).drew
 have HGD1:Hid (w1.drew.heap[gf]? =some (.cells #[.pointer (some ⟨gw,0,none⟩),slV x0,.pointer none,.pointer none,.pointer none,.pointer none] 204 (0,0))):=HG1.out;have HLD1:Hid (Lk.Lives w.heap.size (fun u=>True∧O0 x0 u) w1.drew):=HL1.out.below (Below.refl w1.heap.size w1).drew
 clear HM1 HG1 HL1;generalize w1.drew=v1 at*;refine Pl.one_sel (by kernel_rfl) ?_
 intro Q' hQ' hP';simp only [Pl.sel,List.drop_succ_cons,List.drop_zero];go_wp2_with (fail);obtain ⟨gz,hgz⟩:∃x,v1.heap.size=x:=⟨_,rfl⟩;have hb0:=(Below.refl v1.heap.size v1).alloc (Nat.le_refl _) (.cells #[.slice none 0 0] 214);have HK1:Hid ((v1.alloc (.cells #[.slice none 0 0] 214)).heap[gz]? =some (.cells #[.slice none 0 0] 214 (0,0))∧w.heap.size≤gz):=by rw [←hgz];exact ⟨Bas.heap_new _ _,HMD1.out.size⟩
 have HMA1:=Bas.hid (HMD1.out.on hb0);have HGA1:=Bas.hid ((hb0.block _ (heap_lt HGD1.out)).trans HGD1.out);have HLA1:=Bas.hid (HLD1.out.below hb0);clear hb0 HMD1 HGD1 HLD1;refine hQ' _ _ (fun _ _=>RFW.out _ ⟨HMA1.out.heap H1.out hnBf,HMA1.out.heap H2.out hnFf⟩) ?_
 clear hQ' hP' Q';rw [hgz];generalize v1.alloc (.cells #[.slice none 0 0] 214)=z1 at*;clear hgz;refine Pl.one_sel (by kernel_rfl) ?_
 intro Q' hQ' hP';simp only [Pl.sel,List.drop_succ_cons,List.drop_zero];go_wp2_with (fail);refine (HT1.out z1 gz (fun k hk hn=>HMA1.out.block k hk hn) HK1.out.2 HK1.out.1).mono ?_
 rintro e y1 ⟨hb0,hgo,hno⟩;have HMB1:=Bas.hid (HMA1.out.on hb0);cases b1 with
 |false=>
  obtain rfl:=hno rfl;have HE:Hid (OpenG w gf gw (true&&false&&b2&&b3&&b4) O0 O1 O2 O3 O4 (.panicked short) y1):=⟨HMB1.out,fun h=>by simp at h,fun _=>rfl⟩
  clear hgo hno;go_wp2_with (fail);exact ⟨rfl,HE.out⟩
 |true=>
 obtain ⟨x1,rfl,hlx⟩:=hgo rfl;have HGB1:=Bas.hid ((hb0.block _ (heap_lt HGA1.out)).trans HGA1.out);have HLB1:=Bas.hid (lives_and (HLA1.out.below hb0) hlx);clear hb0 hgo hno hlx HMA1 HGA1 HLA1 HK1 HT1;go_wp2_with (fail);refine hQ' _ _ (fun _ _=>RFW.out _ ⟨HMB1.out.heap H1.out hnBf,HMB1.out.heap H2.out hnFf⟩) ?_
 clear hQ' hP' Q' RFW;refine Pl.head_sel0 [(true,6),(true,7)] (by kernel_rfl) (by kernel_rfl) ?_
 simp only [Pl.sel,List.drop_succ_cons,List.drop_zero];repeat (go_big_quiet_step (fail))
 refine wpQuiet_nil ?_;refine Pl.tail_sel [(false,8)] (by kernel_rfl) (by kernel_rfl) ?_
 simp only [Pl.sel,List.drop_succ_cons,List.drop_zero];clear RhI Ri;have g1:=cell_of_heap (i:=2) (v:=.pointer none) HGB1.out rfl;have g2:=free_of_heap (i:=2) HGB1.out;have g3:=heap_lt HGB1.out;have HM2:Hid (Mod (fun k=>k=gf) w (y1.setCell ⟨gf,2,none⟩ (Value.pointer x1))):=HMB1.out.set _ (.inl rfl)
 have HG2:Hid ((y1.setCell ⟨gf,2,none⟩ (Value.pointer x1)).heap[gf]? =some (.cells #[.pointer (some ⟨gw,0,none⟩),slV x0,Value.pointer x1,.pointer none,.pointer none,.pointer none] 204 (0,0))):=by unfold Hid;have k:=heap_set (i:=2) HGB1.out (Value.pointer x1);exact k
 have HL2:=Bas.hid (lives_set (i:=2) (v:=Value.pointer x1) HLB1.out hlt3);clear HMB1 HGB1 HLB1;go_wp2_with (fail);clear g1 g2 g3;generalize y1.setCell ⟨gf,2,none⟩ (Value.pointer x1)=w2 at*;have HB2:=Bas.hid ((HM2.out.heap H1.out hnBf));have HP2:=Bas.hid ((HM2.out.heap H2.out hnFf));obtain ⟨RI,RF,Ri,RF0,RFk,RFw⟩:=Pl.fam_of w2 (fun u=>u.heap[bB]? =some (.cells #[.slice a len cap] 47 (0,0))∧u.heap[bF]? =some (.cells #[.pointer (some ⟨gf,0,none⟩)] 124 (0,0))) ⟨HB2.out,HP2.out⟩
 have RFH:=Bas.hid RF0;have RhI:Nonempty RI:=⟨Ri⟩;have RFW:=Bas.hid RFw;have t1:=fun i=>cell_of_heap (i:=0) (v:=.slice a len cap) (RFk i).1 rfl
 have t2:=fun i=>cell_of_heap (i:=0) (v:=.pointer (some ⟨gf,0,none⟩)) (RFk i).2 rfl
 clear RF0 RFw RFk HB2 HP2;refine Pl.region_plan0 Ri [(true,0),(true,1),(true,2),(true,4),(false,3),(false,5),(true,6),(true,7),(false,8)] [8] (by kernel_rfl) (by kernel_rfl) (fun _ _ _ _ e h=>⟨e▸h.1,h.2⟩) RFH.out ?_
 refine Pl.head_sel0 [(true,0),(true,1),(true,2),(true,4)] (by kernel_rfl) (by kernel_rfl) ?_
 simp only [Pl.sel,List.drop_succ_cons,List.drop_zero];repeat (go_big_quiet_step (fail))
 refine wpQuiet_nil ?_;rw [←RFH.out];clear t1 t2 RFH;have HMD2:Hid (Mod (fun k=>k=gf) w w2.drew):=HM2.out.on (Below.refl w2.heap.size w2).drew
 have HGD2:Hid (w2.drew.heap[gf]? =some (.cells #[.pointer (some ⟨gw,0,none⟩),slV x0,Value.pointer x1,.pointer none,.pointer none,.pointer none] 204 (0,0))):=HG2.out;have HLD2:Hid (Lk.Lives w.heap.size (fun u=>(True∧O0 x0 u)∧O1 x1 u) w2.drew):=HL2.out.below (Below.refl w2.heap.size w2).drew
 clear HM2 HG2 HL2;generalize w2.drew=v2 at*;refine Pl.one_sel (by kernel_rfl) ?_
 intro Q' hQ' hP';simp only [Pl.sel,List.drop_succ_cons,List.drop_zero];go_wp2_with (fail);obtain ⟨gz,hgz⟩:∃x,v2.heap.size=x:=⟨_,rfl⟩;have hb0:=(Below.refl v2.heap.size v2).alloc (Nat.le_refl _) (.cells #[.slice none 0 0] 220);have HK2:Hid ((v2.alloc (.cells #[.slice none 0 0] 220)).heap[gz]? =some (.cells #[.slice none 0 0] 220 (0,0))∧w.heap.size≤gz):=by rw [←hgz];exact ⟨Bas.heap_new _ _,HMD2.out.size⟩
 have HMA2:=Bas.hid (HMD2.out.on hb0);have HGA2:=Bas.hid ((hb0.block _ (heap_lt HGD2.out)).trans HGD2.out);have HLA2:=Bas.hid (HLD2.out.below hb0);clear hb0 HMD2 HGD2 HLD2;refine hQ' _ _ (fun _ _=>RFW.out _ ⟨HMA2.out.heap H1.out hnBf,HMA2.out.heap H2.out hnFf⟩) ?_
 clear hQ' hP' Q';rw [hgz];generalize v2.alloc (.cells #[.slice none 0 0] 220)=z2 at*;clear hgz;refine Pl.one_sel (by kernel_rfl) ?_
 intro Q' hQ' hP';simp only [Pl.sel,List.drop_succ_cons,List.drop_zero];go_wp2_with (fail);refine (HT2.out z2 gz (fun k hk hn=>HMA2.out.block k hk hn) HK2.out.2 HK2.out.1).mono ?_
 rintro e y2 ⟨hb0,hgo,hno⟩;have HMB2:=Bas.hid (HMA2.out.on hb0);cases b2 with
 |false=>
  obtain rfl:=hno rfl;have HE:Hid (OpenG w gf gw (true&&true&&false&&b3&&b4) O0 O1 O2 O3 O4 (.panicked short) y2):=⟨HMB2.out,fun h=>by simp at h,fun _=>rfl⟩
  clear hgo hno;go_wp2_with (fail);exact ⟨rfl,HE.out⟩
 |true=>
 obtain ⟨x2,rfl,hlx⟩:=hgo rfl;have HGB2:=Bas.hid ((hb0.block _ (heap_lt HGA2.out)).trans HGA2.out);have HLB2:=Bas.hid (lives_and (HLA2.out.below hb0) hlx);clear hb0 hgo hno hlx HMA2 HGA2 HLA2 HK2 HT2;go_wp2_with (fail);refine hQ' _ _ (fun _ _=>RFW.out _ ⟨HMB2.out.heap H1.out hnBf,HMB2.out.heap H2.out hnFf⟩) ?_
 clear hQ' hP' Q' RFW;refine Pl.head_sel0 [(true,6),(true,7)] (by kernel_rfl) (by kernel_rfl) ?_
 simp only [Pl.sel,List.drop_succ_cons,List.drop_zero];repeat (go_big_quiet_step (fail))
 refine wpQuiet_nil ?_;refine Pl.tail_sel [(false,8)] (by kernel_rfl) (by kernel_rfl) ?_
 simp only [Pl.sel,List.drop_succ_cons,List.drop_zero];clear RhI Ri;have g1:=cell_of_heap (i:=3) (v:=.pointer none) HGB2.out rfl;have g2:=free_of_heap (i:=3) HGB2.out;have g3:=heap_lt HGB2.out;have HM3:Hid (Mod (fun k=>k=gf) w (y2.setCell ⟨gf,3,none⟩ (Value.pointer x2))):=HMB2.out.set _ (.inl rfl)
 have HG3:Hid ((y2.setCell ⟨gf,3,none⟩ (Value.pointer x2)).heap[gf]? =some (.cells #[.pointer (some ⟨gw,0,none⟩),slV x0,Value.pointer x1,Value.pointer x2,.pointer none,.pointer none] 204 (0,0))):=by unfold Hid;have k:=heap_set (i:=3) HGB2.out (Value.pointer x2);exact k
 have HL3:=Bas.hid (lives_set (i:=3) (v:=Value.pointer x2) HLB2.out hlt3);clear HMB2 HGB2 HLB2;go_wp2_with (fail);clear g1 g2 g3;generalize y2.setCell ⟨gf,3,none⟩ (Value.pointer x2)=w3 at*;have HB3:=Bas.hid ((HM3.out.heap H1.out hnBf));have HP3:=Bas.hid ((HM3.out.heap H2.out hnFf));obtain ⟨RI,RF,Ri,RF0,RFk,RFw⟩:=Pl.fam_of w3 (fun u=>u.heap[bB]? =some (.cells #[.slice a len cap] 47 (0,0))∧u.heap[bF]? =some (.cells #[.pointer (some ⟨gf,0,none⟩)] 124 (0,0))) ⟨HB3.out,HP3.out⟩
 have RFH:=Bas.hid RF0;have RhI:Nonempty RI:=⟨Ri⟩;have RFW:=Bas.hid RFw;have t1:=fun i=>cell_of_heap (i:=0) (v:=.slice a len cap) (RFk i).1 rfl
 have t2:=fun i=>cell_of_heap (i:=0) (v:=.pointer (some ⟨gf,0,none⟩)) (RFk i).2 rfl
 clear RF0 RFw RFk HB3 HP3;refine Pl.region_plan0 Ri [(true,0),(true,1),(true,2),(true,4),(false,3),(false,5),(true,6),(true,7),(false,8)] [8] (by kernel_rfl) (by kernel_rfl) (fun _ _ _ _ e h=>⟨e▸h.1,h.2⟩) RFH.out ?_
 refine Pl.head_sel0 [(true,0),(true,1),(true,2),(true,4)] (by kernel_rfl) (by kernel_rfl) ?_
 simp only [Pl.sel,List.drop_succ_cons,List.drop_zero];repeat (go_big_quiet_step (fail))
 refine wpQuiet_nil ?_;rw [←RFH.out];clear t1 t2 RFH;have HMD3:Hid (Mod (fun k=>k=gf) w w3.drew):=HM3.out.on (Below.refl w3.heap.size w3).drew
 have HGD3:Hid (w3.drew.heap[gf]? =some (.cells #[.pointer (some ⟨gw,0,none⟩),slV x0,Value.pointer x1,Value.pointer x2,.pointer none,.pointer none] 204 (0,0))):=HG3.out;have HLD3:Hid (Lk.Lives w.heap.size (fun u=>((True∧O0 x0 u)∧O1 x1 u)∧O2 x2 u) w3.drew):=HL3.out.below (Below.refl w3.heap.size w3).drew
 clear HM3 HG3 HL3;generalize w3.drew=v3 at*;refine Pl.one_sel (by kernel_rfl) ?_
 intro Q' hQ' hP';simp only [Pl.sel,List.drop_succ_cons,List.drop_zero];go_wp2_with (fail);obtain ⟨gz,hgz⟩:∃x,v3.heap.size=x:=⟨_,rfl⟩;have hb0:=(Below.refl v3.heap.size v3).alloc (Nat.le_refl _) (.cells #[.pointer none,.slice none 0 0] 226);have HK3:Hid ((v3.alloc (.cells #[.pointer none,.slice none 0 0] 226)).heap[gz]? =some (.cells #[.pointer none,.slice none 0 0] 226 (0,0))∧w.heap.size≤gz):=by rw [←hgz];exact ⟨Bas.heap_new _ _,HMD3.out.size⟩
 have HMA3:=Bas.hid (HMD3.out.on hb0);have HGA3:=Bas.hid ((hb0.block _ (heap_lt HGD3.out)).trans HGD3.out);have HLA3:=Bas.hid (HLD3.out.below hb0);clear hb0 HMD3 HGD3 HLD3;refine hQ' _ _ (fun _ _=>RFW.out _ ⟨HMA3.out.heap H1.out hnBf,HMA3.out.heap H2.out hnFf⟩) ?_
 clear hQ' hP' Q';rw [hgz];generalize v3.alloc (.cells #[.pointer none,.slice none 0 0] 226)=z3 at*;clear hgz;refine Pl.one_sel (by kernel_rfl) ?_
 intro Q' hQ' hP';simp only [Pl.sel,List.drop_succ_cons,List.drop_zero];go_wp2_with (fail);refine (HT3.out z3 gz (fun k hk hn=>HMA3.out.block k hk hn) HK3.out.2 HK3.out.1).mono ?_
 rintro e y3 ⟨hb0,hgo,hno⟩;have HMB3:=Bas.hid (HMA3.out.on hb0);cases b3 with
 |false=>
  obtain rfl:=hno rfl;have HE:Hid (OpenG w gf gw (true&&true&&true&&false&&b4) O0 O1 O2 O3 O4 (.panicked short) y3):=⟨HMB3.out,fun h=>by simp at h,fun _=>rfl⟩
  clear hgo hno;go_wp2_with (fail);exact ⟨rfl,HE.out⟩
 |true=>
 obtain ⟨x3,rfl,hlx⟩:=hgo rfl;have HGB3:=Bas.hid ((hb0.block _ (heap_lt HGA3.out)).trans HGA3.out);have HLB3:=Bas.hid (lives_and (HLA3.out.below hb0) hlx);clear hb0 hgo hno hlx HMA3 HGA3 HLA3 HK3 HT3;go_wp2_with (fail);refine hQ' _ _ (fun _ _=>RFW.out _ ⟨HMB3.out.heap H1.out hnBf,HMB3.out.heap H2.out hnFf⟩) ?_
 clear hQ' hP' Q' RFW;refine Pl.head_sel0 [(true,6),(true,7)] (by kernel_rfl) (by kernel_rfl) ?_
 simp only [Pl.sel,List.drop_succ_cons,List.drop_zero];repeat (go_big_quiet_step (fail))
 refine wpQuiet_nil ?_;refine Pl.tail_sel [(false,8)] (by kernel_rfl) (by kernel_rfl) ?_
 simp only [Pl.sel,List.drop_succ_cons,List.drop_zero];clear RhI Ri;have g1:=cell_of_heap (i:=4) (v:=.pointer none) HGB3.out rfl;have g2:=free_of_heap (i:=4) HGB3.out;have g3:=heap_lt HGB3.out;have HM4:Hid (Mod (fun k=>k=gf) w (y3.setCell ⟨gf,4,none⟩ (Value.pointer x3))):=HMB3.out.set _ (.inl rfl)
 have HG4:Hid ((y3.setCell ⟨gf,4,none⟩ (Value.pointer x3)).heap[gf]? =some (.cells #[.pointer (some ⟨gw,0,none⟩),slV x0,Value.pointer x1,Value.pointer x2,Value.pointer x3,.pointer none] 204 (0,0))):=by unfold Hid;have k:=heap_set (i:=4) HGB3.out (Value.pointer x3);exact k
 have HL4:=Bas.hid (lives_set (i:=4) (v:=Value.pointer x3) HLB3.out hlt3);clear HMB3 HGB3 HLB3;go_wp2_with (fail);clear g1 g2 g3;generalize y3.setCell ⟨gf,4,none⟩ (Value.pointer x3)=w4 at*;have HB4:=Bas.hid ((HM4.out.heap H1.out hnBf));have HP4:=Bas.hid ((HM4.out.heap H2.out hnFf));obtain ⟨RI,RF,Ri,RF0,RFk,RFw⟩:=Pl.fam_of w4 (fun u=>u.heap[bB]? =some (.cells #[.slice a len cap] 47 (0,0))∧u.heap[bF]? =some (.cells #[.pointer (some ⟨gf,0,none⟩)] 124 (0,0))) ⟨HB4.out,HP4.out⟩
 have RFH:=Bas.hid RF0;have RhI:Nonempty RI:=⟨Ri⟩;have RFW:=Bas.hid RFw;have t1:=fun i=>cell_of_heap (i:=0) (v:=.slice a len cap) (RFk i).1 rfl
 have t2:=fun i=>cell_of_heap (i:=0) (v:=.pointer (some ⟨gf,0,none⟩)) (RFk i).2 rfl
 clear RF0 RFw RFk HB4 HP4;refine Pl.region_plan0 Ri [(true,0),(true,1),(true,2),(false,3),(false,4),(true,5),(true,6),(false,7)] [7] (by kernel_rfl) (by kernel_rfl) (fun _ _ _ _ e h=>⟨e▸h.1,h.2⟩) RFH.out ?_
 refine Pl.head_sel0 [(true,0),(true,1),(true,2)] (by kernel_rfl) (by kernel_rfl) ?_
 simp only [Pl.sel,List.drop_succ_cons,List.drop_zero];repeat (go_big_quiet_step (fail))
 refine wpQuiet_nil ?_;rw [←RFH.out];clear t1 t2 RFH;have HMD4:Hid (Mod (fun k=>k=gf) w w4.drew):=HM4.out.on (Below.refl w4.heap.size w4).drew
 have HGD4:Hid (w4.drew.heap[gf]? =some (.cells #[.pointer (some ⟨gw,0,none⟩),slV x0,Value.pointer x1,Value.pointer x2,Value.pointer x3,.pointer none] 204 (0,0))):=HG4.out;have HLD4:Hid (Lk.Lives w.heap.size (fun u=>(((True∧O0 x0 u)∧O1 x1 u)∧O2 x2 u)∧O3 x3 u) w4.drew):=HL4.out.below (Below.refl w4.heap.size w4).drew
 clear HM4 HG4 HL4;generalize w4.drew=v4 at*;refine Pl.one_sel (by kernel_rfl) ?_
 intro Q' hQ' hP';simp only [Pl.sel,List.drop_succ_cons,List.drop_zero];go_wp2_with (fail);obtain ⟨gz,hgz⟩:∃x,v4.heap.size=x:=⟨_,rfl⟩;have hb0:=(Below.refl v4.heap.size v4).alloc (Nat.le_refl _) (.cells #[.slice none 0 0,.slice none 0 0,.slice none 0 0,.slice none 0 0] 233);have HK4:Hid ((v4.alloc (.cells #[.slice none 0 0,.slice none 0 0,.slice none 0 0,.slice none 0 0] 233)).heap[gz]? =some (.cells #[.slice none 0 0,.slice none 0 0,.slice none 0 0,.slice none 0 0] 233 (0,0))∧w.heap.size≤gz):=by rw [←hgz];exact ⟨Bas.heap_new _ _,HMD4.out.size⟩
 have HMA4:=Bas.hid (HMD4.out.on hb0);have HGA4:=Bas.hid ((hb0.block _ (heap_lt HGD4.out)).trans HGD4.out);have HLA4:=Bas.hid (HLD4.out.below hb0);clear hb0 HMD4 HGD4 HLD4;refine hQ' _ _ (fun _ _=>RFW.out _ ⟨HMA4.out.heap H1.out hnBf,HMA4.out.heap H2.out hnFf⟩) ?_
 clear hQ' hP' Q';rw [hgz];generalize v4.alloc (.cells #[.slice none 0 0,.slice none 0 0,.slice none 0 0,.slice none 0 0] 233)=z4 at*;clear hgz;refine Pl.one_sel (by kernel_rfl) ?_
 intro Q' hQ' hP';simp only [Pl.sel,List.drop_succ_cons,List.drop_zero];go_wp2_with (fail);refine (HT4.out z4 gz (fun k hk hn=>HMA4.out.block k hk hn) HK4.out.2 HK4.out.1).mono ?_
 rintro e y4 ⟨hb0,hgo,hno⟩;have HMB4:=Bas.hid (HMA4.out.on hb0);cases b4 with
 |false=>
  obtain rfl:=hno rfl;have HE:Hid (OpenG w gf gw (true&&true&&true&&true&&false) O0 O1 O2 O3 O4 (.panicked short) y4):=⟨HMB4.out,fun h=>by simp at h,fun _=>rfl⟩
  clear hgo hno;go_wp2_with (fail);exact ⟨rfl,HE.out⟩
 |true=>
 obtain ⟨x4,rfl,hlx⟩:=hgo rfl;have HGB4:=Bas.hid ((hb0.block _ (heap_lt HGA4.out)).trans HGA4.out);have HLB4:=Bas.hid (lives_and (HLA4.out.below hb0) hlx);clear hb0 hgo hno hlx HMA4 HGA4 HLA4 HK4 HT4;go_wp2_with (fail);refine hQ' _ _ (fun _ _=>RFW.out _ ⟨HMB4.out.heap H1.out hnBf,HMB4.out.heap H2.out hnFf⟩) ?_
 clear hQ' hP' Q' RFW;refine Pl.head_sel0 [(true,5),(true,6)] (by kernel_rfl) (by kernel_rfl) ?_
 simp only [Pl.sel,List.drop_succ_cons,List.drop_zero];repeat (go_big_quiet_step (fail))
 refine wpQuiet_nil ?_;refine Pl.tail_sel [(false,7)] (by kernel_rfl) (by kernel_rfl) ?_
 simp only [Pl.sel,List.drop_succ_cons,List.drop_zero];clear RhI Ri;have g1:=cell_of_heap (i:=5) (v:=.pointer none) HGB4.out rfl;have g2:=free_of_heap (i:=5) HGB4.out;have g3:=heap_lt HGB4.out;have HM5:Hid (Mod (fun k=>k=gf) w (y4.setCell ⟨gf,5,none⟩ (Value.pointer x4))):=HMB4.out.set _ (.inl rfl)
 have HG5:Hid ((y4.setCell ⟨gf,5,none⟩ (Value.pointer x4)).heap[gf]? =some (.cells #[.pointer (some ⟨gw,0,none⟩),slV x0,Value.pointer x1,Value.pointer x2,Value.pointer x3,Value.pointer x4] 204 (0,0))):=by unfold Hid;have k:=heap_set (i:=5) HGB4.out (Value.pointer x4);exact k
 have HL5:=Bas.hid (lives_set (i:=5) (v:=Value.pointer x4) HLB4.out hlt3);clear HMB4 HGB4 HLB4;have HE:Hid (OpenG w gf gw (true&&true&&true&&true&&true) O0 O1 O2 O3 O4 (.returned (.tuple #[])) (y4.setCell ⟨gf,5,none⟩ (Value.pointer x4))):=⟨HM5.out,fun _=>⟨rfl,x0,x1,x2,x3,x4,HG5.out,HL5.out⟩,fun h=>by simp at h⟩
 clear HM5 HG5 HL5;go_wp2_with (fail)
 go_end0
 exact HE.out
theorem taby_feat(a:Option Addr)(len cap:Nat)(bs:List Int)(P:List PartD)(s:ByteArray)(i:Nat)(p:PartD)(v0:Value)(caps:Array Value)(base:Nat)(good:Bool)(Ok:Option Addr×Nat×Nat→World→Prop)(w:World)(hp:P[i]? =some p)(hs:p.tag=s)(hl:len≤cap)(hc:cap≤maxLen)(hv:VB w a bs)(hbl:bs.length=len)(hF:IsFont bs P)
  (hR:∀u,Below w.heap.size w u→Calls Tryz.prog 54 (#[.agg #[.slice (sub a (atM P i) p.data.length) p.data.length p.data.length]]++caps) u (TabP slV base good Ok u)):
  Calls Tryz.prog 53 #[.slice a len cap,.string s,v0,.func (.func 54) #[] caps] w (TabP slV base good Ok w):=by
 have HN:=Bas.hid (find_yes a len cap bs P s i p hp hs w hl hc hv hbl hF);have hcf:∀(caps:Array Value) w,(callFunc 54 caps).run Tryz.prog w=.ok (.enter 54 caps) w:=fun caps w=>by simp [go_sem]
 have HR:=Bas.hid hR;clear hv hF hs hp hbl hl hc hR;generalize sub a (atM P i) p.data.length=X at*;generalize p.data.length=n at*;go_enter Tryz.func53,Tryz.ntmps53
 go_wp2_with (fail);refine HN.out.mono ?_;rintro e w2 ⟨rfl,hb⟩;have HB4:=Bas.hid (hb.trans (((Below.refl w2.heap.size w2).alloc (Nat.le_refl _) (.cells #[.slice X n n] 190)).mono hb.size));clear hb;go_wp2_with (fail);refine (HR.out _ HB4.out).mono ?_;rintro e w5 ⟨hb5,hgo,hno⟩;have HB5:=Bas.hid (HB4.out.trans (hb5.mono HB4.out.size));cases good with
 |false=>
  obtain rfl:=hno rfl;have HE:Hid (TabP slV base false Ok w (.panicked short) w5):=⟨HB5.out,fun h=>by simp at h,fun _=>rfl⟩
  clear hb5 hgo hno;go_wp2_with (fail);exact ⟨rfl,HE.out⟩
 |true=>
  obtain ⟨x,rfl,hlx⟩:=hgo rfl;have HE:Hid (TabP slV base true Ok w (.returned (slV x)) w5):=⟨HB5.out,fun _=>⟨x,rfl,hlx⟩,fun h=>by simp at h⟩
  clear hb5 hgo hno hlx;go_wp2_with (fail);go_ret;exact HE.out
theorem taby_morx(a:Option Addr)(len cap:Nat)(bs:List Int)(P:List PartD)(s:ByteArray)(i:Nat)(p:PartD)(v0:Value)(caps:Array Value)(base:Nat)(good:Bool)(Ok:Option Addr→World→Prop)(w:World)(hp:P[i]? =some p)(hs:p.tag=s)(hl:len≤cap)(hc:cap≤maxLen)(hv:VB w a bs)(hbl:bs.length=len)(hF:IsFont bs P)
  (hR:∀u,Below w.heap.size w u→Calls Tryz.prog 58 (#[.agg #[.slice (sub a (atM P i) p.data.length) p.data.length p.data.length]]++caps) u (TabP Value.pointer base good Ok u)):
  Calls Tryz.prog 57 #[.slice a len cap,.string s,v0,.func (.func 58) #[] caps] w (TabP Value.pointer base good Ok w):=by
 have HN:=Bas.hid (find_yes a len cap bs P s i p hp hs w hl hc hv hbl hF);have hcf:∀(caps:Array Value) w,(callFunc 58 caps).run Tryz.prog w=.ok (.enter 58 caps) w:=fun caps w=>by simp [go_sem]
 have HR:=Bas.hid hR;clear hv hF hs hp hbl hl hc hR;generalize sub a (atM P i) p.data.length=X at*;generalize p.data.length=n at*;go_enter Tryz.func57,Tryz.ntmps57
 go_wp2_with (fail);refine HN.out.mono ?_;rintro e w2 ⟨rfl,hb⟩;have HB4:=Bas.hid (hb.trans (((Below.refl w2.heap.size w2).alloc (Nat.le_refl _) (.cells #[.slice X n n] 190)).mono hb.size));clear hb;go_wp2_with (fail);refine (HR.out _ HB4.out).mono ?_;rintro e w5 ⟨hb5,hgo,hno⟩;have HB5:=Bas.hid (HB4.out.trans (hb5.mono HB4.out.size));cases good with
 |false=>
  obtain rfl:=hno rfl;have HE:Hid (TabP Value.pointer base false Ok w (.panicked short) w5):=⟨HB5.out,fun h=>by simp at h,fun _=>rfl⟩
  clear hb5 hgo hno;go_wp2_with (fail);exact ⟨rfl,HE.out⟩
 |true=>
  obtain ⟨x,rfl,hlx⟩:=hgo rfl;have HE:Hid (TabP Value.pointer base true Ok w (.returned (Value.pointer x)) w5):=⟨HB5.out,fun _=>⟨x,rfl,hlx⟩,fun h=>by simp at h⟩
  clear hb5 hgo hno hlx;go_wp2_with (fail);go_ret;exact HE.out
theorem taby_kerx(a:Option Addr)(len cap:Nat)(bs:List Int)(P:List PartD)(s:ByteArray)(i:Nat)(p:PartD)(v0:Value)(caps:Array Value)(base:Nat)(good:Bool)(Ok:Option Addr→World→Prop)(w:World)(hp:P[i]? =some p)(hs:p.tag=s)(hl:len≤cap)(hc:cap≤maxLen)(hv:VB w a bs)(hbl:bs.length=len)(hF:IsFont bs P)
  (hR:∀u,Below w.heap.size w u→Calls Tryz.prog 61 (#[.agg #[.slice (sub a (atM P i) p.data.length) p.data.length p.data.length]]++caps) u (TabP Value.pointer base good Ok u)):
  Calls Tryz.prog 60 #[.slice a len cap,.string s,v0,.func (.func 61) #[] caps] w (TabP Value.pointer base good Ok w):=by
 have HN:=Bas.hid (find_yes a len cap bs P s i p hp hs w hl hc hv hbl hF);have hcf:∀(caps:Array Value) w,(callFunc 61 caps).run Tryz.prog w=.ok (.enter 61 caps) w:=fun caps w=>by simp [go_sem]
 have HR:=Bas.hid hR;clear hv hF hs hp hbl hl hc hR;generalize sub a (atM P i) p.data.length=X at*;generalize p.data.length=n at*;go_enter Tryz.func60,Tryz.ntmps60
 go_wp2_with (fail);refine HN.out.mono ?_;rintro e w2 ⟨rfl,hb⟩;have HB4:=Bas.hid (hb.trans (((Below.refl w2.heap.size w2).alloc (Nat.le_refl _) (.cells #[.slice X n n] 190)).mono hb.size));clear hb;go_wp2_with (fail);refine (HR.out _ HB4.out).mono ?_;rintro e w5 ⟨hb5,hgo,hno⟩;have HB5:=Bas.hid (HB4.out.trans (hb5.mono HB4.out.size));cases good with
 |false=>
  obtain rfl:=hno rfl;have HE:Hid (TabP Value.pointer base false Ok w (.panicked short) w5):=⟨HB5.out,fun h=>by simp at h,fun _=>rfl⟩
  clear hb5 hgo hno;go_wp2_with (fail);exact ⟨rfl,HE.out⟩
 |true=>
  obtain ⟨x,rfl,hlx⟩:=hgo rfl;have HE:Hid (TabP Value.pointer base true Ok w (.returned (Value.pointer x)) w5):=⟨HB5.out,fun _=>⟨x,rfl,hlx⟩,fun h=>by simp at h⟩
  clear hb5 hgo hno hlx;go_wp2_with (fail);go_ret;exact HE.out
theorem taby_ankr(a:Option Addr)(len cap:Nat)(bs:List Int)(P:List PartD)(s:ByteArray)(i:Nat)(p:PartD)(v0:Value)(caps:Array Value)(base:Nat)(good:Bool)(Ok:Option Addr→World→Prop)(w:World)(hp:P[i]? =some p)(hs:p.tag=s)(hl:len≤cap)(hc:cap≤maxLen)(hv:VB w a bs)(hbl:bs.length=len)(hF:IsFont bs P)
  (hR:∀u,Below w.heap.size w u→Calls Tryz.prog 64 (#[.agg #[.slice (sub a (atM P i) p.data.length) p.data.length p.data.length]]++caps) u (TabP Value.pointer base good Ok u)):
  Calls Tryz.prog 63 #[.slice a len cap,.string s,v0,.func (.func 64) #[] caps] w (TabP Value.pointer base good Ok w):=by
 have HN:=Bas.hid (find_yes a len cap bs P s i p hp hs w hl hc hv hbl hF);have hcf:∀(caps:Array Value) w,(callFunc 64 caps).run Tryz.prog w=.ok (.enter 64 caps) w:=fun caps w=>by simp [go_sem]
 have HR:=Bas.hid hR;clear hv hF hs hp hbl hl hc hR;generalize sub a (atM P i) p.data.length=X at*;generalize p.data.length=n at*;go_enter Tryz.func63,Tryz.ntmps63
 go_wp2_with (fail);refine HN.out.mono ?_;rintro e w2 ⟨rfl,hb⟩;have HB4:=Bas.hid (hb.trans (((Below.refl w2.heap.size w2).alloc (Nat.le_refl _) (.cells #[.slice X n n] 190)).mono hb.size));clear hb;go_wp2_with (fail);refine (HR.out _ HB4.out).mono ?_;rintro e w5 ⟨hb5,hgo,hno⟩;have HB5:=Bas.hid (HB4.out.trans (hb5.mono HB4.out.size));cases good with
 |false=>
  obtain rfl:=hno rfl;have HE:Hid (TabP Value.pointer base false Ok w (.panicked short) w5):=⟨HB5.out,fun h=>by simp at h,fun _=>rfl⟩
  clear hb5 hgo hno;go_wp2_with (fail);exact ⟨rfl,HE.out⟩
 |true=>
  obtain ⟨x,rfl,hlx⟩:=hgo rfl;have HE:Hid (TabP Value.pointer base true Ok w (.returned (Value.pointer x)) w5):=⟨HB5.out,fun _=>⟨x,rfl,hlx⟩,fun h=>by simp at h⟩
  clear hb5 hgo hno hlx;go_wp2_with (fail);go_ret;exact HE.out
theorem taby_trak(a:Option Addr)(len cap:Nat)(bs:List Int)(P:List PartD)(s:ByteArray)(i:Nat)(p:PartD)(v0:Value)(caps:Array Value)(base:Nat)(good:Bool)(Ok:Option Addr→World→Prop)(w:World)(hp:P[i]? =some p)(hs:p.tag=s)(hl:len≤cap)(hc:cap≤maxLen)(hv:VB w a bs)(hbl:bs.length=len)(hF:IsFont bs P)
  (hR:∀u,Below w.heap.size w u→Calls Tryz.prog 67 (#[.agg #[.slice (sub a (atM P i) p.data.length) p.data.length p.data.length]]++caps) u (TabP Value.pointer base good Ok u)):
  Calls Tryz.prog 66 #[.slice a len cap,.string s,v0,.func (.func 67) #[] caps] w (TabP Value.pointer base good Ok w):=by
 have HN:=Bas.hid (find_yes a len cap bs P s i p hp hs w hl hc hv hbl hF);have hcf:∀(caps:Array Value) w,(callFunc 67 caps).run Tryz.prog w=.ok (.enter 67 caps) w:=fun caps w=>by simp [go_sem]
 have HR:=Bas.hid hR;clear hv hF hs hp hbl hl hc hR;generalize sub a (atM P i) p.data.length=X at*;generalize p.data.length=n at*;go_enter Tryz.func66,Tryz.ntmps66
 go_wp2_with (fail);refine HN.out.mono ?_;rintro e w2 ⟨rfl,hb⟩;have HB4:=Bas.hid (hb.trans (((Below.refl w2.heap.size w2).alloc (Nat.le_refl _) (.cells #[.slice X n n] 190)).mono hb.size));clear hb;go_wp2_with (fail);refine (HR.out _ HB4.out).mono ?_;rintro e w5 ⟨hb5,hgo,hno⟩;have HB5:=Bas.hid (HB4.out.trans (hb5.mono HB4.out.size));cases good with
 |false=>
  obtain rfl:=hno rfl;have HE:Hid (TabP Value.pointer base false Ok w (.panicked short) w5):=⟨HB5.out,fun h=>by simp at h,fun _=>rfl⟩
  clear hb5 hgo hno;go_wp2_with (fail);exact ⟨rfl,HE.out⟩
 |true=>
  obtain ⟨x,rfl,hlx⟩:=hgo rfl;have HE:Hid (TabP Value.pointer base true Ok w (.returned (Value.pointer x)) w5):=⟨HB5.out,fun _=>⟨x,rfl,hlx⟩,fun h=>by simp at h⟩
  clear hb5 hgo hno hlx;go_wp2_with (fail);go_ret;exact HE.out
def FeatsAt(base:Nat)(fs:Option (List Ft.FeatD))(x:Option Addr×Nat×Nat)(u:World):Prop:=∃l ss,fs=some l∧Ft.FRow u base (slV x) l ss
theorem rdFeat_any(X:Option Addr)(n:Nat)(ds:List Int)(base:Nat)(w:World)(hv:VB w X ds)(hn:ds.length=n)(hs:n≤1000000)(hX:X=none→n=0)(hb:base≤w.heap.size):
  Calls Tryz.prog 54 #[.agg #[.slice X n n]] w (TabP slV base (Ft.parseFs ds).isSome (FeatsAt base (Ft.parseFs ds)) w):=by
 have hb1:=(Below.refl w.heap.size w).alloc (Nat.le_refl _) (.cells #[.slice X n n] 190);have HB1:=Bas.hid hb1;have HBY:=Bas.hid (bytes_any X n n ds (w.alloc (.cells #[.slice X n n] 190)) (Nat.le_refl _) (by unfold maxLen;omega) (hv.below hb1) hn hX)
 have HBYT:=Bas.hid hv.byte;have HBS:=Bas.hid hb;have HV:=Bas.hid hv.len;have c0:=cell_of_heap (i:=0) (v:=.slice X n n) (Bas.heap_new w (.cells #[.slice X n n] 190)) rfl;have l0:w.heap.size<(w.alloc (.cells #[.slice X n n] 190)).heap.size:=by simp
 clear hv hb1 hb;go_enter Tryz.func54,Tryz.ntmps54
 go_wp2_with (fail);generalize w.alloc (.cells #[.slice X n n] 190)=w1 at*;refine HBY.out.mono ?_;rintro e w2 ⟨v,rfl,ho,hne,hb2⟩;rw [hn] at ho;obtain ⟨a2,c2,rfl⟩:=Fo.own_slice ho;have hlc:n≤c2∧c2≤maxLen:=by
  rcases Row.owned_parts ho with ⟨h1,h2,_⟩|⟨_,_,h1,_,_,h2,h3,_⟩
  ·cases h1;omega
  ·cases h1;exact ⟨h2,h3⟩
 have HB2:=Bas.hid (HB1.out.trans (hb2.mono HB1.out.size));have HRD:=Bas.hid (Ft.fRead_any a2 n c2 ds w2 hlc.1 hlc.2 (Mx.vb_own ho HV.out HBYT.out) hn (by omega))
 clear ho hne hb2 hlc HBY HB1 c0 l0;go_wp2_with (fail);refine HRD.out.mono ?_;rintro e w3 ⟨hb3,h3⟩;have HB3:=Bas.hid (HB2.out.trans (hb3.mono HB2.out.size));have hs2:=HB2.out.size;cases hp:Ft.parseFs ds with
 |none=>
  rw [hp] at h3;simp only at h3;subst h3;clear HRD;have HE:Hid (TabP slV base (Ft.parseFs ds).isSome (FeatsAt base (Ft.parseFs ds)) w (.panicked short) w3):=by
   unfold Hid;rw [hp];exact ⟨HB3.out,fun h=>by simp at h,fun _=>rfl⟩
  have e1:((2:Int)==0)=false:=by decide
  clear hb3 hp;go_wp2_with (go_at_call 56;refine (need_nob _ _ (by first|rfl|(simp;done)|(simp;omega))).mono ?_;rintro e w' ⟨rfl,rfl⟩)
  exact ⟨rfl,HE.out⟩
 |some fs=>
  rw [hp] at h3;simp only at h3;obtain ⟨v,ss,rfl,hr⟩:=h3;obtain ⟨a3,c3,rfl⟩:=Fo.own_slice hr.own;have HE:Hid (TabP slV base (Ft.parseFs ds).isSome (FeatsAt base (Ft.parseFs ds)) w (.returned (.slice a3 fs.length c3)) w3):=by
   unfold Hid;rw [hp];exact ⟨HB3.out,fun _=>⟨(a3,fs.length,c3),rfl,fun u hu=>⟨fs,ss,rfl,Ft.fRow_keep (Ft.fRow_base hr (Nat.le_trans HBS.out hs2)) hu⟩⟩,fun h=>by simp at h⟩
  clear hb3 hp hr HRD;go_wp2_with (go_at_call 56;refine (need_yesb _ _ (by first|rfl|(simp;done)|(simp;omega))).mono ?_;rintro e w' ⟨rfl,rfl⟩)
  go_ret;exact HE.out
theorem face_gG(a b c:Int)(w:World):(Instr.field 196 (.agg #[.int .i64 a,.int .i64 b,.int .i64 c]) 0).run Tryz.prog w=.ok (.int .i64 a) w:=by
 have h:=run_underlying (P:=Tryz.prog) Tryz.underlying196;simp [Instr.field,h,part,asAgg,go_sem]
theorem isW_bs{w:World}{base base' p g m:Nat}{d:List Int}(h:IsW w base p g m d)(hb:base'≤base):IsW w base' p g m d:=by
 obtain ⟨h1,gb,cb,h2,h3⟩:=h;exact ⟨by omega,gb,cb,by omega,h3⟩
def RdP{β:Type}(mk:β→Value)(fn:Nat)(caps:Nat→Array Value)(ds:List Int)(g:Nat)(good:Bool)(Ok:Nat→β→World→Prop):Prop:=
 ∀(bG:Nat) (X:Option Addr) (base:Nat) (u:World),VB u X ds→(X=none→ds.length=0)→u.heap[bG]? =some (.cells #[.int .i64 (g:Int)] 3 (0,0))→base≤u.heap.size→
  Calls Tryz.prog fn (#[.agg #[.slice X ds.length ds.length]]++caps bG) u (TabP mk base good (Ok base) u)
def capN:Nat→Array Value:=fun _=>#[]
def capG:Nat→Array Value:=fun bG=>#[.pointer (some ⟨bG,0,none⟩)]
def TabOr{β:Type}(has:Bool)(Ok:Nat→β→World→Prop)(Z:Nat→β→World→Prop)(base:Nat)(x:β)(u:World):Prop:=(has=true→Ok base x u)∧(has=false→Z base x u)
def ZeroF(_base:Nat)(x:Option Addr×Nat×Nat)(_:World):Prop:=x=(none,0,0)
def ZeroP(o:Obj)(base:Nat)(x:Option Addr)(u:World):Prop:=∃g0,base≤g0∧x=some ⟨g0,0,none⟩∧u.heap[g0]? =some o
structure Reads where
 bF:Bool
 bM:Bool
 bK:Bool
 bA:Bool
 bT:Bool
 F:Nat→Option Addr×Nat×Nat→World→Prop
 M:Nat→Option Addr→World→Prop
 K:Nat→Option Addr→World→Prop
 A:Nat→Option Addr→World→Prop
 T:Nat→Option Addr→World→Prop
def zM:Obj:=.cells #[.slice none 0 0] 214 (0,0)
def zK:Obj:=.cells #[.slice none 0 0] 220 (0,0)
def zA:Obj:=.cells #[.pointer none,.slice none 0 0] 226 (0,0)
def zT:Obj:=.cells #[.slice none 0 0,.slice none 0 0,.slice none 0 0,.slice none 0 0] 233 (0,0)
def Reads.good(R:Reads)(h:HasD):Bool:=(!h.f||R.bF)&&(!h.m||R.bM)&&(!h.k||R.bK)&&(!h.a||R.bA)&&(!h.t||R.bT)
structure Reads.Ok (R:Reads) (h:HasD) (D:TabsD) (g:Nat):Prop where
 f:h.f=true→RdP slV 54 capN D.f g R.bF R.F
 m:h.m=true→RdP Value.pointer 58 capG D.m g R.bM R.M
 k:h.k=true→RdP Value.pointer 61 capG D.k g R.bK R.K
 a:h.a=true→RdP Value.pointer 64 capG D.a g R.bA R.A
 t:h.t=true→RdP Value.pointer 67 capN D.t g R.bT R.T
def Reads.All(R:Reads)(h:HasD)(base:Nat)(x0:Option Addr×Nat×Nat)(x1 x2 x3 x4:Option Addr)(u:World):Prop:=
 TabOr h.f R.F ZeroF base x0 u∧TabOr h.m R.M (ZeroP zM) base x1 u∧TabOr h.k R.K (ZeroP zK) base x2 u∧TabOr h.a R.A (ZeroP zA) base x3 u∧TabOr h.t R.T (ZeroP zT) base x4 u
theorem fontP_at_mem{h:HasD}{D:TabsD}{g m:Int}{d:List Int}{p:PartD}(hp:p∈opts h D∨p∈four g m d):∃i:Nat,(fontP h D g m d)[i]? =some p:=List.mem_iff_getElem?.1 ((fontP_mem h D g m d p).2 hp)
theorem fontP_no{h:HasD}{D:TabsD}{g m:Int}{d:List Int}{s:ByteArray}(h1:∀p∈opts h D,p.tag≠s)(h2:s≠sMaxp∧s≠sHead∧s≠sHhea∧s≠sHmtx):∀p∈fontP h D g m d,p.tag≠s:=by
 intro p hp;rcases (fontP_mem h D g m d p).1 hp with hp|hp
 ·exact h1 p hp
 ·simp only [four,List.mem_cons,List.not_mem_nil,or_false] at hp;obtain ⟨n1,n2,n3,n4⟩:=h2;rcases hp with rfl|rfl|rfl|rfl<;>exact fun e=>by first|exact n1 e.symm|exact n2 e.symm|exact n3 e.symm|exact n4 e.symm
theorem sub_none{a:Option Addr}{k n:Nat}(ha:a≠none):sub a k n=none→n=0:=by
 intro h;cases a with
 |none=>exact absurd rfl ha
 |some x=>
  unfold sub at h;split at h
  ·assumption
  ·cases h
theorem tabo_feat(R:Reads)(h:HasD)(D:TabsD)(g m:Nat)(d:List Int)(a:Option Addr)(len cap bG base:Nat)(bs:List Int)(w:World)(hR:R.Ok h D g)(ha:a≠none)(hl:len≤cap)(hc:cap≤maxLen)(hv:VB w a bs)(hbl:bs.length=len)(hF:IsFont bs (fontP h D (g:Nat) (m:Nat) d))(hG:w.heap[bG]? =some (.cells #[.int .i64 (g:Int)] 3 (0,0)))(hb:base≤w.heap.size):
  Calls Tryz.prog 53 #[.slice a len cap,.string ⟨#[102,101,97,116]⟩,.slice none 0 0,.func (.func 54) #[] #[]] w (TabP slV base (!h.f||R.bF) (TabOr h.f R.F ZeroF base) w):=by
 cases hh:h.f with
 |false=>
  refine (tab_feat a len cap bs _ sFeat _ _ (by rw [fontP_idx,List.length_map];have:=idxO_len h D;omega) (fontP_no (fun p hp=> ?_) (by decide)) w hl hc hv hbl hF).mono ?_
  ·rcases opts_mem h D p hp with ⟨h1,rfl⟩|⟨h1,rfl⟩|⟨h1,rfl⟩|⟨h1,rfl⟩|⟨h1,rfl⟩<;>first|(exact absurd (hh.symm.trans h1) (by decide))|(simp only;decide)
  ·rintro e w' ⟨rfl,hb'⟩;refine ⟨hb',fun _=>⟨(none,0,0),rfl,fun u hu=>⟨fun h=>by simp at h,fun _=>rfl⟩⟩,fun h=>by simp at h⟩
 |true=>
  obtain ⟨i,hi⟩:=fontP_at_mem (h:=h) (D:=D) (g:=(g:Nat)) (m:=(m:Nat)) (d:=d) (p:=⟨sFeat,D.f⟩) (.inl (by simp [opts,optL,hh]))
  obtain ⟨e2,b2⟩:=hF.data i _ hi;simp only at e2 b2;refine (taby_feat a len cap bs _ sFeat i ⟨sFeat,D.f⟩ _ #[] base R.bF (TabOr true R.F ZeroF base) w hi rfl hl hc hv hbl hF fun u hu=> ?_).mono ?_
  ·have hvs:=(hv.below hu).sub (atM (fontP h D (g:Nat) (m:Nat) d) i) D.f.length (by omega)
   rw [e2] at hvs;refine (hR.f hh bG _ base u hvs (sub_none ha) ((hu.block _ (heap_lt hG)).trans hG) (Nat.le_trans hb hu.size)).mono ?_;rintro e u' ⟨k1,k2,k3⟩;exact ⟨k1,fun q=>by obtain ⟨x,hx,hl⟩:=k2 q;exact ⟨x,hx,hl.imp fun _ k=>⟨fun _=>k,fun h=>by simp at h⟩⟩,k3⟩
  ·rintro e w' hq;simpa using hq
theorem tabo_morx(R:Reads)(h:HasD)(D:TabsD)(g m:Nat)(d:List Int)(a:Option Addr)(len cap bG base g0:Nat)(bs:List Int)(w:World)(hR:R.Ok h D g)(ha:a≠none)(hl:len≤cap)(hc:cap≤maxLen)(hv:VB w a bs)(hbl:bs.length=len)(hF:IsFont bs (fontP h D (g:Nat) (m:Nat) d))(hG:w.heap[bG]? =some (.cells #[.int .i64 (g:Int)] 3 (0,0)))(hb:base≤w.heap.size)(hg:base≤g0)(hz:w.heap[g0]? =some zM):
  Calls Tryz.prog 57 #[.slice a len cap,.string ⟨#[109,111,114,120]⟩,.pointer (some ⟨g0,0,none⟩),.func (.func 58) #[] #[.pointer (some ⟨bG,0,none⟩)]] w (TabP Value.pointer base (!h.m||R.bM) (TabOr h.m R.M (ZeroP zM) base) w):=by
 cases hh:h.m with
 |false=>
  refine (tab_morx a len cap bs _ sMorx _ _ (by rw [fontP_idx,List.length_map];have:=idxO_len h D;omega) (fontP_no (fun p hp=> ?_) (by decide)) w hl hc hv hbl hF).mono ?_
  ·rcases opts_mem h D p hp with ⟨h1,rfl⟩|⟨h1,rfl⟩|⟨h1,rfl⟩|⟨h1,rfl⟩|⟨h1,rfl⟩<;>first|(exact absurd (hh.symm.trans h1) (by decide))|(simp only;decide)
  ·rintro e w' ⟨rfl,hb'⟩;refine ⟨hb',fun _=>⟨some ⟨g0,0,none⟩,rfl,fun u hu=>⟨fun h=>by simp at h,fun _=>⟨g0,hg,rfl,(hu g0 hg (Nat.lt_of_lt_of_le (heap_lt hz) hb'.size)).trans ((hb'.block _ (heap_lt hz)).trans hz)⟩⟩⟩,fun h=>by simp at h⟩
 |true=>
  obtain ⟨i,hi⟩:=fontP_at_mem (h:=h) (D:=D) (g:=(g:Nat)) (m:=(m:Nat)) (d:=d) (p:=⟨sMorx,D.m⟩) (.inl (by simp [opts,optL,hh]))
  obtain ⟨e2,b2⟩:=hF.data i _ hi;simp only at e2 b2;refine (taby_morx a len cap bs _ sMorx i ⟨sMorx,D.m⟩ _ #[.pointer (some ⟨bG,0,none⟩)] base R.bM (TabOr true R.M (ZeroP zM) base) w hi rfl hl hc hv hbl hF fun u hu=> ?_).mono ?_
  ·have hvs:=(hv.below hu).sub (atM (fontP h D (g:Nat) (m:Nat) d) i) D.m.length (by omega)
   rw [e2] at hvs;refine (hR.m hh bG _ base u hvs (sub_none ha) ((hu.block _ (heap_lt hG)).trans hG) (Nat.le_trans hb hu.size)).mono ?_;rintro e u' ⟨k1,k2,k3⟩;exact ⟨k1,fun q=>by obtain ⟨x,hx,hl⟩:=k2 q;exact ⟨x,hx,hl.imp fun _ k=>⟨fun _=>k,fun h=>by simp at h⟩⟩,k3⟩
  ·rintro e w' hq;simpa using hq
theorem tabo_kerx(R:Reads)(h:HasD)(D:TabsD)(g m:Nat)(d:List Int)(a:Option Addr)(len cap bG base g0:Nat)(bs:List Int)(w:World)(hR:R.Ok h D g)(ha:a≠none)(hl:len≤cap)(hc:cap≤maxLen)(hv:VB w a bs)(hbl:bs.length=len)(hF:IsFont bs (fontP h D (g:Nat) (m:Nat) d))(hG:w.heap[bG]? =some (.cells #[.int .i64 (g:Int)] 3 (0,0)))(hb:base≤w.heap.size)(hg:base≤g0)(hz:w.heap[g0]? =some zK):
  Calls Tryz.prog 60 #[.slice a len cap,.string ⟨#[107,101,114,120]⟩,.pointer (some ⟨g0,0,none⟩),.func (.func 61) #[] #[.pointer (some ⟨bG,0,none⟩)]] w (TabP Value.pointer base (!h.k||R.bK) (TabOr h.k R.K (ZeroP zK) base) w):=by
 cases hh:h.k with
 |false=>
  refine (tab_kerx a len cap bs _ sKerx _ _ (by rw [fontP_idx,List.length_map];have:=idxO_len h D;omega) (fontP_no (fun p hp=> ?_) (by decide)) w hl hc hv hbl hF).mono ?_
  ·rcases opts_mem h D p hp with ⟨h1,rfl⟩|⟨h1,rfl⟩|⟨h1,rfl⟩|⟨h1,rfl⟩|⟨h1,rfl⟩<;>first|(exact absurd (hh.symm.trans h1) (by decide))|(simp only;decide)
  ·rintro e w' ⟨rfl,hb'⟩;refine ⟨hb',fun _=>⟨some ⟨g0,0,none⟩,rfl,fun u hu=>⟨fun h=>by simp at h,fun _=>⟨g0,hg,rfl,(hu g0 hg (Nat.lt_of_lt_of_le (heap_lt hz) hb'.size)).trans ((hb'.block _ (heap_lt hz)).trans hz)⟩⟩⟩,fun h=>by simp at h⟩
 |true=>
  obtain ⟨i,hi⟩:=fontP_at_mem (h:=h) (D:=D) (g:=(g:Nat)) (m:=(m:Nat)) (d:=d) (p:=⟨sKerx,D.k⟩) (.inl (by simp [opts,optL,hh]))
  obtain ⟨e2,b2⟩:=hF.data i _ hi;simp only at e2 b2;refine (taby_kerx a len cap bs _ sKerx i ⟨sKerx,D.k⟩ _ #[.pointer (some ⟨bG,0,none⟩)] base R.bK (TabOr true R.K (ZeroP zK) base) w hi rfl hl hc hv hbl hF fun u hu=> ?_).mono ?_
  ·have hvs:=(hv.below hu).sub (atM (fontP h D (g:Nat) (m:Nat) d) i) D.k.length (by omega)
   rw [e2] at hvs;refine (hR.k hh bG _ base u hvs (sub_none ha) ((hu.block _ (heap_lt hG)).trans hG) (Nat.le_trans hb hu.size)).mono ?_;rintro e u' ⟨k1,k2,k3⟩;exact ⟨k1,fun q=>by obtain ⟨x,hx,hl⟩:=k2 q;exact ⟨x,hx,hl.imp fun _ k=>⟨fun _=>k,fun h=>by simp at h⟩⟩,k3⟩
  ·rintro e w' hq;simpa using hq
theorem tabo_ankr(R:Reads)(h:HasD)(D:TabsD)(g m:Nat)(d:List Int)(a:Option Addr)(len cap bG base g0:Nat)(bs:List Int)(w:World)(hR:R.Ok h D g)(ha:a≠none)(hl:len≤cap)(hc:cap≤maxLen)(hv:VB w a bs)(hbl:bs.length=len)(hF:IsFont bs (fontP h D (g:Nat) (m:Nat) d))(hG:w.heap[bG]? =some (.cells #[.int .i64 (g:Int)] 3 (0,0)))(hb:base≤w.heap.size)(hg:base≤g0)(hz:w.heap[g0]? =some zA):
  Calls Tryz.prog 63 #[.slice a len cap,.string ⟨#[97,110,107,114]⟩,.pointer (some ⟨g0,0,none⟩),.func (.func 64) #[] #[.pointer (some ⟨bG,0,none⟩)]] w (TabP Value.pointer base (!h.a||R.bA) (TabOr h.a R.A (ZeroP zA) base) w):=by
 cases hh:h.a with
 |false=>
  refine (tab_ankr a len cap bs _ sAnkr _ _ (by rw [fontP_idx,List.length_map];have:=idxO_len h D;omega) (fontP_no (fun p hp=> ?_) (by decide)) w hl hc hv hbl hF).mono ?_
  ·rcases opts_mem h D p hp with ⟨h1,rfl⟩|⟨h1,rfl⟩|⟨h1,rfl⟩|⟨h1,rfl⟩|⟨h1,rfl⟩<;>first|(exact absurd (hh.symm.trans h1) (by decide))|(simp only;decide)
  ·rintro e w' ⟨rfl,hb'⟩;refine ⟨hb',fun _=>⟨some ⟨g0,0,none⟩,rfl,fun u hu=>⟨fun h=>by simp at h,fun _=>⟨g0,hg,rfl,(hu g0 hg (Nat.lt_of_lt_of_le (heap_lt hz) hb'.size)).trans ((hb'.block _ (heap_lt hz)).trans hz)⟩⟩⟩,fun h=>by simp at h⟩
 |true=>
  obtain ⟨i,hi⟩:=fontP_at_mem (h:=h) (D:=D) (g:=(g:Nat)) (m:=(m:Nat)) (d:=d) (p:=⟨sAnkr,D.a⟩) (.inl (by simp [opts,optL,hh]))
  obtain ⟨e2,b2⟩:=hF.data i _ hi;simp only at e2 b2;refine (taby_ankr a len cap bs _ sAnkr i ⟨sAnkr,D.a⟩ _ #[.pointer (some ⟨bG,0,none⟩)] base R.bA (TabOr true R.A (ZeroP zA) base) w hi rfl hl hc hv hbl hF fun u hu=> ?_).mono ?_
  ·have hvs:=(hv.below hu).sub (atM (fontP h D (g:Nat) (m:Nat) d) i) D.a.length (by omega)
   rw [e2] at hvs;refine (hR.a hh bG _ base u hvs (sub_none ha) ((hu.block _ (heap_lt hG)).trans hG) (Nat.le_trans hb hu.size)).mono ?_;rintro e u' ⟨k1,k2,k3⟩;exact ⟨k1,fun q=>by obtain ⟨x,hx,hl⟩:=k2 q;exact ⟨x,hx,hl.imp fun _ k=>⟨fun _=>k,fun h=>by simp at h⟩⟩,k3⟩
  ·rintro e w' hq;simpa using hq
theorem tabo_trak(R:Reads)(h:HasD)(D:TabsD)(g m:Nat)(d:List Int)(a:Option Addr)(len cap bG base g0:Nat)(bs:List Int)(w:World)(hR:R.Ok h D g)(ha:a≠none)(hl:len≤cap)(hc:cap≤maxLen)(hv:VB w a bs)(hbl:bs.length=len)(hF:IsFont bs (fontP h D (g:Nat) (m:Nat) d))(hG:w.heap[bG]? =some (.cells #[.int .i64 (g:Int)] 3 (0,0)))(hb:base≤w.heap.size)(hg:base≤g0)(hz:w.heap[g0]? =some zT):
  Calls Tryz.prog 66 #[.slice a len cap,.string ⟨#[116,114,97,107]⟩,.pointer (some ⟨g0,0,none⟩),.func (.func 67) #[] #[]] w (TabP Value.pointer base (!h.t||R.bT) (TabOr h.t R.T (ZeroP zT) base) w):=by
 cases hh:h.t with
 |false=>
  refine (tab_trak a len cap bs _ sTrak _ _ (by rw [fontP_idx,List.length_map];have:=idxO_len h D;omega) (fontP_no (fun p hp=> ?_) (by decide)) w hl hc hv hbl hF).mono ?_
  ·rcases opts_mem h D p hp with ⟨h1,rfl⟩|⟨h1,rfl⟩|⟨h1,rfl⟩|⟨h1,rfl⟩|⟨h1,rfl⟩<;>first|(exact absurd (hh.symm.trans h1) (by decide))|(simp only;decide)
  ·rintro e w' ⟨rfl,hb'⟩;refine ⟨hb',fun _=>⟨some ⟨g0,0,none⟩,rfl,fun u hu=>⟨fun h=>by simp at h,fun _=>⟨g0,hg,rfl,(hu g0 hg (Nat.lt_of_lt_of_le (heap_lt hz) hb'.size)).trans ((hb'.block _ (heap_lt hz)).trans hz)⟩⟩⟩,fun h=>by simp at h⟩
 |true=>
  obtain ⟨i,hi⟩:=fontP_at_mem (h:=h) (D:=D) (g:=(g:Nat)) (m:=(m:Nat)) (d:=d) (p:=⟨sTrak,D.t⟩) (.inl (by simp [opts,optL,hh]))
  obtain ⟨e2,b2⟩:=hF.data i _ hi;simp only at e2 b2;refine (taby_trak a len cap bs _ sTrak i ⟨sTrak,D.t⟩ _ #[] base R.bT (TabOr true R.T (ZeroP zT) base) w hi rfl hl hc hv hbl hF fun u hu=> ?_).mono ?_
  ·have hvs:=(hv.below hu).sub (atM (fontP h D (g:Nat) (m:Nat) d) i) D.t.length (by omega)
   rw [e2] at hvs;refine (hR.t hh bG _ base u hvs (sub_none ha) ((hu.block _ (heap_lt hG)).trans hG) (Nat.le_trans hb hu.size)).mono ?_;rintro e u' ⟨k1,k2,k3⟩;exact ⟨k1,fun q=>by obtain ⟨x,hx,hl⟩:=k2 q;exact ⟨x,hx,hl.imp fun _ k=>⟨fun _=>k,fun h=>by simp at h⟩⟩,k3⟩
  ·rintro e w' hq;simpa using hq
def OpenR(w:World)(g m:Nat)(d:List Int)(R:Reads)(h:HasD)(e:Ending)(w':World):Prop:=
 Below w.heap.size w w'∧(R.good h=true→∃gf gw base x0 x1 x2 x3 x4,e=.returned (.tuple #[.pointer (some ⟨gf,0,none⟩),.int .i64 0])∧w.heap.size≤gf∧gf<base∧gw<base∧w.heap.size≤base∧w'.heap[gf]? =some (.cells #[.pointer (some ⟨gw,0,none⟩),slV x0,.pointer x1,.pointer x2,.pointer x3,.pointer x4] 204 (0,0))∧IsW w' w.heap.size gw g m d∧Lk.Lives base (R.All h base x0 x1 x2 x3 x4) w')∧
  (R.good h=false→e=.returned (.tuple #[.pointer none,.int .i64 2]))
theorem open_gen(R:Reads)(h:HasD)(D:TabsD)(a:Option Addr)(len cap:Nat)(bs:List Int)(g m:Nat)(d:List Int)(w:World)(hR:R.Ok h D g)(hl:len≤cap)(hc:cap≤maxLen)(hv:VB w a bs)(hbl:bs.length=len)(hn:a=none→cap=0)(hF:IsFont bs (fontP h D (g:Nat) (m:Nat) d))(hd:d.length=4*m+2*(g - m))(hm1:1≤m)(hmg:m≤g)(hgb:g≤65535):
  Calls Tryz.prog 28 #[.slice a len cap] w (OpenR w g m d R h):=by
 have hmf:∀(fn:Fn) (first cap:Array Value) (w:World),(Instr.makeFunc fn first cap).run Tryz.prog w=.ok (.func fn first cap) w:=fun _ _ _ _=>rfl
 have hcf:∀(caps:Array Value) w,(callFunc 52 caps).run Tryz.prog w=.ok (.enter 52 caps) w:=fun caps w=>by simp [go_sem]
 have HCF:=Bas.hid hcf;have HV:=Bas.hid hv;have HF:=Bas.hid hF;have HD:=Bas.hid hd;have HRO:=Bas.hid hR;have HBL:=Bas.hid hbl;have hb1:=(Below.refl w.heap.size w).alloc (Nat.le_refl _) (.cells #[.slice a len cap] 47);have HB1:=Bas.hid hb1;have HKB1:=Bas.hid (Bas.heap_new w (.cells #[.slice a len cap] 47));have HOF:=Bas.hid (of_any a len cap (w.alloc (.cells #[.slice a len cap] 47)));have HBY:=Bas.hid (fun u (hb:Below w.heap.size w u)=>bytes_any a len cap bs u hl hc (hv.below hb) hbl hn)
 have HL12:Hid (12≤len):=by have:=hF.len;unfold Hid;omega
 obtain ⟨j0,hj0⟩:=fontP_at_mem (h:=h) (D:=D) (g:=(g:Nat)) (m:=(m:Nat)) (d:=d) (p:=⟨sMaxp,maxpL (g:Nat)⟩) (.inr (by simp [four]))
 obtain ⟨j1,hj1⟩:=fontP_at_mem (h:=h) (D:=D) (g:=(g:Nat)) (m:=(m:Nat)) (d:=d) (p:=⟨sHead,headL 1000⟩) (.inr (by simp [four]))
 obtain ⟨j2,hj2⟩:=fontP_at_mem (h:=h) (D:=D) (g:=(g:Nat)) (m:=(m:Nat)) (d:=d) (p:=⟨sHhea,hheaL (m:Nat)⟩) (.inr (by simp [four]))
 obtain ⟨j3,hj3⟩:=fontP_at_mem (h:=h) (D:=D) (g:=(g:Nat)) (m:=(m:Nat)) (d:=d) (p:=⟨sHmtx,d⟩) (.inr (by simp [four]))
 have HJ:=Bas.hid (And.intro hj0 (And.intro hj1 (And.intro hj2 hj3)));clear hcf hv hF hd hbl hb1 hR hj0 hj1 hj2 hj3;go_enter Tryz.func28,Tryz.ntmps28
 go_wp2_with (fail);generalize w.alloc (.cells #[.slice a len cap] 47)=w1 at*;refine HOF.out.mono ?_;rintro e w2 ⟨rfl,hb2⟩;have HB2:=Bas.hid (HB1.out.trans (hb2.mono HB1.out.size));have HKB2:=Bas.hid ((hb2.block _ (heap_lt HKB1.out)).trans HKB1.out);clear hb2 HB1 HKB1 HOF;go_wp2_with (fail);refine (HBY.out w2 HB2.out).mono ?_;rintro e w3 ⟨v3,rfl,ho3,hne3,hb3⟩;obtain ⟨a3,c3,rfl⟩:=Fo.own_slice ho3;have HO3:=Bas.hid ho3;have HB3:=Bas.hid (HB2.out.trans (hb3.mono HB2.out.size));have hk3:=(hb3.block _ (heap_lt HKB2.out)).trans HKB2.out;have hT2:=heap_lt HKB2.out;rw [HBL.out] at HO3 ⊢;have c0:=cell_of_heap (i:=0) hk3 rfl;have f0:=free_of_heap (i:=0) hk3;have l0:=heap_lt hk3;have hlc:len≤c3∧c3≤maxLen:=by
  rcases Row.owned_parts HO3.out with ⟨h1,h2,_⟩|⟨_,_,h1,_,_,h2,h3,_⟩
  ·cases h1;omega
  ·cases h1;exact ⟨h2,h3⟩
 have HB4:Hid (Below w.heap.size w (w3.setCell ⟨w.heap.size,0,none⟩ (.slice a3 len c3))):=HB3.out.setCell (Nat.le_refl _) _;have HKB4:Hid ((w3.setCell ⟨w.heap.size,0,none⟩ (.slice a3 len c3)).heap[w.heap.size]? =some (.cells #[.slice a3 len c3] 47 (0,0))):=by unfold Hid;have k:=heap_set (i:=0) hk3 (.slice a3 len c3);exact k
 have HO4:Hid ((w3.setCell ⟨w.heap.size,0,none⟩ (.slice a3 len c3)).ownsRow w2.heap.size 5 1 (.slice a3 len c3) len (bs.map (Value.int .u8))):=Row.owned_keep HO3.out fun k hk=>Below.heap_setCell _ _ _ _ (fun e=>by have h:=(Row.own_block HO3.out hk).1;rw [show k=w.heap.size from e] at h;omega)
 clear hb3 ho3 hne3 HBY HB2 HKB2 hk3;go_wp2_with (fail);generalize w3.setCell ⟨w.heap.size,0,none⟩ (.slice a3 len c3)=w4 at*;clear c0 f0 l0 HO3 HB3;have hvb4:VB w4 a3 bs:=Mx.vb_own HO4.out HV.out.len HV.out.byte;have HRD:=wread_gen a3 c3 bs _ j0 j1 j2 j3 g m _ d w4 (by rw [HBL.out];exact hlc.1) hlc.2 hvb4 HF.out HJ.out.1 HJ.out.2.1 HJ.out.2.2.1 HJ.out.2.2.2 hm1 hmg hgb rfl
 rw [HD.out,HBL.out,decide_eq_true (Nat.le_refl _),List.take_of_length_le (by rw [HD.out];exact Nat.le_refl _)] at HRD
 have HRD:=Bas.hid HRD;have k0:=cell_of_heap (i:=0) (v:=.slice a3 len c3) HKB4.out rfl;have l0:=heap_lt HKB4.out;clear hvb4;go_wp2_with (fail);refine HRD.out.mono ?_;rintro e w5 ⟨hb5,gw,rfl,hw5⟩;have HB5:=Bas.hid (HB4.out.trans (hb5.mono HB4.out.size));have HKB5:=Bas.hid ((hb5.block _ l0).trans HKB4.out);have HO5:=Bas.hid (Row.owned_below HO4.out hb5);have hs4:w.heap.size≤w4.heap.size:=HB4.out.size;have HW5:Hid (IsW w5 w4.heap.size gw g m d):=hw5;have HFC5:=Bas.hid (wface_any w5 _ gw g m d hw5);have hgl:=fun u=>face_gG (g:Int) 1000 (m:Int) u
 have e1:decide ((65535:Int)<(g:Int))=false:=by simp;omega
 clear hb5 hw5 k0 l0 HRD HB4 HKB4 HO4;go_wp2_with (fail);refine HFC5.out.mono ?_;rintro e w6 ⟨rfl,hb6⟩;have HB6:=Bas.hid (HB5.out.trans (hb6.mono HB5.out.size));have HKB6:=Bas.hid ((hb6.block _ (heap_lt HKB5.out)).trans HKB5.out);have HO6:=Bas.hid (Row.owned_below HO5.out hb6);have HW6:=Bas.hid (isW_below HW5.out hb6);clear hb6 HFC5 HB5 HKB5 HO5 HW5;go_wp2_with (fail);have hb7:=((Below.refl w6.heap.size w6).alloc (Nat.le_refl _) (.cells #[.pointer (some ⟨gw,0,none⟩),.slice none 0 0,.pointer none,.pointer none,.pointer none,.pointer none] 204)).alloc (by simp) (.cells #[.pointer (some ⟨w6.heap.size,0,none⟩)] 124)
 have kf7:=(Below.heap_alloc (w6.alloc (.cells #[.pointer (some ⟨gw,0,none⟩),.slice none 0 0,.pointer none,.pointer none,.pointer none,.pointer none] 204)) (.cells #[.pointer (some ⟨w6.heap.size,0,none⟩)] 124) w6.heap.size (by simp)).trans (Bas.heap_new w6 (.cells #[.pointer (some ⟨gw,0,none⟩),.slice none 0 0,.pointer none,.pointer none,.pointer none,.pointer none] 204))
 have kp7:=Bas.heap_new2 w6 (.cells #[.pointer (some ⟨gw,0,none⟩),.slice none 0 0,.pointer none,.pointer none,.pointer none,.pointer none] 204) (.cells #[.pointer (some ⟨w6.heap.size,0,none⟩)] 124);generalize (w6.alloc (.cells #[.pointer (some ⟨gw,0,none⟩),.slice none 0 0,.pointer none,.pointer none,.pointer none,.pointer none] 204)).alloc (.cells #[.pointer (some ⟨w6.heap.size,0,none⟩)] 124)=w7 at*;have HFC7:=Bas.hid (wface_any w7 _ gw g m d (isW_below HW6.out hb7));have HB7:=Bas.hid hb7;have HKF7:=Bas.hid kf7;have HKP7:=Bas.hid kp7;clear hb7 kf7 kp7;refine HFC7.out.mono ?_;rintro e w8 ⟨rfl,hb8⟩;have HB8:=Bas.hid (HB7.out.trans (hb8.mono HB7.out.size));have HKF8:=Bas.hid ((hb8.block _ (heap_lt HKF7.out)).trans HKF7.out);have HKP8:=Bas.hid ((hb8.block _ (heap_lt HKP7.out)).trans HKP7.out);clear hb8 HB7 HKF7 HKP7 HFC7;go_wp2_with (fail);have hb9:=(Below.refl w8.heap.size w8).alloc (Nat.le_refl _) (.cells #[.int .i64 (g:Int)] 3);have hs9:w8.heap.size<(w8.alloc (.cells #[.int .i64 (g:Int)] 3)).heap.size:=by simp
 have HB9:=Bas.hid (HB8.out.trans (hb9.mono HB8.out.size));have HKF9:=Bas.hid ((hb9.block _ (heap_lt HKF8.out)).trans HKF8.out);have HKP9:=Bas.hid ((hb9.block _ (heap_lt HKP8.out)).trans HKP8.out);have hbg:=Bas.heap_new w8 (.cells #[.int .i64 (g:Int)] 3);have hbg3:w8.heap.size≠w6.heap.size:=by have:=heap_lt HKF8.out;omega
 generalize w8.alloc (.cells #[.int .i64 (g:Int)] 3)=w9 at*;generalize w8.heap.size=BG at*;have HBG9:=Bas.hid (And.intro hbg (And.intro hs9 hbg3));clear hb9 HB8 HKF8 HKP8 hbg hbg3;have hb10:=(Below.refl w9.heap.size w9).alloc (Nat.le_refl _) (.cells #[.bool false] 4);have kb10:=Bas.heap_new w9 (.cells #[.bool false] 4);have HBX:=Bas.hid (HB9.out.trans (hb10.mono HB9.out.size));have HKFX:=Bas.hid ((hb10.block _ (heap_lt HKF9.out)).trans HKF9.out);have HKPX:=Bas.hid ((hb10.block _ (heap_lt HKP9.out)).trans HKP9.out);have HKBX:=Bas.hid ((HBX.out.block _ (heap_lt HKB6.out)).trans HKB6.out);have HOX:=Bas.hid (Row.owned_keep HO6.out fun k hk=>HBX.out.block k (Row.own_block HO6.out hk).2)
 have lp9:=heap_lt HKP9.out;have hxs:(w9.alloc (.cells #[.bool false] 4)).heap.size=w9.heap.size+1:=World.size_alloc _ _;have HA3:Hid (a3≠none):=by
  rcases Row.owned_parts HO6.out with ⟨h1,_⟩|⟨_,_,h1,_⟩
  ·cases h1;have:=HL12.out;omega
  ·cases h1;exact fun e=>by cases e
 have HBGX:Hid ((w9.alloc (.cells #[.bool false] 4)).heap[BG]? =some (.cells #[.int .i64 (g:Int)] 3 (0,0))):=(hb10.block _ HBG9.out.2.1).trans HBG9.out.1;obtain ⟨WX,hWX⟩:∃WX,w9.alloc (.cells #[.bool false] 4)=WX:=⟨_,rfl⟩;have HVX:Hid (∀u:World,(∀k,k<WX.heap.size→k≠w6.heap.size→u.heap[k]? =WX.heap[k]?)→VB u a3 bs∧u.heap[BG]? =some (.cells #[.int .i64 (g:Int)] 3 (0,0))):=by
  intro u hu;rw [←hWX] at hu;exact ⟨Mx.vb_own (Row.owned_keep HOX.out fun k hk=>hu k (Row.own_block HOX.out hk).2 (fun e=>own_ty HOX.out HKFX.out (by decide) (by rw [hk,e]))) HV.out.len HV.out.byte,(hu BG (heap_lt HBGX.out) HBG9.out.2.2).trans HBGX.out⟩
 have HC:Calls Tryz.prog 52 #[.pointer (some ⟨w.heap.size,0,none⟩),.pointer (some ⟨w6.heap.size+1,0,none⟩),.pointer (some ⟨BG,0,none⟩)] (w9.alloc (.cells #[.bool false] 4)) (TryPost w9.heap.size (fun ok u=>∃e,(ok=true↔e=.returned (.tuple #[]))∧OpenG (w9.alloc (.cells #[.bool false] 4)) w6.heap.size gw (R.good h) (TabOr h.f R.F ZeroF WX.heap.size) (TabOr h.m R.M (ZeroP zM) WX.heap.size) (TabOr h.k R.K (ZeroP zK) WX.heap.size) (TabOr h.a R.A (ZeroP zA) WX.heap.size) (TabOr h.t R.T (ZeroP zT) WX.heap.size) e u)):=by
  rw [hWX] at HKBX HKPX HKFX hxs kb10 ⊢;refine (open1_gen w.heap.size (w6.heap.size+1) BG w6.heap.size gw a3 len c3 WX (!h.f||R.bF) (!h.m||R.bM) (!h.k||R.bK) (!h.a||R.bA) (!h.t||R.bT) _ _ _ _ _ HKBX.out HKPX.out HKFX.out
   (fun u hu hs=>tabo_feat R h D g m d a3 len c3 BG _ bs u HRO.out HA3.out hlc.1 hlc.2 (HVX.out u hu).1 HBL.out HF.out (HVX.out u hu).2 hs)
   (fun u g0 hu hg hz=>tabo_morx R h D g m d a3 len c3 BG _ g0 bs u HRO.out HA3.out hlc.1 hlc.2 (HVX.out u hu).1 HBL.out HF.out (HVX.out u hu).2 (by have:=heap_lt hz;omega) hg hz)
   (fun u g0 hu hg hz=>tabo_kerx R h D g m d a3 len c3 BG _ g0 bs u HRO.out HA3.out hlc.1 hlc.2 (HVX.out u hu).1 HBL.out HF.out (HVX.out u hu).2 (by have:=heap_lt hz;omega) hg hz)
   (fun u g0 hu hg hz=>tabo_ankr R h D g m d a3 len c3 BG _ g0 bs u HRO.out HA3.out hlc.1 hlc.2 (HVX.out u hu).1 HBL.out HF.out (HVX.out u hu).2 (by have:=heap_lt hz;omega) hg hz)
   (fun u g0 hu hg hz=>tabo_trak R h D g m d a3 len c3 BG _ g0 bs u HRO.out HA3.out hlc.1 hlc.2 (HVX.out u hu).1 HBL.out HF.out (HVX.out u hu).2 (by have:=heap_lt hz;omega) hg hz)).mono ?_
  rintro e u hO;have hO2:=hO;obtain ⟨hm,hy,hn⟩:=hO2;refine ⟨hm.heap kb10 (by omega), ?_⟩
  cases hgd:R.good h with
  |true=>obtain ⟨rfl,_⟩:=hy hgd;exact .inl ⟨rfl,.returned (.tuple #[]),⟨fun _=>rfl,fun _=>rfl⟩,by rw [←hgd];exact hO⟩
  |false=>obtain rfl:=hn hgd;exact .inr ⟨rfl,.panicked short,⟨fun h=>by simp at h,fun h=>by cases h⟩,by rw [←hgd];exact hO⟩
 have HCC:=Bas.hid HC;have HLW:Hid (w9.heap.size<WX.heap.size∧w6.heap.size<WX.heap.size):=by rw [←hWX];exact ⟨by omega,by omega⟩
 clear HC kb10 hb10 HVX;go_wp2_with (fail);refine (try_any 52 _ w9 _ (HCF.out _) HCC.out).mono ?_;rintro e w11 ⟨ok,w10,rfl,⟨e0,hoke,hm,hy,hn⟩,hlt,hg11⟩;have hb10:Below w6.heap.size w6 w10:=hm.below HBX.out (fun i hi=>by subst hi;omega) (by omega)
 have HB11:=Bas.hid (Bas.below_g hb10 hg11 hb10.size (by omega))
 have kp11:=(hg11.block _ (by have:=hm.size;omega) (by simp;omega)).trans (hm.heap HKPX.out (by omega))
 have HBE:=Bas.hid (HB6.out.trans (HB11.out.mono HB6.out.size));have c0:=cell_of_heap (i:=0) kp11 rfl;have l0:=heap_lt kp11;cases hgd:R.good h with
 |false=>
  obtain rfl:=hn hgd;have hok:ok=false:=by
   cases ok
   ·rfl
   ·cases hoke.1 rfl
  subst hok;have HE:Hid (OpenR w g m d R h (.returned (.tuple #[.pointer none,.int .i64 2])) w11):=⟨HBE.out,fun h=>by rw [hgd] at h;simp at h,fun _=>rfl⟩
  clear hm hy hn hoke hlt hg11 hb10 kp11 HCC HKFX HKPX HKBX HOX HBX hgd;go_wp2_with (fail)
  go_ret2
  exact HE.out
 |true=>
  obtain ⟨rfl,x0,x1,x2,x3,x4,j1,j2⟩:=hy hgd;have hok:ok=true:=hoke.2 rfl;subst hok;have HE:Hid (OpenR w g m d R h (.returned (.tuple #[.pointer (some ⟨w6.heap.size,0,none⟩),.int .i64 0])) w11):=by
   refine ⟨HBE.out,fun _=>⟨w6.heap.size,gw,WX.heap.size,x0,x1,x2,x3,x4,rfl,HB6.out.size,HLW.out.2, ?_, ?_,(hg11.block _ (heap_lt j1) (by simp;omega)).trans j1,isW_bs (isW_below HW6.out HB11.out) hs4, ?_⟩,fun h=>by rw [hgd] at h;simp at h⟩
   ·obtain ⟨_,_,_,_,_,h5,_⟩:=HW6.out;have:=heap_lt h5;have:=HLW.out.2;omega
   ·have:=HB6.out.size;have:=HLW.out.2;omega
   ·rw [hWX] at j2;intro u hu;obtain ⟨⟨⟨⟨⟨_,h0⟩,h1⟩,h2⟩,h3⟩,h4⟩:=j2 u fun k q1 q2=>(hu k q1 (by have:=hg11.size;omega)).trans (hg11.block k q2 (by have:=HLW.out.1;simp;omega))
    exact ⟨h0,h1,h2,h3,h4⟩
  clear hm hy hn hoke hlt hg11 hb10 kp11 HCC HKFX HKPX HKBX HOX HBX hgd j1 j2;go_wp2_with (fail)
  go_ret2
  exact HE.out
end Sh
namespace Pl
variable {P:Program}
theorem upon_in{o:Oper}{a:Act}{K K':Act→World→Prop}{Q:Exit→Act→World→Prop}{l n:Nat}(hK:∀a w,K a w→K' a w):∀r,o.upon P a K Q r→o.uponIn (Fence.wide.inRound l) n P a K' Q r
 |.ok (.value v) w',h=>hK _ _ h
 |.ok .skip w',h=>hK _ _ h
 |.ok (.defer d) w',h=>hK _ _ h
 |.ok (.enter f args) w',h=>⟨fun h=>(by cases h),(callsIn_wide (n:=n - 1)).2 (Calls.mono h fun e w k=>by cases e with
  |returned v=>exact hK _ _ k
  |panicked c=>exact k
  |outgrown=>exact k)⟩
 |.ok (.row row args) w',h=>⟨fun h=>(by cases h),fun c cs _=>let ⟨v,w',r,s⟩:=h c cs;⟨v,w',hK _ _ r,stepsIn_wide.2 s⟩⟩
 |.halt (.panic v) w',h=>h
theorem op_in{ops:Array Oper}{Q:Exit→Act→World→Prop}{K K':Act→World→Prop}{l n i:Nat}{a:Act}{w:World}(hd:∀o∈ops.toList,∀c,o.op≠.defer c)(hL:¬LetsOut Q)(hK:∀a w,K a w→K' a w)(h:wpOp P ops Q i K a w):wpOpIn (Fence.wide.inRound l) n P ops Q i K' a w:=by
 unfold wpOp at h;unfold wpOpIn;cases ho:ops[i]? with
 |none=>rw [ho] at h;exact hK _ _ h
 |some o=>
  rw [ho] at h;simp only at h ⊢;split
  ·rename_i hw
   rw [if_pos hw] at h;rcases h with h|h
   ·refine ⟨fun _ _=>trivial, ?_⟩
    rw [show (Fence.wide.inRound l).round=some l from rfl,Oper.semAt_some l _ o (hd o (by have:=Array.mem_of_getElem? ho;exact Array.mem_toList_iff.2 this))]
    exact upon_in hK _ h
   ·exact absurd h.2 hL
  ·rename_i hw
   rw [if_neg hw] at h;exact ⟨fun _ _=>trivial,hK _ _ h⟩
theorem any_in{ops:Array Oper}{Q:Exit→Act→World→Prop}{l n:Nat}(hd:∀o∈ops.toList,∀c,o.op≠.defer c)(hL:¬LetsOut Q):∀(fuel:Nat) (listed:Array Bool) (a:Act) (w:World),wpAny P .any ops Q fuel listed a w→wpAnyIn (Fence.wide.inRound l) n P .any ops Q fuel listed a w
 |0,_,_,_,h=>h
 |fuel+1,_,_,_,h=>⟨h.1,fun i hi=>op_in hd hL (any_in hd hL fuel _) (h.2 i hi)⟩
theorem any_plan0{Q:Exit→Act→World→Prop}{a:Act}{w:World}{l:List Oper}{I:Type}{F:I→World}(i0:I)(plan:List (Bool×Nat))(late:List Nat)
  (hB:(Region.noSelect l.toArray&&decide (plan.length=l.length)&&planB .any l.toArray late plan (Array.replicate l.toArray.size false))=true)
  (hQ:∀c a a' w,Act.defers a=Act.defers a'→Q (.panic c) a w→Q (.panic c) a' w) (h0:w.drew=F i0)
  (h:walkM P l.toArray Q (fun w=>∃i,w=F i) late plan a (F i0)):wpAny P .any l.toArray Q l.toArray.size (Array.replicate l.toArray.size false) a w.drew:=by
 simp only [Bool.and_eq_true,decide_eq_true_eq] at hB;obtain ⟨⟨hs,hl⟩,hB⟩:=hB;rw [h0];have H:=wpAnyF_of_plan (md:=.any) (late:=late) (S:=fun w=>∃i,w=F i) hs (fun c a d v w=>hQ c _ _ w (put_defers a d v)) ⟨F i0,i0,rfl⟩ plan (Array.replicate l.toArray.size false) a (F i0)
  ⟨by simp,fun j oj _ hl=>(by rw [getD_replicate_false] at hl;cases hl)⟩ hB (fun _=>⟨i0,rfl⟩) h
 have:=wpAny_of_F _ _ _ _ H;rw [hl] at this;simpa using this
theorem region_plan0_in{Q:Exit→Act→World→Prop}{id lp n:Nat}{a:Act}{w:World}{l:List Oper}{I:Type}{F:I→World}(i0:I)(plan:List (Bool×Nat))(late:List Nat)(hm:P.follows .mixedOrders=true)(hd:(l.all fun o=>match o.op with|.defer _=>false|_=>true)=true)(hL:¬LetsOut Q)
  (hB:(Region.noSelect l.toArray&&decide (plan.length=l.length)&&planB .any l.toArray late plan (Array.replicate l.toArray.size false))=true)
  (hQ:∀c a a' w,Act.defers a=Act.defers a'→Q (.panic c) a w→Q (.panic c) a' w) (h0:w.drew=F i0)
  (h:walkM P l.toArray Q (fun w=>∃i,w=F i) late plan a (F i0)):(Code.region id l.toArray true).wpIn (Fence.wide.inRound lp) n P Q a w:=
 wpIn_region_any hm (any_in (fun o ho c e=>by have h:=List.all_eq_true.1 hd o ho;rw [e] at h;cases h) hL _ _ _ _ (any_plan0 i0 plan late hB hQ h0 h))
end Pl
end Go.Proofs.YtceihjjjmcgmaaaGreat
namespace Go.Proofs.YtceihjjjmcgmaaaGreat
open Go.RowKit Go.Shelf
attribute [local go_sem] Oper.semAt_some
namespace Lk
open Vw Sk Ch
def KCells(W W':World):Prop:=W.heap.size≤W'.heap.size∧∀(k:Nat) (o:Obj),W.heap[k]? =some o→o.isCells=true→W'.heap[k]? =some o
theorem KCells.refl(W:World):KCells W W:=⟨Nat.le_refl _,fun _ _ h _=>h⟩
theorem KCells.trans{A B C:World}(h:KCells A B)(k:KCells B C):KCells A C:=⟨Nat.le_trans h.1 k.1,fun i o hi ho=>k.2 i o (h.2 i o hi ho) ho⟩
theorem KCells.alloc(W:World)(o:Obj):KCells W (W.alloc o):=⟨by simp,fun k o' hk _=>(Below.heap_alloc W o k (Array.getElem?_eq_some_iff.1 hk).1).trans hk⟩
theorem KCells.below{W W':World}(h:Below W.heap.size W W'):KCells W W':=⟨h.size,fun k _o hk _=>(h.block k (Array.getElem?_eq_some_iff.1 hk).1).trans hk⟩
theorem KCells.grown{W W':World}{row:Option Nat}(hg:W.grownBy W' row)(hr:∀r (o:Obj),row=some r→W.heap[r]? =some o→o.isCells=false):KCells W W':=
 ⟨hg.size,fun k o hk ho=>(hg.block k (Array.getElem?_eq_some_iff.1 hk).1 (fun e=>by rw [hr k o e.symm hk] at ho;cases ho)).trans hk⟩
theorem KCells.cell{W W':World}(h:KCells W W'){p:Addr}{v:Value}(hc:W.cell? p=some v):W'.cell? p=some v:=by
 obtain ⟨o,ho,hk⟩:=cells_of_cell hc;have:=h.2 _ _ ho hk;simp only [World.cell?,ho] at hc;simp only [World.cell?,this];exact hc
theorem KCells.leads{W W':World}(h:KCells W W'){v:Value}{n:Nat}{xs:List Value}(hl:Row.Leads W v n xs):Row.Leads W' v n xs:=by
 rcases hl with hl|⟨ad,cp,h1,h2⟩
 ·exact .inl hl
 ·exact .inr ⟨ad,cp,h1,fun j u hu=>h.cell (h2 j u hu)⟩
abbrev PairG(G:Int→Prop):={ x:Int×Int // G x.2 }
abbrev encG{G:Int→Prop}(x:PairG G):Array Value:=#[.int .i64 x.1.1,.int .i64 x.1.2]
def manyG(ps:List PartD):Nat:=(ps.length+1)*131073
theorem all1_in(G:Int→Prop)(n:Nat)(hn:1≤n)(l Bs:Nat)(tv:Value)(ps:List PartD)(hok:∀p∈ps,PartOk p)(hG:∀p∈ps,∀id,p.first≤id→id≤p.last→G (pnum p id))(hps:ps.length≤100000)(J Jx:List (PairG G)→World→Prop)(W:World)
  (hJ:AbidesFrom W.heap.size J)
  (hY:∀pre x W1,J pre W1→pre.length<manyG ps→YieldAt Fence.wide (n - 1) Tryz.prog l (encG x) W1 fun e W'=>(e=.returned (.bool true)∧J (pre++[x]) W'∧KCells W1 W')∨(e=.returned (.bool false)∧Jx (pre++[x]) W'))
  (hBs:W.heap[Bs]? =some (.cells #[tv] 224 (0,0))) (ht:LkAt W tv ps) (h0:J [] W):
  CallsIn Fence.wide n Tryz.prog 166 #[.func (.yield l) #[] #[],.pointer (some ⟨Bs,0,none⟩)] W fun e W'=>(∃v,e=.returned v)∧((∃xs:List (PairG G),True∧J xs W')∨(∃pre:List (PairG G),True∧Jx pre W')):=by
 obtain ⟨gt,fmt,vp,vs,rfl,hT,hvl,hlead,hvals⟩:=ht;obtain ⟨ap,cp,rfl⟩:=Row.leads_slice hlead;have c0:=cell_of_heap (i:=0) hBs rfl;have c1:=cell_of_heap (i:=1) hT rfl;have HVL:=Bas.hid hvl;have HLD:=Bas.hid hlead;have HVA:=Bas.hid hvals;have HOK:=Bas.hid hok;have HG:=Bas.hid hG;have HJ:=Bas.hid hJ;have HY:=Bas.hid hY;have H0:=Bas.hid h0;obtain ⟨m,hm⟩:∃m,ps.length=m:=⟨_,rfl⟩;have HM:=Bas.hid hm;rw [hm] at c1 hps;clear hvl hlead hvals hok hG hJ hY h0 hm hBs hT;refine callsIn_of_wp Tryz.func166 rfl trivial ?_ rfl;simp only [Tryz.ntmps166,List.size_toArray,List.length_cons,List.length_nil,Nat.reduceAdd,Nat.reduceSub,Array.replicate_succ,Array.replicate_zero,List.push_toArray,List.append_toArray,List.nil_append,List.cons_append]
 gi_wp2
 gi_loopw [4,5,11] (fun _ _ vi wr=>∃(k:Nat) (pre:List (PairG G)),k≤m∧vi=.int .i64 k∧J pre wr∧pre.length≤k*131073∧KCells W wr) (fun _ _ vi _=>m - (intOf vi).toNat)
 case atStart=>exact ⟨0,[],Nat.zero_le _,rfl,H0.out,by simp,KCells.refl _⟩
 case round=>
  obtain ⟨k,pre,hk,rfl,hJs,hpl,hkc⟩:=hrel;have HJS:=Bas.hid hJs;have HKC:=Bas.hid hkc;clear H0;by_cases hlt:k<m
  ·have hlen:=HM.out;obtain ⟨p,hp⟩:∃p,ps[k]? =some p:=⟨_,List.getElem?_eq_getElem (by omega)⟩
   obtain ⟨u,hu⟩:∃u,vs[k]? =some u:=⟨_,List.getElem?_eq_getElem (by rw [HVL.out];omega)⟩
   have hva:=HVA.out k p u hp hu;have hz:(ps.zip vs)[k]? =some (p,u):=List.getElem?_zip_eq_some.2 ⟨hp,hu⟩;obtain ⟨B0,O0,cp0,hv0,hcl⟩:=Row.leads_elem prC_len HLD.out hz (by omega)
   obtain ⟨au,cu,rfl⟩:=Row.leads_slice hva;cases hv0;have q0:=hkc.cell (p:=⟨B0,O0+k*3,none⟩) (hcl 0 _ rfl);have q1:=hkc.cell (p:=⟨B0,O0+k*3+1,none⟩) (hcl 1 _ rfl);have q2:=hkc.cell (p:=⟨B0,O0+k*3+2,none⟩) (hcl 2 _ rfl);have HPO:=Bas.hid (HOK.out p (List.mem_of_getElem? hp));have HGP:=Bas.hid (HG.out p (List.mem_of_getElem? hp));have HVAP:=Bas.hid hva;have g1:=HPO.out.le;have g2:=HPO.out.first0;have g3:=HPO.out.last1;have hmany:Hid (manyG ps=(m+1)*131073):=by unfold Hid manyG;rw [HM.out]
   have hk8:=Bas.heap_new wr (.cells #[.int .i64 p.first,.int .i64 p.last,.slice au p.vals.length cu] 400);have HK8:=Bas.hid hk8;have HJ8:=Bas.hid (HJ.out pre wr _ none hJs (World.grownBy_alloc wr (.cells #[.int .i64 p.first,.int .i64 p.last,.slice au p.vals.length cu] 400) none) (fun r e=>by cases e))
   have HKC8:=Bas.hid (hkc.trans (KCells.alloc wr (.cells #[.int .i64 p.first,.int .i64 p.last,.slice au p.vals.length cu] 400)));have d0:=cell_of_heap (i:=0) hk8 rfl;clear hva hz hcl hlen hp hu hk8 hJs hkc HJS HKC
   gi_wp2
   generalize wr.alloc (.cells #[.int .i64 p.first,.int .i64 p.last,.slice au p.vals.length cu] 400)=w8 at*;generalize wr.heap.size=T8 at*
   gi_loopw [5] (fun vid wq=>∃(id:Int) (pre:List (PairG G)),vid=.int .i64 id∧p.first≤id∧id≤p.last+1∧J pre wq∧pre.length≤k*131073+(id - p.first).toNat∧KCells w8 wq) (fun vid _=>(p.last+1 - intOf vid).toNat)
   case atStart=>exact ⟨p.first,pre,rfl,Int.le_refl _,by omega,HJ8.out,Nat.le_trans hpl (Nat.le_add_right _ _),KCells.refl _⟩
   case round=>
    obtain ⟨id,pre2,rfl,hi1,hi2,hJq,hpq,hkq⟩:=hrel;have HJQ:=Bas.hid hJq;have HKQ:=Bas.hid hkq;have HK8q:=Bas.hid (hkq.2 _ _ HK8.out rfl);have z0:=cell_of_heap (i:=0) (v:=.int .i64 p.first) HK8q.out rfl;have z1:=cell_of_heap (i:=1) (v:=.int .i64 p.last) HK8q.out rfl;have z2:=cell_of_heap (i:=2) (v:=.slice au p.vals.length cu) HK8q.out rfl;clear hJq hkq;by_cases hle:id≤p.last
    ·have e1:decide (id≤p.last)=true:=by simp;omega
     have HAT:=Bas.hid (at_any p au cu id wr HPO.out hi1 hle ((HKC8.out.trans HKQ.out).leads HVAP.out))
     gi_wp2_with (refine ⟨trivial, ?_⟩;gi_at_call 167;refine (callsIn_wide.2 HAT.out).mono ?_)
     rintro e w3 ⟨rfl,hb3⟩;have HJ3:=Bas.hid (HJ.out _ wr w3 none HJQ.out (Bas.gbelow (Bas.grefl wr none) hb3) (fun r e=>by cases e))
     have HKQ3:=Bas.hid (HKQ.out.trans (KCells.below hb3));obtain ⟨fn,tmps,assign,body,hy,hR⟩:=HY.out pre2 ⟨(id,pnum p id),HGP.out id hi1 hle⟩ w3 HJ3.out (by rw [hmany.out];have h1:=Nat.mul_le_mul_right 131073 (show k+1≤m by omega);omega)
     dsimp only [encG] at hy
     clear hb3
     gi_wp2
     refine hR.mono ?_;rintro e w4 (⟨rfl,hJ4,hk4⟩|⟨rfl,hJx4⟩)
     ·gi_wp2
      go_roundw
      case rel=>exact ⟨id+1,_,by go_num,by omega,by omega,hJ4,by rw [List.length_append];simp only [List.length_cons,List.length_nil];omega,HKQ3.out.trans hk4⟩
      case measure=>simp [intOf];omega
     ·gi_wp2
      refine bodyPost_ret (results_none rfl _ _ _) rfl ?_;exact ⟨⟨_,rfl⟩,.inr ⟨_,trivial,hJx4⟩⟩
    ·have e1:decide (id≤p.last)=false:=by simp;omega
     gi_wp2
     go_roundw
     case rel=>exact ⟨k+1,pre2,by omega,by go_num,HJQ.out,by omega,HKC8.out.trans HKQ.out⟩
     case measure=>simp [intOf];omega
  ·obtain rfl:k=m:=by omega
   gi_wp2
   go_end0
   exact ⟨⟨_,rfl⟩,.inl ⟨_,trivial,HJS.out⟩⟩
end Lk
attribute [local go_sem] Oper.semAt_some
namespace Lk
open Vw Sk Ch
def PtsOk(ds:List Int)(q:Int):Prop:=0≤q∧q+4≤ds.length∧q+4+4*be ds q.toNat 4≤ds.length
theorem only_normal{F:Fence}{n:Nat}{P:Program}{c:Code}{Q:Exit→Act→World→Prop}{a:Act}{w:World}(h:c.wpIn F n P (fun e a w=>e=.normal∧Q .normal a w) a w):c.wpIn F n P Q a w:=
 Code.wpIn_mono (fun e a w k=>by obtain ⟨rfl,k⟩:=k;exact k) h
theorem rest_vb{u:World}{a:Option Addr}{bs:List Int}{len o:Nat}(hv:VB u a bs)(hbl:bs.length=len)(ho:o≤len):VB u (sub a o (len - o)) (bs.drop o):=by
 have h:=hv.sub o (len - o) (by omega)
 rwa [List.take_of_length_le (by rw [List.length_drop,hbl];exact Nat.le_refl _)] at h
theorem all_any(tp:Option Addr)(w:World):Calls Tryz.prog 109 #[.pointer tp] w fun e w'=>Below w.heap.size w w'∧∃B,w.heap.size≤B∧e=.returned (.func (.func 166) #[] #[.pointer (some ⟨B,0,none⟩)])∧w'.heap[B]? =some (.cells #[.pointer tp] 224 (0,0)):=by
 have hmf:∀(fn:Fn) (first cap:Array Value) (w:World),(Instr.makeFunc fn first cap).run Tryz.prog w=.ok (.func fn first cap) w:=fun _ _ _ _=>rfl
 have HB:=Bas.hid ((Below.refl w.heap.size w).alloc (Nat.le_refl _) (.cells #[.pointer tp] 224));have HK:=Bas.hid (Bas.heap_new w (.cells #[.pointer tp] 224));go_enter Tryz.func109,Tryz.ntmps109
 go_wp2_with (fail);go_ret;exact ⟨HB.out,_,Nat.le_refl _,rfl,HK.out⟩
theorem all_stops(G:Int→Prop)(n:Nat)(hn:1≤n)(Bs:Nat)(tv:Value)(ps:List PartD)(w:World)(hok:∀p∈ps,PartOk p)(hG:∀p∈ps,∀id,p.first≤id→id≤p.last→G (pnum p id))(hps:ps.length≤100000)(hBs:w.heap[Bs]? =some (.cells #[tv] 224 (0,0)))(ht:LkAt w tv ps):
  SeqStopsK Fence.wide n Tryz.prog 166 #[.pointer (some ⟨Bs,0,none⟩)] (encG (G:=G)) KCells (fun _=>True) (fun _=>True) (manyG ps) w:=
 fun l J Jx W hb hJ _ hY h0=>all1_in G n hn l Bs tv ps hok hG hps J Jx W hJ hY ((hb.block _ (heap_lt hBs)).trans hBs) (ht.below hb) h0
theorem cell_put{u:World}{g:Nat}{x y v:Value}{t:TypeId}{p:Addr}(hk:u.heap[g]? =some (.cells #[x] t (0,0)))(hc:u.cell? p=some v)(hv:v≠x):(u.setCell ⟨g,0,none⟩ y).cell? p=some v:=by
 have hb:p.block≠g:=by
  intro e;simp only [World.cell?,e,hk] at hc;rcases ho:p.off with _|n
  ·rw [ho] at hc;simp at hc;first|exact hv hc.2.symm|exact hv hc.1.symm
  ·rw [ho] at hc;simp at hc
 rw [World.cell?_of_block (Below.heap_setCell u ⟨g,0,none⟩ y p.block hb)];exact hc
theorem leads_put{u:World}{g n:Nat}{x y v:Value}{t:TypeId}{xs:List Value}(hk:u.heap[g]? =some (.cells #[x] t (0,0)))(hl:Row.Leads u v n xs)(hx:∀z∈xs,z≠x):Row.Leads (u.setCell ⟨g,0,none⟩ y) v n xs:=by
 rcases hl with hl|⟨ad,cp,h1,h2⟩
 ·exact .inl hl
 ·exact .inr ⟨ad,cp,h1,fun j z hz=>cell_put hk (h2 j z hz) (hx z (List.mem_of_getElem? hz))⟩
theorem lk_put{u:World}{g:Nat}{y v:Value}{ps:List PartD}(h:LkAt u v ps)(hk:u.heap[g]? =some (.cells #[.pointer none] 201 (0,0))):LkAt (u.setCell ⟨g,0,none⟩ y) v ps:=by
 obtain ⟨gt,fmt,vp,vs,h1,h2,h3,h4,h5⟩:=h;refine ⟨gt,fmt,vp,vs,h1,(Below.heap_setCell u ⟨g,0,none⟩ y gt (fun e=>by have e2:gt=g:=e;rw [e2,hk] at h2;cases h2)).trans h2,h3,leads_put hk h4 (fun z hz=> ?_),fun i p q hp hq=>leads_put hk (h5 i p q hp hq) (fun z hz=> ?_)⟩
 ·obtain ⟨⟨p,q⟩,hm,hz⟩:=List.mem_flatMap.1 hz;obtain ⟨i,hi⟩:=List.mem_iff_getElem?.1 hm;obtain ⟨hp,hq⟩:=List.getElem?_zip_eq_some.1 hi;obtain ⟨a,c,rfl⟩:=Row.leads_slice (h5 i p q hp hq);simp only [prC,List.mem_cons,List.not_mem_nil,or_false] at hz;rcases hz with rfl|rfl|rfl<;>exact fun e=>by cases e
 ·obtain ⟨q,_,rfl⟩:=List.mem_map.1 hz;exact fun e=>by cases e
def vAk(base:Nat)(ps:List PartD)(S:Value):Nat→Pl.VP
 |5=>fun v u=>∃tp,v=.pointer (some tp)∧Lives base (fun u=>LkAt u (.pointer (some tp)) ps) u
 |10=>fun v u=>∃tp,v=.agg #[.pointer (some tp),S]∧Lives base (fun u=>LkAt u (.pointer (some tp)) ps) u
 |11=>fun v u=>∃tp g,v=.pointer (some ⟨g,0,none⟩)∧base≤g∧u.heap[g]? =some (.cells #[.pointer (some tp),S] 226 (0,0))∧Lives base (fun u=>LkAt u (.pointer (some tp)) ps) u
 |_=>fun v u=>∃g,v=.pointer (some ⟨g,0,none⟩)∧base≤g∧u.heap[g]? =some (.cells #[.pointer none] 201 (0,0))
theorem akTake_ok(a:Option Addr)(len cap:Nat)(bs:List Int)(gl o1 o2:Nat)(ps:List PartD)(w:World)(hl:len≤cap)(hc:cap≤maxLen)(hv:VB w a bs)(hbl:bs.length=len)(hg1:1≤gl)(hg2:gl≤65536)(h12:12≤len)(hk:be bs 0 2=0)(h1:be bs 4 4=o1)(h2:be bs 8 4=o2)(hl1:o1≤len)(hl2:o2≤len)
  (hp:parseLk (bs.drop o1) gl 2=some ps) (hok:∀p∈ps,PartOk p) (hps:ps.length≤100000) (hG:∀p∈ps,∀id,p.first≤id→id≤p.last→PtsOk (bs.drop o2) (pnum p id)):
  Calls Tryz.prog 65 #[.agg #[.slice a len cap],.int .i64 gl] w fun e w'=>Below w.heap.size w w'∧∃g,e=.returned (.pointer (some ⟨g,0,none⟩)):=by
 have HB1:=Bas.hid ((Below.refl w.heap.size w).alloc (Nat.le_refl _) (.cells #[.slice a len cap] 190));have HK1:=Bas.hid (Bas.heap_new w (.cells #[.slice a len cap] 190));have HVB:=Bas.hid (fun u (h:Below w.heap.size w u)=>hv.below h)
 have HU0:=Bas.hid (fun u (h:Below w.heap.size w u)=>u16_ok a len cap bs 0 u hl hc (hv.below h) hbl (by omega) (by omega))
 have HU4:=Bas.hid (fun u (h:Below w.heap.size w u)=>u32_ok a len cap bs 4 u hl hc (hv.below h) hbl (by omega) (by omega))
 have HU8:=Bas.hid (fun u (h:Below w.heap.size w u)=>u32_ok a len cap bs 8 u hl hc (hv.below h) hbl (by omega) (by omega))
 have HR1:=Bas.hid (fun u=>rest_ok a len cap (o1:Int) u hl hc (by omega) (by omega))
 have HR2:=Bas.hid (fun u=>rest_ok a len cap (o2:Int) u hl hc (by omega) (by omega))
 simp only [Int.toNat_natCast,show (0:Int).toNat=0 from rfl,show (4:Int).toNat=4 from rfl,show (8:Int).toNat=8 from rfl] at HU0 HU4 HU8 HR1 HR2
 rw [hk] at HU0;rw [h1] at HU4;rw [h2] at HU8;refine callsIn_wide (n:=20).1 ?_;refine callsIn_of_wp_marks Tryz.func65 rfl trivial ?_ rfl;simp only [Tryz.ntmps65,List.size_toArray,List.length_cons,List.length_nil,Nat.reduceAdd,Nat.reduceSub,Array.replicate_succ,Array.replicate_zero,List.push_toArray,List.append_toArray,List.nil_append,List.cons_append];have c1:=cell_of_heap (i:=0) (v:=.slice a len cap) HK1.out rfl
 gi_wp2_with (refine ⟨trivial, ?_⟩;gi_at_call 103;refine (callsIn_wide.2 (HU0.out _ HB1.out)).mono ?_)
 rintro e w2 ⟨rfl,hb2⟩;have HB2:=Bas.hid (HB1.out.trans (hb2.mono HB1.out.size));have HK2:=Bas.hid ((hb2.block _ (heap_lt HK1.out)).trans HK1.out);clear hb2 HB1 HK1 c1 HU0
 gi_wp2_with (refine ⟨trivial, ?_⟩;gi_at_call 56;refine (callsIn_wide.2 (need_yesb _ _ (by first|rfl|(simp;done)|(simp;omega)))).mono ?_;rintro e w' ⟨rfl,rfl⟩)
 have lV:=heap_lt HK2.out;have cV:=cell_of_heap (i:=0) (v:=.slice a len cap) HK2.out rfl;have HLK:=Bas.hid (fun u (h:Below w.heap.size w u)=>lkTake_any (sub a o1 (len - o1)) (len - o1) (len - o1) (bs.drop o1) gl 2 u (Nat.le_refl _) (by omega) (rest_vb (hv.below h) hbl hl1) (by rw [List.length_drop,hbl]) (by omega) hg1 hg2)
 have HP:=Bas.hid hp;have HDS:Hid ((bs.drop o2).length≤9223372036854775000):=by unfold Hid;rw [List.length_drop,hbl];have:=hv.len;omega
 have HW2:=Bas.hid HB2.out.size;refine only_normal (wpIn_wide.2 ?_);refine' Pl.region_vd 59 [] [0,1,2,3,4,6,7,8,9] [(5,20),(12,5),(10,25),(11,26)] [13] (fun i=>if i=10 then [(5,20)] else if i=11 then [(10,25)] else []) _ (vAk w2.heap.size ps (.slice (sub a o2 (len - o2)) (len - o2) (len - o2)))
  (by kernel_rfl) (by kernel_rfl) (by kernel_rfl) (by simp) (fun _ _ _ _ e h=>by cases h.1) ?_ ?_ ?_ ?_
 rotate_left
 ·intro I F hI hF;simp only [Pl.selN,List.nil_append,List.drop_succ_cons,List.drop_zero];have x1:=fun q=>hF.cell lV cV q
  repeat (go_big_quiet_step ((first|(go_at_call 104;first|with_reducible exact hF.call (HU4.out _ (hF.on HB2.out _))|with_reducible exact hF.call (HU8.out _ (hF.on HB2.out _)))|(go_at_call 107;first|with_reducible exact hF.call (HR1.out _)|with_reducible exact hF.call (HR2.out _)))))
  refine wpQuiet_nil ?_;rfl
 ·intro x hx v u u' h1 hb1 hb2;simp only [List.mem_cons,List.not_mem_nil,or_false] at hx;rcases hx with rfl|rfl|rfl|rfl
  ·obtain ⟨tp,q1,q2⟩:=h1;exact ⟨tp,q1,q2.below hb2⟩
  ·obtain ⟨g,q1,q2,q3⟩:=h1;exact ⟨g,q1,q2,(hb2.block g (heap_lt q3)).trans q3⟩
  ·obtain ⟨tp,q1,q2⟩:=h1;exact ⟨tp,q1,q2.below hb2⟩
  ·obtain ⟨tp,g,q1,q2,q3,q4⟩:=h1;exact ⟨tp,g,q1,q2,(hb2.block g (heap_lt q3)).trans q3,q4.below hb2⟩
 ·intro x hx o ho f u hu hd;simp only [List.mem_cons,List.not_mem_nil,or_false] at hx;rcases hx with rfl|rfl|rfl|rfl
  ·simp only [Pl.selN,List.drop_succ_cons,List.drop_zero,List.mem_singleton] at ho;subst ho
   go_simp
   simp only [Pl.valsAt];refine (HLK.out u (HB2.out.trans (hu.mono HB2.out.size))).mono ?_;rintro e w'' ⟨hb,he⟩;rw [HP.out] at he;obtain ⟨v,rfl,hl⟩:=he;obtain ⟨g,_,_,_,rfl,_⟩:=hl.now;exact .inl ⟨_,rfl,hb,⟨g,0,none⟩,rfl,hl.mono hu.size⟩
  ·simp only [Pl.selN,List.drop_succ_cons,List.drop_zero,List.mem_singleton] at ho;subst ho
   go_simp
   simp only [Pl.valsAt];exact ⟨(Below.refl _ _).alloc (Nat.le_refl _) _,_,rfl,hu.size,Bas.heap_new _ _⟩
  ·simp only [Pl.selN,List.drop_succ_cons,List.drop_zero,List.mem_singleton] at ho;subst ho;obtain ⟨tp,q1,q2⟩:=hd (5,20) (by simp)
   simp only at q1;simp only [if_true,List.foldl_cons,List.foldl_nil,Act.put,List.setIfInBounds_toArray,List.set_cons_zero,List.set_cons_succ,q1]
   go_simp
   simp only [Pl.valsAt];exact ⟨Below.refl _ _,tp,rfl,q2⟩
  ·simp only [Pl.selN,List.drop_succ_cons,List.drop_zero,List.mem_singleton] at ho;subst ho;obtain ⟨tp,q1,q2⟩:=hd (10,25) (by simp)
   simp only at q1;simp only [if_true,Act.put]
   go_simp
   simp only [Pl.valsAt];exact ⟨(Below.refl _ _).alloc (Nat.le_refl _) _,tp,_,rfl,hu.size,Bas.heap_new _ _,q2.below ((Below.refl _ _).alloc (Nat.le_refl _) _)⟩
 ·intro f u hu hV;obtain ⟨tp,q1,-⟩:=hV (5,20) (by simp)
  obtain ⟨g5,k1,k2,k3⟩:=hV (12,5) (by simp)
  obtain ⟨tq,r1,-⟩:=hV (10,25) (by simp)
  obtain ⟨tr,g,s1,s2,s3,s4⟩:=hV (11,26) (by simp)
  simp only at q1 k1 r1 s1;simp only [Pl.selN,List.drop_succ_cons,List.drop_zero,List.foldl_cons,List.foldl_nil,Act.put,List.setIfInBounds_toArray,List.set_cons_zero,List.set_cons_succ,q1,k1,r1,s1];have HBU:=Bas.hid (HB2.out.trans (hu.mono HB2.out.size));have hne:g5≠g:=fun e=>by rw [e,s3] at k3;cases k3
  have HK5:=Bas.hid k3;have HKG:=Bas.hid s3;have HLT:=Bas.hid s4;have c5:=cell_of_heap (i:=0) (v:=.pointer none) k3 rfl;have f5:=free_of_heap (i:=0) k3;have l5:=heap_lt k3;have HLX:=Bas.hid (lk_put (y:=.pointer (some ⟨g,0,none⟩)) s4.now k3);have HK5X:Hid ((u.setCell ⟨g5,0,none⟩ (.pointer (some ⟨g,0,none⟩))).heap[g5]? =some (.cells #[.pointer (some ⟨g,0,none⟩)] 201 (0,0))):=by unfold Hid;have k:=heap_set (i:=0) k3 (.pointer (some ⟨g,0,none⟩));exact k
  have HKGX:=Bas.hid ((Below.heap_setCell u ⟨g5,0,none⟩ (.pointer (some ⟨g,0,none⟩)) g (fun e=>hne e.symm)).trans s3)
  have HBX:Hid (Below w.heap.size w (u.setCell ⟨g5,0,none⟩ (.pointer (some ⟨g,0,none⟩)))):=HBU.out.setCell (by have:=HW2.out;show w.heap.size≤g5;omega) _
  clear q1 k1 r1 s1 hV k3 s3 s4 HLT HK5 HKG HBU;go_wp2_with (fail);clear c5 f5 l5;generalize u.setCell ⟨g5,0,none⟩ (.pointer (some ⟨g,0,none⟩))=X at*;have hmm:= @run_makeMap Tryz.prog;have c5:=cell_of_heap (i:=0) (v:=.pointer (some ⟨g,0,none⟩)) HK5X.out rfl;have l5:=heap_lt HK5X.out;have cg:=cell_of_heap (i:=0) (v:=.pointer (some tr)) HKGX.out rfl;have lg:=heap_lt HKGX.out;have HAL:=Bas.hid (all_any (some tr) ((X.alloc (.map #[] 0)).alloc (.cells #[.map (some X.heap.size)] 314)))
  gi_wp2_with (refine ⟨trivial, ?_⟩;gi_at_call 109;refine (callsIn_wide.2 HAL.out).mono ?_)
  rintro e w5 ⟨hb5,B,hB,rfl,hkB⟩;have hbA:=((Below.refl X.heap.size X).alloc (Nat.le_refl _) (.map #[] 0)).alloc (by simp) (.cells #[.map (some X.heap.size)] 314)
  have hsA:((X.alloc (.map #[] 0)).alloc (.cells #[.map (some X.heap.size)] 314)).heap.size=X.heap.size+1+1:=by simp
  have hb05:Below X.heap.size X w5:=hbA.trans (hb5.mono hbA.size);have HK5R:=Bas.hid ((hb05.block _ (heap_lt HK5X.out)).trans HK5X.out);have HKGR:=Bas.hid ((hb05.block _ (heap_lt HKGX.out)).trans HKGX.out);have HBR:=Bas.hid (HBX.out.trans (hb05.mono HBX.out.size));have HLR:=Bas.hid (HLX.out.below hb05);have HMR:Hid (w5.ownsMap (H:=Unit) Tryz.prog 3 unitElem X.heap.size 0 (.map [])):=((World.ownsMap_made X Tryz.prog 3 unitElem).alloc (.cells #[.map (some X.heap.size)] 314)).kept (Bas.gbelow (Bas.grefl _ none) hb5) (by simp)
  have HK6R:Hid (w5.heap[X.heap.size+1]? =some (.cells #[.map (some X.heap.size)] 314 (0,0))):=(hb5.block _ (by rw [hsA];omega)).trans (Bas.heap_new2 X _ _)
  have HKBR:=Bas.hid hkB;have HSZ:Hid (X.heap.size+1+1≤w5.heap.size):=by have:=hb5.size;unfold Hid;omega
  have HXW:Hid (w.heap.size≤X.heap.size):=HBX.out.size;clear c5 l5 cg lg HAL hbA hb05 hb5 hkB hB hmm HK5X HKGX HBX HLX
  gi_wp2
  refine wpIn_rangeFunc_ownG (w:=w5) rfl (by omega) (gf:=166) (lb:=#[.pointer (some ⟨B,0,none⟩)]) rfl trivial (enters_of Tryz.func166 (by kernel_rfl) rfl)
   (all_stops (PtsOk (bs.drop o2)) (20 - 1) (by omega) B (.pointer (some tr)) ps w5 hok hG hps HKBR.out HLR.out) KCells.trans (fun W l o o' _ h hc _=>KCells.grown (grownBy_putObj' W l o') (fun r o2 e h2=>by cases e;rw [h] at h2;cases h2;exact hc)) (Below.refl _ _) (fun _=>rfl)
   (fun pre W=>KCells w5 W∧(∃D,W.ownsMap (H:=Unit) Tryz.prog 3 unitElem X.heap.size pre.length D)∧Below w.heap.size w W) (fun _ _ _=>False)
   (fun s A' B' row hs hg hr => ⟨hs.1.trans (KCells.grown hg (fun r o e h => by obtain ⟨_, o', ho', hc⟩ := hr r e; rw [h] at ho'; cases ho'; exact hc)), (by
    obtain ⟨D,hD⟩:=hs.2.1;exact ⟨D,hD.kept hg (fun e=>by have:=(hr _ e.symm).1;have:=HSZ.out;omega)⟩),hs.2.2.grown hg hs.2.2.size (fun k e=>by have:=(hr _ e).1;have:=HBR.out.size;omega)⟩)
   (fun _ _ _ _ _ hs _ _=>hs)
   ⟨KCells.refl _,⟨_,HMR.out⟩,HBR.out⟩ ?a1 ?assign ?body ?done ?stop
  case assign=>
   intro l x W K hK
   gi_wp2
   exact hK
  case body=>
   rintro l pre x W ⟨hKC,⟨D,hD⟩,hBl⟩ hlen;obtain ⟨⟨id,q⟩,hq0,hq1,hq2⟩:=x;have hds:=HDS.out;have hp0:0≤q:=hq0;have hp1:q+4≤((bs.drop o2).length:Int):=hq1;have hwq:wrap64 q=q:=by unfold wrap64;omega
   have hwf:(Lit.int .i64 q).wf=true:=hwq▸wrap64_wf q;have hp2:q+4+4*be (bs.drop o2) q.toNat 4≤((bs.drop o2).length:Int):=hq2;have HKC:=Bas.hid hKC;have HBL:=Bas.hid hBl;have c6:=cell_of_heap (i:=0) (v:=.map (some X.heap.size)) (hKC.2 _ _ HK6R.out rfl) rfl;have l6:=heap_lt (hKC.2 _ _ HK6R.out rfl);have hlen2:pre.length<9223372036854775807:=by
    have h1:manyG ps≤100001*131073:=Nat.mul_le_mul_right _ (by omega)
    omega
   have HLE:=Bas.hid (HSZ.out);clear hKC hBl hlen;cases hhas:Maps.has D (.int .i64 q) with
   |true=>
    gi_wp2_with (gi_at_lookup;refine wpListIn_lookup_own_unit _ rfl _ _ 314 rfl 3 281 (Maps.int_keyed Tryz.underlying3) Tryz.underlying314 (Tryz.zeroValue281 _) X.heap.size pre.length D rfl hD _ _ rfl (Maps.keyOf_int_mk Tryz.underlying3 hwf) ?_)
    exact ⟨(KeepsOthers.alloc _ _).from _,KCells.alloc _ _,HKC.out.trans (KCells.alloc _ _),⟨D,(hD.alloc _).mono (by simp)⟩,HBL.out.alloc HBL.out.size _⟩
   |false=>
    have hD1:=hD.alloc (.cells #[] 281)
    gi_wp2_with (first|(gi_at_lookup;refine wpListIn_lookup_own_unit _ rfl _ _ 314 rfl 3 281 (Maps.int_keyed Tryz.underlying3) Tryz.underlying314 (Tryz.zeroValue281 _) X.heap.size pre.length D rfl hD _ _ rfl (Maps.keyOf_int_mk Tryz.underlying3 hwf) ?_)|(gi_at_mapUpdate;refine wpListIn_mapUpdate_own _ rfl _ _ _ 314 rfl 3 281 (Maps.int_keyed Tryz.underlying3) Tryz.underlying314 _ X.heap.size pre.length D rfl hD1 (by unfold maxLen;omega) _ _ _ rfl rfl (Maps.keyOf_int_mk Tryz.underlying3 hwf) _ [] unitElem_mk ?_))
    intro w1 hown1 hgrow1;have HKC1:=Bas.hid ((KCells.alloc W (.cells #[] 281)).trans (KCells.grown hgrow1 (fun r o e h=>by
     cases e;obtain ⟨es,clock,hb,_⟩:=hD1;rw [hb] at h;cases h;rfl)))
    have HKF1:=Bas.hid (((KeepsOthers.alloc W (.cells #[] 281)).from w5.heap.size).trans (KeepsFrom.of_grownBy hgrow1 (fun j e=>by cases e;have:=HSZ.out;omega)))
    have HBL1:=Bas.hid ((HBL.out.alloc HBL.out.size (.cells #[] 281)).grown hgrow1 (by have:=HBL.out.size;simp;omega) (fun k e=>by cases e;exact HXW.out))
    have HM1:=Bas.hid hown1;have HKW1:=Bas.hid (HKC.out.trans HKC1.out);clear hD1 hown1 hgrow1 hD c6 l6 HKC HBL
    gi_wp2
    refine only_normal ?_;obtain ⟨RI,RF,Ri,RF0,RFk,RFw⟩:=Pl.fam_of w1 (fun u=>u.heap[g5]? =some (.cells #[.pointer (some ⟨g,0,none⟩)] 201 (0,0))∧u.heap[g]? =some (.cells #[.pointer (some tr),.slice (sub a o2 (len - o2)) (len - o2) (len - o2)] 226 (0,0))) ⟨HKW1.out.2 _ _ HK5R.out rfl,HKW1.out.2 _ _ HKGR.out rfl⟩
    have RFH:=Bas.hid RF0;have RhI:Nonempty RI:=⟨Ri⟩;have RFW:=Bas.hid RFw;have t0:=fun i=>cell_of_heap (i:=0) (v:=.pointer (some ⟨g,0,none⟩)) (RFk i).1 rfl
    have t1:=fun i=>cell_of_heap (i:=1) (v:=.slice (sub a o2 (len - o2)) (len - o2) (len - o2)) (RFk i).2 rfl
    clear RF0 RFw RFk;refine Pl.region_plan0_in Ri [(true,0),(true,1),(true,2),(true,3),(true,4),(true,5),(true,6),(true,7),(true,8),(true,9),(true,10),(false,11),(false,12)] [12] (by kernel_rfl) (by kernel_rfl) (fun ⟨_,_,h⟩=>by cases h.1) (by kernel_rfl) (fun _ _ _ _ _ h=>by cases h.1) RFH.out ?_
    refine Pl.head_sel0 [(true,0),(true,1),(true,2),(true,3),(true,4),(true,5),(true,6),(true,7),(true,8),(true,9),(true,10)] (by kernel_rfl) (by kernel_rfl) ?_
    simp only [Pl.sel,List.drop_succ_cons,List.drop_zero];repeat (go_big_quiet_step (fail))
    refine wpQuiet_nil ?_;rw [←RFH.out];clear t0 t1 RFH;refine Pl.one_sel (by kernel_rfl) ?_
    intro Q1 hQ1 hP1;simp only [Pl.sel,List.drop_succ_cons,List.drop_zero];go_wp2_with (fail);obtain ⟨m,hm⟩:∃m,len - o2=m:=⟨_,rfl⟩;have hml:(bs.drop o2).length=m:=by rw [List.length_drop,hbl];exact hm
    have HVD:=Bas.hid (fun u (h:Below w.heap.size w u)=>hm▸rest_vb (HVB.out u h) hbl hl2)
    rw [hm];rw [hml] at hds hp1 hp2;have hmc:m≤maxLen:=by omega
    have hBd:Below w.heap.size w w1.drew:=HBL1.out.drew;refine (u32_ok (sub a o2 m) m m (bs.drop o2) q w1.drew (Nat.le_refl _) hmc (HVD.out _ hBd) hml hp0 hp1).mono ?_;rintro e w2b ⟨rfl,hb2b⟩;have HB2b:=Bas.hid (show Below w1.heap.size w1 w2b from (show Below w1.heap.size w1 w1.drew from (Below.refl _ _).drew).trans hb2b)
    have hcb:=be_rng4 (hv.byte) 0 4 (by omega)
    have hcb2:=be_rng4 (bs:=bs.drop o2) (fun x hx=>hv.byte x (List.mem_of_mem_drop hx)) q.toNat 4 (by omega)
    obtain ⟨c,hcc⟩:∃c,be (bs.drop o2) q.toNat 4=c:=⟨_,rfl⟩;rw [hcc] at hcb2 hp2 ⊢;go_wp2_with (fail);refine hQ1 _ _ (fun _ _=>RFW.out _ ⟨(HB2b.out.block _ (heap_lt (HKW1.out.2 _ _ HK5R.out rfl))).trans (HKW1.out.2 _ _ HK5R.out rfl),(HB2b.out.block _ (heap_lt (HKW1.out.2 _ _ HKGR.out rfl))).trans (HKW1.out.2 _ _ HKGR.out rfl)⟩) ?_
    clear hQ1 hP1 Q1 RFW RhI Ri;refine Pl.tail_sel [(false,12)] (by kernel_rfl) (by kernel_rfl) ?_
    simp only [Pl.sel,List.drop_succ_cons,List.drop_zero];go_wp2_with (fail);refine (rows_ok (sub a o2 m) m m (q+4) c 4 w2b (Nat.le_refl _) hmc ⟨by omega,by omega,.inr (by omega),by omega,by omega⟩).mono ?_
    rintro e w3b ⟨rfl,hb3b⟩;have HB3:=Bas.hid (HB2b.out.trans (hb3b.mono HB2b.out.size));go_wp2_with (fail);exact ⟨HKF1.out.trans (KeepsFrom.of_grownBy (Bas.gbelow (Bas.grefl w1 none) HB3.out) (fun j e=>by cases e)),HKC1.out.trans (KCells.below HB3.out),HKW1.out.trans (KCells.below HB3.out),⟨_,by rw [List.length_append];exact HM1.out.kept (Bas.gbelow (Bas.grefl w1 none) HB3.out) (by simp)⟩,HBL1.out.trans (HB3.out.mono HBL1.out.size)⟩
  case done=>
   rintro D' ys W hD' _ ⟨hKC,⟨D,hD⟩,hBl⟩ hK';have c5:=cell_of_heap (i:=0) (v:=.pointer (some ⟨g,0,none⟩)) (hKC.2 _ _ HK5R.out rfl) rfl
   gi_wp2
   refine ⟨by simp,.inl ⟨_,_,rfl,run_takeDeferred hK', ?_⟩⟩
   exact ⟨_,results_tmp rfl _ _ _,hBl.trans (belowK_b (w:=w) (Nat.le_refl _) W D' _ _ (by have:=HBR.out.size;omega) hK' rfl rfl),_,rfl⟩
  case stop=>
   rintro D' c pre W _ _ h _;exact h.elim
end Lk
end Go.Proofs.YtceihjjjmcgmaaaGreat
namespace Go.Proofs.YtceihjjjmcgmaaaGreat
open Go.RowKit
namespace Sh
open Vw Wr Ch Lk
theorem ofA_pre(l:List (List (Int×Int)))(i:Nat):∀n,i+1≤n→∃rest,ofA l n=ofA l i++(offA l i++rest)
 |0,h=>absurd h (by omega)
 |n+1,h=>by
  by_cases e:i=n
  ·subst e;exact ⟨[],by rw [ofA_succ,List.append_nil]⟩
  ·obtain ⟨r,hr⟩:=ofA_pre l i n (by omega)
   exact ⟨r++offA l n,by rw [ofA_succ,hr];simp only [List.append_assoc]⟩
theorem ankrW_drop(l:List (List (Int×Int))):(ankrW l).drop 12=ofA l l.length++l.flatMap aptsB∧(ankrW l).drop (18+2*l.length)=l.flatMap aptsB:=by
 have e:ankrW l=([0,0,0,0,0,0,0,12]++putB (12+((ofA l l.length).length:Int)) 4)++(ofA l l.length++l.flatMap aptsB):=by unfold ankrW;simp only [List.append_assoc]
 have h12:([0,0,0,0,0,0,0,12]++putB (12+((ofA l l.length).length:Int)) 4).length=12:=by rw [List.length_append,putB_len];rfl
 have h1:(ankrW l).drop 12=ofA l l.length++l.flatMap aptsB:=by rw [e];exact List.drop_left' h12
 refine ⟨h1, ?_⟩;rw [show 18+2*l.length=12+(6+2*l.length) by omega,←List.drop_drop,h1]
 exact List.drop_left' (ofA_len l _)
theorem ankrW_nums(l:List (List (Int×Int)))(hl:l.length≤30):be (ankrW l) 0 2=0∧be (ankrW l) 4 4=12∧be (ankrW l) 8 4=((18+2*l.length:Nat):Int)∧18+2*l.length≤(ankrW l).length:=by
 have e:ankrW l=[0,0,0,0,0,0,0,12]++(putB (12+((ofA l l.length).length:Int)) 4++(ofA l l.length++l.flatMap aptsB)):=by unfold ankrW;simp only [List.append_assoc]
 have hl2:=ofA_len l l.length;refine ⟨by rw [e];rfl,by rw [e];rfl, ?_, ?_⟩
 ·have hbm:=be_mid [0,0,0,0,0,0,0,12] (ofA l l.length++l.flatMap aptsB) (12+((ofA l l.length).length:Int)) 4 8 rfl (by omega) (by omega)
  rw [e,hbm];omega
 ·rw [e];simp only [List.length_append,putB_len,List.length_cons,List.length_nil];omega
theorem off_back(l:List (List (Int×Int)))(hl:l.length≤30)(hok:∀s∈l,s.length≤30)(i:Nat)(hi:i<l.length):be (ofA l l.length++l.flatMap aptsB) (6+2*i) 2=((((l.take i).flatMap aptsB).length:Nat):Int):=by
 obtain ⟨r,hr⟩:=ofA_pre l i l.length (by omega)
 have h:=apts_pre l hok i (by omega)
 rw [hr,List.append_assoc,List.append_assoc];exact be_mid _ _ _ _ _ (ofA_len l i).symm (by omega) (by omega)
theorem pts_back(l:List (List (Int×Int)))(hok:∀s∈l,s.length≤30)(i:Nat)(hi:i<l.length):PtsOk (l.flatMap aptsB) ((((l.take i).flatMap aptsB).length:Nat):Int):=by
 obtain ⟨s,hs⟩:∃s,l[i]? =some s:=⟨_,List.getElem?_eq_getElem hi⟩;have hcut:=Fo.cut_at l i s hs;have e:l.flatMap aptsB=(l.take i).flatMap aptsB++(putB (s.length:Int) 4++(s.flatMap aptB++(l.drop (i+1)).flatMap aptsB)):=by
  conv=>lhs;rw [hcut]
  rw [List.flatMap_append,List.flatMap_cons,aptsB,List.append_assoc]
 have hs30:=hok s (List.mem_of_getElem? hs);have hb:be (l.flatMap aptsB) ((((l.take i).flatMap aptsB).length:Nat):Int).toNat 4=(s.length:Int):=by
  rw [Int.toNat_natCast,e];exact be_mid _ _ _ _ _ rfl (by omega) (by omega)
 have hlen:(l.flatMap aptsB).length=((l.take i).flatMap aptsB).length+(4+(4*s.length+((l.drop (i+1)).flatMap aptsB).length)):=by
  conv=>lhs;rw [e]
  simp only [List.length_append,putB_len,aptL_len]
 refine ⟨by omega,by omega, ?_⟩
 rw [hb];omega
def ankrParts(l:List (List (Int×Int))):List Lk.PartD:=if l.length=0 then [] else [⟨0,(l.length:Int) - 1,(List.range l.length).map fun i=>be (ofA l l.length++l.flatMap aptsB) (6+2*i) 2⟩]
theorem lk_back(l:List (List (Int×Int)))(hl:l.length≤30)(g:Nat):parseLk ((ankrW l).drop 12) g 2=some (ankrParts l):=by
 rw [(ankrW_drop l).1];have hl2:=ofA_len l l.length;have e:ofA l l.length++l.flatMap aptsB=putB 8 2++(putB 0 2++(putB (l.length:Int) 2++((List.range l.length).flatMap (offA l)++l.flatMap aptsB))):=by unfold ofA ofH;simp only [List.append_assoc]
 have b0:=be_mid [] (putB 0 2++(putB (l.length:Int) 2++((List.range l.length).flatMap (offA l)++l.flatMap aptsB))) 8 2 0 rfl (by omega) (by omega)
 have b2:=be_mid (putB 8 2) (putB (l.length:Int) 2++((List.range l.length).flatMap (offA l)++l.flatMap aptsB)) 0 2 2 (by simp [putB_len]) (by omega) (by omega)
 have b4:=be_mid (putB 8 2++putB 0 2) ((List.range l.length).flatMap (offA l)++l.flatMap aptsB) (l.length:Int) 2 4 (by simp [putB_len]) (by omega) (by omega)
 rw [List.nil_append,←e] at b0;rw [←e] at b2;rw [List.append_assoc,←e] at b4;have hlen:6+2*l.length≤(ofA l l.length++l.flatMap aptsB).length:=by rw [List.length_append];omega
 have ht:trimL (ofA l l.length++l.flatMap aptsB) 2 2=some (ankrParts l):=by
  unfold trimL listL ankrParts;rw [b2,b4,Int.toNat_natCast,if_pos ⟨by omega,by omega⟩,if_pos (by omega)]
  simp only [Option.map_some];by_cases h0:l.length=0
  ·rw [if_pos h0,if_pos (by omega)]
  ·rw [if_neg h0,if_neg (by omega)]
   simp only [Int.zero_add]
 unfold parseLk formL;rw [if_pos (by omega),b0,if_neg (by omega),if_neg (by omega),if_neg (by omega),if_neg (by omega),if_pos rfl,ht]
 simp only [Option.bind_some];rw [if_pos];unfold ankrParts;split<;>rfl
theorem ankrParts_ok(l:List (List (Int×Int)))(hl:l.length≤30):∀p∈ankrParts l,PartOk p:=by
 intro p hp;unfold ankrParts at hp;split at hp
 ·cases hp
 ·rename_i h0
  simp only [List.mem_singleton] at hp;subst hp;have hbyt:∀x∈ofA l l.length++l.flatMap aptsB,0≤x∧x≤255:=((((byt_put _ _).app (byt_put _ _)).app (byt_put _ _)).app (Byt.flat fun _ _=>byt_put _ _)).app (byt_pts l)
  refine ⟨by simp only;omega,by simp only;omega,by simp only;omega,by simp only [List.length_map,List.length_range];omega,by simp only [List.length_map,List.length_range];omega,fun x hx=> ?_⟩
  obtain ⟨i,_,rfl⟩:=List.mem_map.1 hx;exact be_rng4 hbyt _ _ (by omega)
theorem ankrParts_pts(l:List (List (Int×Int)))(hl:l.length≤30)(hok:∀s∈l,s.length≤30):∀p∈ankrParts l,∀id,p.first≤id→id≤p.last→PtsOk (l.flatMap aptsB) (pnum p id):=by
 intro p hp id h1 h2;unfold ankrParts at hp;split at hp
 ·cases hp
 ·rename_i h0
  simp only [List.mem_singleton] at hp;subst hp;simp only at h1 h2;obtain ⟨i,rfl⟩:=Int.eq_ofNat_of_zero_le h1;have hi:i<l.length:=by omega
  have e:pnum ⟨0,(l.length:Int) - 1,(List.range l.length).map fun i=>be (ofA l l.length++l.flatMap aptsB) (6+2*i) 2⟩ (i:Int)=be (ofA l l.length++l.flatMap aptsB) (6+2*i) 2:=by
   unfold pnum;simp only [List.length_map,List.length_range];rw [show (min ((i:Int) - 0) ((l.length:Int) - 1)).toNat=i by omega,List.getD_eq_getElem?_getD,List.getElem?_map,List.getElem?_range hi]
   rfl
  rw [e,off_back l hl hok i hi];exact pts_back l hok i hi
theorem rdAnkr_any(l:List (List (Int×Int)))(hl:l.length≤30)(hok:∀s∈l,s.length≤30)(g:Nat)(hg1:1≤g)(hg2:g≤65535):RdP Value.pointer 64 capG (ankrW l) g true (fun _ _ _=>True):=by
 intro bG X base w hv hX hG hb;obtain ⟨n0,n4,n8,n12⟩:=ankrW_nums l hl;obtain ⟨d1,d2⟩:=ankrW_drop l;have hlen:=hv.len;obtain ⟨ds,hds⟩:∃ds,ankrW l=ds:=⟨_,rfl⟩;obtain ⟨n,hn⟩:∃n,ds.length=n:=⟨_,rfl⟩;have hb1:=(Below.refl w.heap.size w).alloc (Nat.le_refl _) (.cells #[.slice X n n] 190);have HB1:=Bas.hid hb1;have hT:Calls Tryz.prog 65 #[.agg #[.slice X n n],.int .i64 g] (w.alloc (.cells #[.slice X n n] 190)) fun e w'=>Below (w.alloc (.cells #[.slice X n n] 190)).heap.size (w.alloc (.cells #[.slice X n n] 190)) w'∧∃g,e=.returned (.pointer (some ⟨g,0,none⟩)):=by
  have hlk:=lk_back l hl g;rw [hds] at n0 n4 n8 n12 d1 d2 hlk hv hlen;exact akTake_ok X n n ds g 12 (18+2*l.length) (ankrParts l) _ (Nat.le_refl _) (by unfold maxLen;omega) (hv.below hb1) hn hg1 (by omega) (by omega) n0 (by omega) n8 (by omega) (by omega) hlk (ankrParts_ok l hl) (by unfold ankrParts;split<;>simp) (by rw [d2];exact ankrParts_pts l hl hok)
 have HT:=Bas.hid hT;have c0:=cell_of_heap (i:=0) (v:=.slice X n n) (Bas.heap_new w (.cells #[.slice X n n] 190)) rfl;have l0:w.heap.size<(w.alloc (.cells #[.slice X n n] 190)).heap.size:=by simp
 have cG:=cell_of_heap (i:=0) (v:=.int .i64 g) ((hb1.block _ (heap_lt hG)).trans hG) rfl;rw [hds,hn];clear hT n0 n4 n8 n12 d1 d2 hlen hv hX hb hb1 hds hn;show Calls Tryz.prog 64 #[.agg #[.slice X n n],.pointer (some ⟨bG,0,none⟩)] w _
 go_enter Tryz.func64,Tryz.ntmps64
 go_wp2_with (fail);generalize w.alloc (.cells #[.slice X n n] 190)=w1 at*;refine HT.out.mono ?_;rintro e w2 ⟨hb2,gg,rfl⟩;have HE:Hid (TabP Value.pointer base true (fun _ _=>True) w (.returned (.pointer (some ⟨gg,0,none⟩))) w2):=⟨HB1.out.trans (hb2.mono HB1.out.size),fun _=>⟨_,rfl,fun _ _=>trivial⟩,fun h=>by cases h⟩
 clear hb2 HT c0 l0 cG;go_wp2_with (fail);go_ret;exact HE.out
end Sh
namespace Ref01
open Vw
def rowsR(size at' n row:Int):Prop:=0≤at'∧0≤n∧0≤row∧at'≤size∧(row=0∨n≤(size - at') / row)
theorem rowsR_iff(len:Nat)(at' n row:Int):rowsR len at' n row↔rowsB len at' n row:=by
 constructor
 ·rintro ⟨h1,h2,h3,h4,h5⟩;rcases h5 with h5|h5
  ·subst h5;exact ⟨h2,h3,.inl rfl,h1,by rw [Int.mul_zero];omega⟩
  ·by_cases hr:row=0
   ·subst hr;exact ⟨h2,h3,.inl rfl,h1,by rw [Int.mul_zero];omega⟩
   ·have h6:n*row≤len - at':=(Int.le_ediv_iff_mul_le (by omega)).1 h5
    exact ⟨h2,h3,.inr ((Int.le_ediv_iff_mul_le (by omega)).2 (by omega)),h1,by omega⟩
 ·rintro ⟨h1,h2,h3,h4,h5⟩;have h6:0≤n*row:=Int.mul_nonneg h1 h2;refine ⟨h4,h1,h2,by omega, ?_⟩
  by_cases hr:row=0
  ·exact .inl hr
  ·exact .inr ((Int.le_ediv_iff_mul_le (by omega)).2 (by omega))
theorem rows_yes(len:Nat)(at' n row:Int)(w:World)(hs:len≤140737488355328)(hn:n≤9223372036854775807)(hr:row≤9223372036854775807)(h:rowsB len at' n row):
  Calls Tryz.prog 37 #[.int .i64 len,.int .i64 at',.int .i64 n,.int .i64 row] w fun e w'=>e=.returned (.bool true)∧w=w':=by
 obtain ⟨h1,h2,h3,h4,h5⟩:=(rowsR_iff len at' n row).2 h;clear h;by_cases hz:row=0
 ·subst hz;go_enter Tryz.func37,Tryz.ntmps37
  go_wp2;go_ret;exact ⟨by first|rfl|(simp;done)|(simp;omega),rfl⟩
 ·have h6:n≤((len:Int) - at') / row:=by omega
  have q:(row==0)=false:=by simpa using hz
  have p1:1≤row:=by omega
  have hd0:0≤((len:Int) - at') / row:=Int.ediv_nonneg (by omega) h3
  have hd1:((len:Int) - at') / row≤(len:Int) - at':=Int.ediv_le_self _ (by omega)
  clear h5;go_enter Tryz.func37,Tryz.ntmps37
  go_wp2;go_ret;exact ⟨by first|rfl|(simp;done)|(simp;omega),rfl⟩
theorem rows_no(len:Nat)(at' n row:Int)(w:World)(hs:len≤140737488355328)(hn:n≤9223372036854775807)(hr:row≤9223372036854775807)(h:¬rowsB len at' n row):
  Calls Tryz.prog 37 #[.int .i64 len,.int .i64 at',.int .i64 n,.int .i64 row] w fun e w'=>e=.returned (.bool false)∧w=w':=by
 have h':¬rowsR len at' n row:=fun h'=>h ((rowsR_iff len at' n row).1 h')
 by_cases h1:0≤at'
 ·by_cases h2:0≤n
  ·by_cases h3:0≤row
   ·by_cases h4:at'≤len
    ·have h5:row≠0:=fun e=>h' ⟨h1,h2,h3,h4,.inl e⟩
     have h6:¬n≤((len:Int) - at') / row:=fun e=>h' ⟨h1,h2,h3,h4,.inr e⟩
     have q:(row==0)=false:=by simpa using h5
     have p1:1≤row:=by omega
     have hd0:0≤((len:Int) - at') / row:=Int.ediv_nonneg (by omega) h3
     have hd1:((len:Int) - at') / row≤(len:Int) - at':=Int.ediv_le_self _ (by omega)
     clear h h';go_enter Tryz.func37,Tryz.ntmps37
     go_wp2;go_ret;exact ⟨by first|rfl|(simp;done)|(simp;omega),rfl⟩
    ·clear h h';go_enter Tryz.func37,Tryz.ntmps37
     go_wp2;go_ret;exact ⟨rfl,rfl⟩
   ·clear h h';go_enter Tryz.func37,Tryz.ntmps37
    go_wp2;go_ret;exact ⟨rfl,rfl⟩
  ·clear h h';go_enter Tryz.func37,Tryz.ntmps37
   go_wp2;go_ret;exact ⟨rfl,rfl⟩
 ·clear h h';go_enter Tryz.func37,Tryz.ntmps37
  go_wp2;go_ret;exact ⟨rfl,rfl⟩
theorem uval_bd(bs:List Int)(hb:∀x∈bs,0≤x∧x≤255)(at':Int)(k:Nat)(hk:k≤4):-1≤uval bs at' k∧uval bs at' k≤4294967295:=by
 unfold uval;split
 ·have:=be_bd bs hb at'.toNat k hk;omega
 ·omega
theorem uval_nat(bs:List Int)(p k:Nat)(h:p+k≤bs.length):uval bs (p:Int) k=be bs p k:=by
 unfold uval;rw [if_pos ⟨by omega,by omega⟩,Int.toNat_natCast]
end Ref01
namespace Vw
def sl(a:Option Addr)(l cap:Nat):Option Addr:=if cap=l then a else a.map (·.add l)
theorem run_sl{P:Program}(W:World)(t e:TypeId)(ht:P.underlying t=some (.slice e))(hz:∀w,(Go.sizeOf e).run P w=.ok 1 w)(a:Option Addr)(len cap:Nat)(l h:Int)(p q:Nat)(hp:l=p)(hq:h=q)(hpq:p≤q)(hc:q≤cap):
  (Instr.slice t (.slice a len cap) (some (.int .i64 l)) (some (.int .i64 h)) none).run P W=.ok (.slice (sl a p cap) (q - p) (cap - p)) W:=by
 have ht':P.underlying t=some (.slice (P.elem t)):=by simp [Program.elem,ht]
 have he:P.elem t=e:=by simp [Program.elem,ht]
 subst hp hq;rw [run_slice_lh W t _ _ _ ht' .i64 .i64 _ _ (by omega) (by omega) (by omega),he,hz]
 simp [Result.andThen,sliced,sl]
theorem VB.sl{w:World}{a:Option Addr}{bs:List Int}(h:VB w a bs)(p m cap:Nat)(hm:p+m≤bs.length)(hc:bs.length≤cap):VB w (Vw.sl a p cap) ((bs.drop p).take m):=by
 have h1:=h.sub p m hm;refine ⟨h1.len,h1.byte,fun i hi=> ?_⟩
 have hl:((bs.drop p).take m).length=m:=by rw [List.length_take,List.length_drop];omega
 obtain ⟨b,o,ha,hcell⟩:=h1.cell i hi;refine ⟨b,o, ?_,hcell⟩;rw [hl] at hi;unfold Vw.sub at ha;rw [if_neg (by omega)] at ha
 unfold Vw.sl;rw [if_neg (by omega)]
 exact ha
end Vw
namespace Ref01
open Vw
end Ref01
namespace Fo
open Vw Wr Ref01
theorem infoRT:(Tryz.prog.info? 143).map (fun i=>(i.zero,i.size,i.bytes))=some (some (.agg #[.string ⟨#[]⟩,.int .i64 0,.int .i64 0]),3,32):=by kernel_rfl
theorem own_new{w:World}{base size g:Nat}{e:TypeId}(hg:w.heap[g]? =some (.cells #[] e (0,0)))(hbg:base≤g):w.ownsRow base e size (.slice (some ⟨g,0,none⟩) 0 0) 0 []:=
 ⟨by simp,.inr ⟨g,0,#[],rfl,hbg,hg,by simp,by unfold maxLen;omega,by simp,by simp⟩⟩
theorem not_le{s t:ByteArray}(h:ltS s t=true):(Op.bytesLess t.toList s.toList||(t.toList==s.toList))=false:=by
 unfold ltS at h;cases h1:Op.bytesLess t.toList s.toList with
 |true=>have:=bl_trans _ _ _ h h1;rw [bl_irrefl] at this;cases this
 |false=>
  cases h2:t.toList==s.toList with
  |false=>rfl
  |true=>
   have e:t.toList=s.toList:=by simpa using h2
   rw [e,bl_irrefl] at h;cases h
theorem u_at(a:Option Addr)(len cap:Nat)(bs:List Int)(q k:Nat)(hk:k≤4)(x m:Int)(hx:x=q)(hm:m=k)(hlm:len≤1000000000)(hbl:bs.length=len)(hq:q+k≤len)(w:World)(hv:VB w a bs):
  Calls Tryz.prog 34 #[.slice a len cap,.int .i64 x,.int .i64 m] w fun e w''=>e=.returned (.int .i64 (be bs q k))∧w=w'':=by
 have h:=u_any a len cap bs x k m hm w (by omega) hv hbl hk
 rw [hx,uval_nat bs q k (by omega)] at h
 rw [←hx] at h;exact h
theorem rtabs_ok(a:Option Addr)(len cap:Nat)(bs:List Int)(P:List PartD)(w:World)(hl:len≤cap)(_hc:cap≤maxLen)(hv:VB w a bs)(hbl:bs.length=len)(hF:IsFont bs P):
  Calls Tryz.prog 36 #[.slice a len cap] w fun e w'=>∃v,e=.returned (.tuple #[v,.bool true])∧Below w.heap.size w w'∧w'.ownsRow w.heap.size 143 3 v P.length ((tabsM P).flatMap tabC):=by
 have hlen:=hF.len;have hfew:=hF.few;rw [hbl] at hlen hfew;obtain ⟨n,hn⟩:∃n,P.length=n:=⟨_,rfl⟩;have hmany:=hF.many;rw [hn] at hlen hmany;have U0:=fun w' (hb:Below w.heap.size w w')=>u_at a len cap bs 0 4 (by omega) 0 4 rfl rfl (by omega) hbl (by omega) w' (hv.below hb)
 have U4:=fun w' (hb:Below w.heap.size w w')=>u_at a len cap bs 4 2 (by omega) 4 2 rfl rfl (by omega) hbl (by omega) w' (hv.below hb)
 rw [hF.kind] at U0;rw [hmany] at U4;have HU0:=Bas.hid U0;have HU4:=Bas.hid U4;have HIN:=Bas.hid (fun w'=>in_yes (len:Int) 12 (16*(n:Int)) w' (by omega) (by omega) (by omega) (by omega))
 have HV:=Bas.hid hv;have HF:=Bas.hid hF;have HN:=Bas.hid hn;have HBL:=Bas.hid hbl;have k1:=Bas.heap_new w (.cells #[] 143);have HO1:=Bas.hid (own_new (size:=3) k1 (Nat.le_refl w.heap.size));have HB1:=Bas.hid ((Below.refl w.heap.size w).alloc (Nat.le_refl _) (.cells #[] 143));have hz:∀w,(Go.sizeOf 5).run Tryz.prog w=.ok 1 w:=fun _=>by kernel_rfl
 have HZ:=Bas.hid hz;clear U0 U4 hv hF hn hmany hbl k1 hz;go_enter Tryz.func36,Tryz.ntmps36
 go_wp2_with (fail);generalize w.alloc (.cells #[] 143)=W1 at*;refine (HU0.out _ HB1.out).mono ?_;rintro e w' ⟨rfl,rfl⟩;go_wp2_with (fail);refine (HU4.out _ HB1.out).mono ?_;rintro e w' ⟨rfl,rfl⟩;have d0:decide ((n:Int)<0)=false:=by simp
 go_wp2_with (fail);refine (HIN.out _).mono ?_;rintro e w' ⟨rfl,rfl⟩;go_wp2_with (fail);go_loopw [4,7] (fun vo vi wr=>∃(i:Nat) (vo':Value),i≤n∧vi=.int .i64 i∧vo'=vo∧wr.ownsRow w.heap.size 143 3 vo' i (((tabsM P).take i).flatMap tabC)∧Below w.heap.size w wr) (fun _ vi _=>n - (intOf vi).toNat)
 case atStart=>exact ⟨0,_,Nat.zero_le _,rfl,rfl,HO1.out,HB1.out⟩
 case round=>
  obtain ⟨i,vo',hi,rfl,hvo,hown,hb⟩:=hrel;rw [←hvo];clear hvo HO1 HB1 HU0 HU4 HIN;obtain ⟨ado,cpo,rfl⟩:=own_slice hown;have HO:=Bas.hid hown;have HB:=Bas.hid hb;clear hown hb;by_cases hin:i<n
  ·obtain ⟨p,hp⟩:∃p,P[i]? =some p:=⟨_,List.getElem?_eq_getElem (by rw [HN.out];exact hin)⟩
   have htag:=HF.out.tag i p hp;have hat:=HF.out.at' i p hp;have hdl:=HF.out.dlen i p hp;obtain ⟨-,hend⟩:=HF.out.data i p hp;rw [HBL.out] at hend;have hsz4:=HF.out.size p (List.mem_of_getElem? hp);have HTG:=Bas.hid (tabsM_get P i p hp);have HRI:Hid (∀(j:Nat) q,j<i→P[j]? =some q→ltS q.tag p.tag=true):=fun j q hj hq=>HF.out.rise j i q p hj hq hp
   obtain ⟨ct,cd⟩:=p;simp only at htag hdl hend hsz4 HTG HRI;have A8:=fun w' (hb:Below w.heap.size w w')=>u_at a len cap bs (12+16*i+8) 4 (by omega) (12+16*(i:Int)+8) 4 (by omega) rfl (by omega) HBL.out (by omega) w' (HV.out.below hb)
   have A12:=fun w' (hb:Below w.heap.size w w')=>u_at a len cap bs (12+16*i+12) 4 (by omega) (12+16*(i:Int)+12) 4 (by omega) rfl (by omega) HBL.out (by omega) w' (HV.out.below hb)
   rw [hat] at A8;rw [hdl] at A12;have hcut:=fun w' (hb:Below w.heap.size w w')=>htag▸(HV.out.below hb).sl (12+16*i) 4 cap (by rw [HBL.out];omega) (by rw [HBL.out];exact hl)
   have htl:(tagB ct).length=4:=by rw [tagB_len];exact hsz4
   have HTL:=Bas.hid htl;have HCUT:=Bas.hid hcut;obtain ⟨am,ham⟩:∃am,atM P i=am:=⟨_,rfl⟩;obtain ⟨ln,hln⟩:∃ln,cd.length=ln:=⟨_,rfl⟩;rw [ham] at A8 hend HTG;rw [hln] at A12 hend HTG;have HA8:=Bas.hid A8;have HA12:=Bas.hid A12;have e1:decide ((i:Int)<(n:Int))=true:=by simp;omega
   have e2:decide (i<n)=true:=by simp;omega
   have SW:=fun W=>run_sl (P:=Tryz.prog) W 47 5 Tryz.underlying47 HZ.out a len cap (12+16*(i:Int)) (12+16*(i:Int)+4) (12+16*i) (12+16*i+4) (by omega) (by omega) (by omega) (by omega)
   rw [show 12+16*i+4 - (12+16*i)=4 by omega] at SW
   have hcv:=fun w' (hb:Below w.heap.size w w')=>conv_vb (HCUT.out w' hb) 4 (cap - (12+16*i)) HTL.out
   rw [str_tagB] at hcv;have HCV:=Bas.hid hcv;generalize sl a (12+16*i) cap=X4 at*;generalize cap - (12+16*i)=C4 at*;clear A8 A12 htag hat hdl hcut ham hln hsz4 htl hcv;go_wp2_with (fail);refine' Pl.region_v1 84 [0,1,2] [3,4,5,6,7,8,9,10,11,12,13,14] 15 9 [16] _ (fun v u=>∃g,v=.pointer (some ⟨g,0,none⟩)∧wr.heap.size≤g∧u.heap[g]? =some (.cells #[.string ⟨#[]⟩,.int .i64 0,.int .i64 0] 143 (0,0))) (by kernel_rfl) (by kernel_rfl) (by simp) (fun _ _ _ _ e h=>⟨e▸h.1,h.2⟩) ?_ ?_ ?_ ?_
   rotate_left
   ·intro I F hI hF;simp only [Pl.selN,List.cons_append,List.nil_append,List.drop_succ_cons,List.drop_zero];have cv:=fun q=>HCV.out _ (hF.on HB.out q)
    repeat (go_big_quiet_step ((go_at_call 34;first|with_reducible exact hF.same (HA8.out _ (hF.on HB.out _))|with_reducible exact hF.same (HA12.out _ (hF.on HB.out _)))))
    refine wpQuiet_nil ?_;rfl
   ·rintro v u u' ⟨g,h1,h2,h3⟩ _ hx;exact ⟨g,h1,h2,(hx.block g (heap_lt h3)).trans h3⟩
   ·simp only [Pl.selN,List.drop_succ_cons,List.drop_zero,List.mem_singleton,forall_eq];intro u hu
    go_simp
    simp only [Pl.valsAt];exact ⟨(Below.refl _ _).alloc (Nat.le_refl _) _,_,rfl,hu.size,Bas.heap_new _ _⟩
   ·rintro v u3 hu ⟨g,rfl,hg,hgc⟩;simp only [Pl.selN,List.drop_succ_cons,List.drop_zero,Act.put,List.setIfInBounds_toArray,List.set_cons_zero,List.set_cons_succ];have HBu:=Bas.hid (HB.out.trans (hu.mono HB.out.size));have HOu:=Bas.hid (Row.owned_below HO.out hu);have f0:=free_of_heap (i:=0) hgc;have f1:=free_of_heap (i:=1) hgc;have f2:=free_of_heap (i:=2) hgc;have c0:=cell_of_heap (i:=0) hgc rfl;have c1:=cell_of_heap (i:=1) hgc rfl;have c2:=cell_of_heap (i:=2) hgc rfl;have lg:=heap_lt hgc;have HLT:Hid (∀g',(Value.slice ado i cpo).ownBlock=some g'→g'<wr.heap.size):=fun g' hg'=>(Row.own_block HO.out hg').2
    have hwg:w.heap.size≤g:=by have:=HB.out.size;omega
    clear hu HA8 HA12 HCUT HCV SW;have k0:=heap_set (i:=0) hgc (.string ct);have k1:=heap_set (i:=1) k0 (.int .i64 (am:Int));have k2:=heap_set (i:=2) k1 (.int .i64 (ln:Int));have HK:Hid ((((u3.setCell ⟨g,0,none⟩ (.string ct)).setCell ⟨g,1,none⟩ (.int .i64 (am:Int))).setCell ⟨g,2,none⟩ (.int .i64 (ln:Int))).heap[g]? =some (.cells #[.string ct,.int .i64 (am:Int),.int .i64 (ln:Int)] 143 (0,0))):=k2;have HB5:=Bas.hid (((HBu.out.setCell (p:=⟨g,0,none⟩) hwg (.string ct)).setCell (p:=⟨g,1,none⟩) hwg (.int .i64 (am:Int))).setCell (p:=⟨g,2,none⟩) hwg (.int .i64 (ln:Int)));have HO5:=Bas.hid (Row.owned_keep HOu.out (w':=((u3.setCell ⟨g,0,none⟩ (.string ct)).setCell ⟨g,1,none⟩ (.int .i64 (am:Int))).setCell ⟨g,2,none⟩ (.int .i64 (ln:Int))) fun g' hg'=>by
     have hne:g'≠g:=fun e=>by have:=HLT.out g' hg';omega
     exact (Below.heap_setCell _ _ _ _ hne).trans ((Below.heap_setCell _ _ _ _ hne).trans (Below.heap_setCell _ _ _ _ hne)))
    clear k0 k1 k2 hgc HBu HOu;go_wp2_with (fail);generalize ((u3.setCell ⟨g,0,none⟩ (.string ct)).setCell ⟨g,1,none⟩ (.int .i64 (am:Int))).setCell ⟨g,2,none⟩ (.int .i64 (ln:Int))=W5 at*;clear f0 f1 f2 lg c0 c1 c2;have HI:=Bas.hid (fun w'=>in_yes (len:Int) (am:Int) (ln:Int) w' (by omega) (by omega) (by omega) (by omega))
    have c0:=cell_of_heap (i:=0) (v:=.string ct) HK.out rfl;have c1:=cell_of_heap (i:=1) (v:=.int .i64 (am:Int)) HK.out rfl;have c2:=cell_of_heap (i:=2) (v:=.int .i64 (ln:Int)) HK.out rfl;have lg:=heap_lt HK.out;rcases Nat.eq_zero_or_pos i with hi0|hi0
    ·subst hi0;have z1:decide (((0:Nat):Int)>0)=false:=by decide
     have z2:decide ((0:Int)<((0:Nat):Int))=false:=by decide
     refine' Pl.region_v0 84 [] [0,1,2,3,4,5,6,7,8,9,10,11,12,13,14,15,16,17,18,19,20,21,22] [] _ (by kernel_rfl) (by kernel_rfl) (by simp) (fun _ _ _ _ e h=>⟨e▸h.1,h.2⟩) ?_ ?_
     rotate_left
     ·intro I F hI hF;simp only [Pl.selN,List.nil_append,List.drop_succ_cons,List.drop_zero];have x1:=fun q=>hF.cell lg c1 q
      have x2:=fun q=>hF.cell lg c2 q
      repeat (go_big_quiet_step ((go_at_call 41;with_reducible exact hF.same (HI.out _))))
      refine wpQuiet_nil ?_;rfl
     intro u hu;simp only [Pl.selN];have HBA:=Bas.hid (HB5.out.trans (hu.mono HB5.out.size));have HOA:=Bas.hid (Row.owned_below HO5.out hu);have d0:=(hu.cell (p:=⟨g,0,none⟩) lg).trans c0;have d1:=(hu.cell (p:=⟨g,1,none⟩) lg).trans c1;have d2:=(hu.cell (p:=⟨g,2,none⟩) lg).trans c2;clear c0 c1 c2 hu HB5 HO5 HK lg HI;go_wp2_with (at_builtin;refine Row.fence ?_);refine Row.unfence ?_;have hb3:=(Below.refl u.heap.size u).alloc (Nat.le_refl _) (.cells #[.string ct,.int .i64 (am:Int),.int .i64 (ln:Int)] 143);have k3:=Bas.heap_new u (.cells #[.string ct,.int .i64 (am:Int),.int .i64 (ln:Int)] 143);have HO3:=Bas.hid (Row.owned_below HOA.out hb3);have HB3:=Bas.hid (HBA.out.trans (hb3.mono HBA.out.size));generalize u.alloc (.cells #[.string ct,.int .i64 (am:Int),.int .i64 (ln:Int)] 143)=W3' at*;clear d0 d1 d2 hb3 HOA HBA;refine (Row.append_any rfl _ _ 139 143 rfl (.agg #[.string ⟨#[]⟩,.int .i64 0,.int .i64 0]) 3 32 Tryz.underlying139 infoRT rfl (by decide) w.heap.size _ 0 _ rfl HO3.out (.slice (some ⟨u.heap.size,0,none⟩) 1 1) 1 [.string ct,.int .i64 (am:Int),.int .i64 (ln:Int)] rfl (leads_heap k3) rfl (by simp;exact ⟨rfl,rfl,rfl⟩) (by unfold maxLen;omega) (by omega) HB3.out.size ?_)
     intro v' w9' hown9 hg9 _;have HBB:=Bas.hid (HB3.out.grown hg9 HB3.out.size (fun g' hg'=>(Row.own_block HO3.out hg').1))
     have HOB:Hid (w9'.ownsRow w.heap.size 143 3 v' (0+1) (((tabsM P).take (0+1)).flatMap tabC)):=by
      unfold Hid;rw [Row.take_flat tabC _ 0 _ HTG.out];exact hown9
     obtain ⟨ad9,cp9,rfl⟩:=own_slice hown9;clear hown9 hg9 k3 HO3 HB3;go_wp2_with (fail);go_roundw
     case rel=>exact ⟨0+1,_,by omega,by go_num,rfl,HOB.out,HBB.out⟩
     case measure=>simp [intOf];omega
    ·have hk0:((i:Int)==0)=false:=by simp;omega
     have z1:decide ((i:Int)>0)=true:=by simp;omega
     have z2:decide ((0:Int)<(i:Int))=true:=by simp;omega
     obtain ⟨j,hj⟩:∃j,i=j+1:=⟨i - 1,by omega⟩
     have e5:(i:Int) - 1=(j:Int):=by omega
     have hji:j<i:=by omega
     obtain ⟨p',hp'⟩:∃p,P[j]? =some p:=⟨_,List.getElem?_eq_getElem (by rw [HN.out];omega)⟩
     have hri:=HRI.out j p' hji hp';have hTj:((tabsM P).take i)[j]? =some ⟨p'.tag,atM P j,p'.data.length⟩:=by rw [List.getElem?_take_of_lt hji];exact tabsM_get P j p' hp'
     obtain ⟨GT,CT,hvT,-,lGT,-,hcl⟩:=Row.elem_cells tabC_len HO5.out hTj (by omega) (by rw [List.length_take,tabsM_len,HN.out];omega)
     cases hvT;have cT0:W5.cell? ⟨GT,j*3,none⟩=some (.string p'.tag):=hcl 0 _ rfl;have hle:(Op.bytesLess ct.toList p'.tag.toList||(ct.toList==p'.tag.toList))=false:=not_le hri;generalize p'.tag=pt at*;clear hcl hTj hp' hri;refine' Pl.region_v0 84 [] [0,1,2,3,4,5,6,7,8,9,10,11,12,13,14,15,16,17,18,19,20,21,22] [] _ (by kernel_rfl) (by kernel_rfl) (by simp) (fun _ _ _ _ e h=>⟨e▸h.1,h.2⟩) ?_ ?_
     rotate_left
     ·intro I F hI hF;simp only [Pl.selN,List.nil_append,List.drop_succ_cons,List.drop_zero];have x0:=fun q=>hF.cell lg c0 q
      have x1:=fun q=>hF.cell lg c1 q
      have x2:=fun q=>hF.cell lg c2 q
      have x4:=fun q=>hF.cell lGT cT0 q
      repeat (go_big_quiet_step ((go_at_call 41;with_reducible exact hF.same (HI.out _))))
      refine wpQuiet_nil ?_;rfl
     clear cT0 e5 hj hji hk0;intro u hu;simp only [Pl.selN];have HBA:=Bas.hid (HB5.out.trans (hu.mono HB5.out.size));have HOA:=Bas.hid (Row.owned_below HO5.out hu);have d0:=(hu.cell (p:=⟨g,0,none⟩) lg).trans c0;have d1:=(hu.cell (p:=⟨g,1,none⟩) lg).trans c1;have d2:=(hu.cell (p:=⟨g,2,none⟩) lg).trans c2;clear c0 c1 c2 hu HB5 HO5 HK lg HI;go_wp2_with (at_builtin;refine Row.fence ?_);refine Row.unfence ?_;have hb3:=(Below.refl u.heap.size u).alloc (Nat.le_refl _) (.cells #[.string ct,.int .i64 (am:Int),.int .i64 (ln:Int)] 143);have k3:=Bas.heap_new u (.cells #[.string ct,.int .i64 (am:Int),.int .i64 (ln:Int)] 143);have HO3:=Bas.hid (Row.owned_below HOA.out hb3);have HB3:=Bas.hid (HBA.out.trans (hb3.mono HBA.out.size));generalize u.alloc (.cells #[.string ct,.int .i64 (am:Int),.int .i64 (ln:Int)] 143)=W3' at*;clear d0 d1 d2 hb3 HOA HBA;refine (Row.append_any rfl _ _ 139 143 rfl (.agg #[.string ⟨#[]⟩,.int .i64 0,.int .i64 0]) 3 32 Tryz.underlying139 infoRT rfl (by decide) w.heap.size _ i _ rfl HO3.out (.slice (some ⟨u.heap.size,0,none⟩) 1 1) 1 [.string ct,.int .i64 (am:Int),.int .i64 (ln:Int)] rfl (leads_heap k3) rfl (by simp;exact ⟨rfl,rfl,rfl⟩) (by unfold maxLen;omega) (by omega) HB3.out.size ?_)
     intro v' w9' hown9 hg9 _;have HBB:=Bas.hid (HB3.out.grown hg9 HB3.out.size (fun g' hg'=>(Row.own_block HO3.out hg').1))
     have HOB:Hid (w9'.ownsRow w.heap.size 143 3 v' (i+1) (((tabsM P).take (i+1)).flatMap tabC)):=by
      unfold Hid;rw [Row.take_flat tabC _ i _ HTG.out];exact hown9
     obtain ⟨ad9,cp9,rfl⟩:=own_slice hown9;clear hown9 hg9 k3 HO3 HB3;go_wp2_with (fail);go_roundw
     case rel=>exact ⟨i+1,_,by omega,by go_num,rfl,HOB.out,HBB.out⟩
     case measure=>simp [intOf];omega
  ·have hi2:i=n:=by omega
   subst hi2;have e1:decide ((i:Int)<(i:Int))=false:=by simp
   have HE:Hid (wr.ownsRow w.heap.size 143 3 (.slice ado i cpo) P.length ((tabsM P).flatMap tabC)):=by
    have h:=HO.out;rw [←HN.out,←tabsM_len P,List.take_length,tabsM_len] at h;unfold Hid;rw [HN.out] at h ⊢;exact h
   clear hin;go_wp2_with (fail);exact bodyPost_ret (v:=.tuple #[.slice ado i cpo,.bool true]) (by simp [results,Tryz.results36,go_sem]) rfl ⟨_,rfl,HB.out,HE.out⟩
theorem run_tail(W:World)(a:Option Addr)(len cap l:Nat)(x:Int)(hx:x=l)(hl:l≤len)(_hc:len≤cap):
  (Instr.slice 47 (.slice a len cap) (some (.int .i64 x)) none none).run Tryz.prog W=.ok (.slice (sl a l cap) (len - l) (cap - l)) W:=by
 have hz:∀w,(Go.sizeOf 5).run Tryz.prog w=.ok 1 w:=fun _=>by kernel_rfl
 have ht':Tryz.prog.underlying 47=some (.slice (Tryz.prog.elem 47)):=by simp [Program.elem,Tryz.underlying47]
 have he:Tryz.prog.elem 47=5:=by simp [Program.elem,Tryz.underlying47]
 subst hx;rw [run_slice_l W 47 _ _ _ ht' .i64 _ (by omega) (by omega),he,hz]
 simp [Result.andThen,sliced,sl]
theorem from_ok(a:Option Addr)(len cap l:Nat)(x:Int)(hx:x=l)(w:World)(hl:l≤len)(hc:len≤cap)(_hs:len≤1000000000):
  Calls Tryz.prog 43 #[.slice a len cap,.int .i64 x] w fun e w'=>e=.returned (.tuple #[.slice (sl a l cap) (len - l) (cap - l),.bool true])∧w=w':=by
 subst hx;have SW:=fun W=>run_tail W a len cap l (l:Int) rfl hl hc
 have e1:decide ((l:Int)<0)=false:=by simp
 have e2:decide ((len:Int)<(l:Int))=false:=by simp;omega
 have e3:decide ((l:Int)>(len:Int))=false:=by simp;omega
 go_enter Tryz.func43,Tryz.ntmps43
 go_wp2_with (fail)
 go_ret2
 exact ⟨rfl,rfl⟩
def rpC(n:Nat):List Value:=[.int .i64 0,.int .i64 ((n:Int) - 1),.int .i64 6,.int .i64 2,.int .i64 2]
def rpsC(n:Nat):List Value:=if n=0 then [] else rpC n
def rpN(n:Nat):Nat:=if n=0 then 0 else 1
def PtAt(w:World)(base n:Nat)(v:Value):Prop:=∃G,v=.slice (some ⟨G,0,none⟩) (rpN n) (rpN n)∧base≤G∧w.heap[G]? =some (.cells (rpsC n).toArray 184 (0,0))
theorem trim_ok(a:Option Addr)(len cap n:Nat)(bs:List Int)(w:World)(hlm:len≤1000000000)(hv:VB w a bs)(hbl:bs.length=len)(h2:be bs 2 2=0)(h4:be bs 4 2=n)(hn:6+2*n≤len)(hn2:n≤1000):
  Calls Tryz.prog 137 #[.slice a len cap,.int .i64 2,.int .i64 2] w fun e w'=>∃v,e=.returned (.tuple #[v,.bool true])∧Below w.heap.size w w'∧PtAt w' w.heap.size n v:=by
 have U2:=Bas.hid (u_at a len cap bs 2 2 (by omega) 2 2 rfl rfl hlm hbl (by omega) w hv)
 rw [h2] at U2;have U4:=Bas.hid (u_at a len cap bs 4 2 (by omega) 4 2 rfl rfl hlm hbl (by omega) w hv)
 rw [h4] at U4;have hrB:rowsB len 6 n 2:=⟨by omega,by omega,.inr (by omega),by omega,by omega⟩
 have HR:=Bas.hid (rows_yes len 6 n 2 w (by omega) (by omega) (by omega) hrB)
 clear hv hbl h2 h4 hrB;have e1:decide ((n:Int)<0)=false:=by simp
 have e2:decide ((65536:Int)<(n:Int))=false:=by simp;omega
 go_enter Tryz.func137,Tryz.ntmps137
 go_wp2_with (fail);refine U2.out.mono ?_;rintro e w' ⟨rfl,rfl⟩;go_wp2_with (fail);refine U4.out.mono ?_;rintro e w' ⟨rfl,rfl⟩;go_wp2_with (fail);refine HR.out.mono ?_;rintro e w' ⟨rfl,rfl⟩;rcases Nat.eq_zero_or_pos n with h0|h0
 ·subst h0;go_wp2_with (fail);exact bodyPost_ret (v:=.tuple #[.slice (some ⟨w.heap.size,0,none⟩) 0 0,.bool true]) (by simp [results,Tryz.results137,go_sem]) rfl ⟨_,rfl,(Below.refl _ _).alloc (Nat.le_refl _) _,w.heap.size,rfl,Nat.le_refl _,Bas.heap_new _ _⟩
 ·have h0':((n:Int)==0)=false:=by simp;omega
  have HP:Hid (rpN n=1∧rpsC n=rpC n):=by unfold Hid rpN rpsC;rw [if_neg (by omega),if_neg (by omega)];exact ⟨rfl,rfl⟩
  go_wp2_with (fail);refine bodyPost_ret (v:=.tuple #[.slice (some ⟨w.heap.size,0,none⟩) 1 1,.bool true]) (by simp [results,Tryz.results137,go_sem]) rfl ⟨_,rfl,(Below.refl _ _).alloc (Nat.le_refl _) _, ?_⟩
  unfold PtAt;rw [HP.out.1,HP.out.2];exact ⟨w.heap.size,rfl,Nat.le_refl _,Bas.heap_new _ _⟩
theorem parts_ok(a:Option Addr)(len cap n:Nat)(g:Int)(bs:List Int)(w:World)(hlm:len≤1000000000)(hv:VB w a bs)(hbl:bs.length=len)(h0:be bs 0 2=8)(h2:be bs 2 2=0)(h4:be bs 4 2=n)(hn:6+2*n≤len)(hn2:n≤1000):
  Calls Tryz.prog 90 #[.slice a len cap,.int .i64 g,.int .i64 2] w fun e w'=>∃v,e=.returned (.tuple #[v,.bool true])∧Below w.heap.size w w'∧PtAt w' w.heap.size n v:=by
 have U0:=Bas.hid (u_at a len cap bs 0 2 (by omega) 0 2 rfl rfl hlm hbl (by omega) w hv)
 rw [h0] at U0;have HT:=Bas.hid (trim_ok a len cap n bs w hlm hv hbl h2 h4 hn hn2);clear hv hbl h0 h2 h4;go_enter Tryz.func90,Tryz.ntmps90
 go_wp2_with (fail);refine U0.out.mono ?_;rintro e w' ⟨rfl,rfl⟩;go_wp2_with (fail);refine HT.out.mono ?_;rintro e w' ⟨v,rfl,hb,hl⟩;have HB:=Bas.hid hb;have HL:=Bas.hid hl;obtain ⟨G,rfl,-⟩:=hl;clear hb;go_wp2_with (fail)
 go_ret2
 exact ⟨_,rfl,HB.out,HL.out⟩
theorem rlk_ok(a:Option Addr)(len cap n:Nat)(g:Int)(bs:List Int)(w:World)(hlm:len≤1000000000)(hv:VB w a bs)(hbl:bs.length=len)(h0:be bs 0 2=8)(h2:be bs 2 2=0)(h4:be bs 4 2=n)(hn:6+2*n≤len)(hn2:n≤1000):
  Calls Tryz.prog 44 #[.slice a len cap,.int .i64 g,.int .i64 2] w fun e w'=>∃v,e=.returned (.tuple #[.agg #[.slice a len cap,v],.bool true])∧Below w.heap.size w w'∧PtAt w' w.heap.size n v:=by
 have hb1:=(Below.refl w.heap.size w).alloc (Nat.le_refl _) (.cells #[.slice none 0 0,.slice none 0 0] 61);have HB1:=Bas.hid hb1;have k1:=Bas.heap_new w (.cells #[.slice none 0 0,.slice none 0 0] 61);have HP:=Bas.hid (parts_ok a len cap n g bs _ hlm (hv.below hb1) hbl h0 h2 h4 hn hn2);clear hv hbl h0 h2 h4 hb1;go_enter Tryz.func44,Tryz.ntmps44
 go_wp2_with (fail);generalize w.alloc (.cells #[.slice none 0 0,.slice none 0 0] 61)=w1 at*;refine HP.out.mono ?_;rintro e w2 ⟨v,rfl,hb,G,rfl,hG1,hG2⟩;have HB2:=Bas.hid (HB1.out.trans (hb.mono HB1.out.size));have k2:=(hb.block _ (heap_lt k1)).trans k1;have HGN:Hid (G≠w.heap.size):=by have:=heap_lt k1;unfold Hid;omega
 have HG1:Hid (w.heap.size≤G):=by have:=heap_lt k1;unfold Hid;omega
 have HG2:=Bas.hid hG2;have hq1:rpN n≤1:=by unfold rpN;split<;>omega
 have HQ:Hid (0<rpN n→1≤n∧rpsC n=rpC n):=by
  unfold Hid rpN rpsC;intro h;split at h
  ·omega
  ·rw [if_neg (by omega)];exact ⟨by omega,rfl⟩
 clear hb HP HB1 k1 hG1 hG2;obtain ⟨q,hq⟩:∃q,rpN n=q:=⟨_,rfl⟩;rw [hq] at HQ hq1 ⊢;have HQE:=Bas.hid hq;clear hq;go_wp2_with (fail);go_loopw [9,10] (fun vk vi wr=>∃k:Nat,k≤q∧vi=.int .i64 k∧vk=.bool true∧Below w2.heap.size w2 wr) (fun _ vi _=>q - (intOf vi).toNat)
 case atStart=>exact ⟨0,Nat.zero_le _,rfl,rfl,Below.refl _ _⟩
 case round=>
  obtain ⟨k,hk,rfl,rfl,hb⟩:=hrel;have HB:=Bas.hid hb;have k3:=(hb.block _ (heap_lt k2)).trans k2;by_cases hkq:k<q
  ·obtain rfl:k=0:=by omega
   obtain rfl:q=1:=by omega
   obtain ⟨hn1,hrc⟩:=HQ.out (by omega)
   have kg:=(hb.block _ (heap_lt HG2.out)).trans HG2.out;rw [hrc] at kg;have x0:=cell_of_heap (i:=0) (v:=.int .i64 0) kg rfl;have x1:=cell_of_heap (i:=1) (v:=.int .i64 ((n:Int) - 1)) kg rfl;have l1:=heap_lt kg;have e0:decide ((0:Int)>(n:Int) - 1)=false:=by simp;omega
   have e1:decide ((n:Int) - 1<0)=false:=by simp;omega
   clear hb hrc kg;go_wp2_with (fail);refine' Pl.region_v0 59 [] [0,1,2,3,4,5,6,7,8,9,10,11,12,13,14,15,16,17,18,19,20,21,22,23,24,25,26,27,28] [] _ (by kernel_rfl) (by kernel_rfl) (by simp) (fun _ _ _ _ e h=>⟨e▸h.1,h.2⟩) ?_ ?_
   rotate_left
   ·intro I F hI hF;simp only [Pl.selN,List.nil_append,List.drop_succ_cons,List.drop_zero];have y0:=fun i=>hF.cell l1 x0 i
    have y1:=fun i=>hF.cell l1 x1 i
    repeat (go_big_quiet_step (fail))
    refine wpQuiet_nil ?_;rfl
   intro u hu;simp only [Pl.selN];have HBU:=Bas.hid (HB.out.trans (hu.mono HB.out.size));clear hu x0 x1 l1;go_wp2_with (fail);go_roundw
   case rel=>exact ⟨1,by omega,by go_num,rfl,HBU.out⟩
   case measure=>simp [intOf]
  ·have hk2:k=q:=by omega
   subst hk2;have e1:decide ((k:Int)<(k:Int))=false:=by simp
   have f0:=free_of_heap (i:=0) k3;have f1:=free_of_heap (i:=1) k3;have c0:=cell_of_heap (i:=0) k3 rfl;have c1:=cell_of_heap (i:=1) k3 rfl;have l3:=heap_lt k3;clear hkq hb;go_wp2_with (fail);have q2:=heap_set (i:=1) (heap_set (i:=0) k3 (.slice a len cap)) (.slice (some ⟨G,0,none⟩) k k);have HBX:Hid (Below w.heap.size w wr):=HB2.out.trans (HB.out.mono HB2.out.size);have HB8:=Bas.hid ((HBX.out.setCell (p:=⟨w.heap.size,0,none⟩) (Nat.le_refl _) (.slice a len cap)).setCell (p:=⟨w.heap.size,1,none⟩) (Nat.le_refl _) (.slice (some ⟨G,0,none⟩) k k));have HL8:Hid (PtAt ((wr.setCell ⟨w.heap.size,0,none⟩ (.slice a len cap)).setCell ⟨w.heap.size,1,none⟩ (.slice (some ⟨G,0,none⟩) k k)) w.heap.size n (.slice (some ⟨G,0,none⟩) k k)):=by
    refine ⟨G,by rw [HQE.out],HG1.out, ?_⟩
    exact (Below.heap_setCell _ _ _ _ HGN.out).trans ((Below.heap_setCell _ _ _ _ HGN.out).trans ((HB.out.block _ (heap_lt HG2.out)).trans HG2.out))
   generalize (wr.setCell ⟨w.heap.size,0,none⟩ (.slice a len cap)).setCell ⟨w.heap.size,1,none⟩ (.slice (some ⟨G,0,none⟩) k k)=W8 at*;have k8:W8.heap[w.heap.size]? =some (.cells #[.slice a len cap,.slice (some ⟨G,0,none⟩) k k] 61 (0,0)):=q2;clear c0 c1 f0 f1 l3 q2;have c0:=cell_of_heap (i:=0) k8 rfl;have c1:=cell_of_heap (i:=1) k8 rfl;refine bodyPost_ret (v:=.tuple #[.agg #[.slice a len cap,.slice (some ⟨G,0,none⟩) k k],.bool true]) ?_ rfl ⟨_,rfl,HB8.out,HL8.out⟩;rw [results_cell_tmp rfl]
   go_simp
theorem rget_ok(a:Option Addr)(len cap n base i:Nat)(bs:List Int)(v:Value)(w:World)(hlm:len≤1000000000)(hv:VB w a bs)(hbl:bs.length=len)(hn:6+2*n≤len)(hi:i<n)(hn2:n≤1000)(hp:PtAt w base n v):
  Calls Tryz.prog 45 #[.agg #[.slice a len cap,v],.int .i64 (i:Int)] w fun e w'=>e=.returned (.tuple #[.int .i64 (be bs (6+2*i) 2),.bool true])∧Below w.heap.size w w':=by
 obtain ⟨G,rfl,-,hG⟩:=hp;have e1:rpN n=1:=by unfold rpN;rw [if_neg (by omega)]
 have e2:rpsC n=rpC n:=by unfold rpsC;rw [if_neg (by omega)]
 rw [e1];rw [e2] at hG;have hb1:=(Below.refl w.heap.size w).alloc (Nat.le_refl _) (.cells #[.slice a len cap,.slice (some ⟨G,0,none⟩) 1 1] 61);have HB1:=Bas.hid hb1;have k1:=Bas.heap_new w (.cells #[.slice a len cap,.slice (some ⟨G,0,none⟩) 1 1] 61);have g1:=(hb1.block _ (heap_lt hG)).trans hG;have HV1:=Bas.hid (hv.below hb1);have HBL:=Bas.hid hbl;have c0:=cell_of_heap (i:=0) (v:=.slice a len cap) k1 rfl;have c1:=cell_of_heap (i:=1) (v:=.slice (some ⟨G,0,none⟩) 1 1) k1 rfl;have g0':=cell_of_heap (i:=0) (v:=.int .i64 0) g1 rfl;have g1':=cell_of_heap (i:=1) (v:=.int .i64 ((n:Int) - 1)) g1 rfl;have g2':=cell_of_heap (i:=2) (v:=.int .i64 6) g1 rfl;have g3':=cell_of_heap (i:=3) (v:=.int .i64 2) g1 rfl;have g4':=cell_of_heap (i:=4) (v:=.int .i64 2) g1 rfl;have lG:=heap_lt g1;have lB:=heap_lt k1;have d1:decide ((i:Int)≥0)=true:=by simp
 have d2:decide ((0:Int)≤(i:Int))=true:=by simp
 have d3:decide ((i:Int)≤(n:Int) - 1)=true:=by simp;omega
 clear hv hbl hG hb1 e1 e2;go_enter Tryz.func45,Tryz.ntmps45
 go_wp2_with (fail);generalize w.alloc (.cells #[.slice a len cap,.slice (some ⟨G,0,none⟩) 1 1] 61)=W1 at*;clear k1 g1;go_loop [6] (fun vi=>vi=.int .i64 0) (fun _=>0)
 case atStart=>rfl
 case round=>
  obtain rfl:=hrel;have hb2:=(Below.refl W1.heap.size W1).alloc (Nat.le_refl _) (.cells #[.int .i64 0,.int .i64 ((n:Int) - 1),.int .i64 6,.int .i64 2,.int .i64 2] 184);have HB2:=Bas.hid (HB1.out.trans (hb2.mono HB1.out.size));have UA:=Bas.hid (u_at a len cap bs (6+2*i) 2 (by omega) (6+(i:Int)*2) 2 (by omega) rfl hlm HBL.out (by omega) _ (HV1.out.below hb2))
  clear hb2;go_wp2_with (fail);refine UA.out.mono ?_;rintro e w' ⟨rfl,rfl⟩;go_wp2_with (fail)
  go_ret2
  exact ⟨rfl,HB2.out⟩
end Fo
namespace Sh
open Vw Wr Ch Lk Ref01
open Fo hiding cell_of_heap heap_lt own_slice free_of_heap heap_set leads_heap
theorem of8(l:List (List (Int×Int)))(hl:l.length≤30):be (ofA l l.length++l.flatMap aptsB) 0 2=8∧be (ofA l l.length++l.flatMap aptsB) 2 2=0∧be (ofA l l.length++l.flatMap aptsB) 4 2=(l.length:Nat)∧6+2*l.length≤(ofA l l.length++l.flatMap aptsB).length:=by
 have hl2:=ofA_len l l.length;have e:ofA l l.length++l.flatMap aptsB=putB 8 2++(putB 0 2++(putB (l.length:Int) 2++((List.range l.length).flatMap (offA l)++l.flatMap aptsB))):=by unfold ofA ofH;simp only [List.append_assoc]
 have b0:=be_mid [] (putB 0 2++(putB (l.length:Int) 2++((List.range l.length).flatMap (offA l)++l.flatMap aptsB))) 8 2 0 rfl (by omega) (by omega)
 have b2:=be_mid (putB 8 2) (putB (l.length:Int) 2++((List.range l.length).flatMap (offA l)++l.flatMap aptsB)) 0 2 2 (by simp [putB_len]) (by omega) (by omega)
 have b4:=be_mid (putB 8 2++putB 0 2) ((List.range l.length).flatMap (offA l)++l.flatMap aptsB) (l.length:Int) 2 4 (by simp [putB_len]) (by omega) (by omega)
 rw [List.nil_append,←e] at b0;rw [←e] at b2;rw [List.append_assoc,←e] at b4;exact ⟨b0,b2,b4,by rw [List.length_append];omega⟩
structure A8 (bs ob ds:List Int) (n:Nat):Prop where
 k0:be bs 0 2=0
 k4:be bs 4 4=12
 k8:be bs 8 4=((18+2*n:Nat):Int)
 len:18+2*n≤bs.length
 d1:bs.drop 12=ob
 d2:bs.drop (18+2*n)=ds
 f0:be ob 0 2=8
 f2:be ob 2 2=0
 f4:be ob 4 2=(n:Nat)
 fl:6+2*n≤ob.length
 few:n≤30
 pt:∀i,i<n→PtsOk ds (be ob (6+2*i) 2)
theorem a8_of(l:List (List (Int×Int)))(hl:l.length≤30)(hok:∀s∈l,s.length≤30):A8 (ankrW l) (ofA l l.length++l.flatMap aptsB) (l.flatMap aptsB) l.length:=by
 obtain ⟨n0,n4,n8,n12⟩:=ankrW_nums l hl;obtain ⟨e1,e2⟩:=ankrW_drop l;obtain ⟨o0,o2,o4,o6⟩:=of8 l hl;exact ⟨n0,n4,n8,n12,e1,e2,o0,o2,o4,o6,hl,fun i hi=>by rw [off_back l hl hok i hi];exact pts_back l hok i hi⟩
theorem rest_sl{u:World}{a:Option Addr}{bs:List Int}{len cap o:Nat}(hv:VB u a bs)(hbl:bs.length=len)(ho:o≤len)(hc:len≤cap):VB u (sl a o cap) (bs.drop o):=by
 have h:=hv.sl o (len - o) cap (by omega) (by omega)
 rwa [List.take_of_length_le (by rw [List.length_drop];omega)] at h
theorem rankr_ok(a:Option Addr)(len cap n:Nat)(g:Int)(bs ob ds:List Int)(w:World)(hc:len≤cap)(hlm:len≤1000000)(hv:VB w a bs)(hbl:bs.length=len)(hA:A8 bs ob ds n):
  Calls Tryz.prog 26 #[.slice a len cap,.int .i64 g] w fun e w'=>∃a1 n1 c1 a2 n2 c2 a3 n3 c3,e=.returned (.tuple #[.agg #[.bool true,.slice a1 n1 c1,.slice a2 n2 c2,.slice a3 n3 c3],.bool true])∧Below w.heap.size w w':=by
 have hlen:=hA.len;rw [hbl] at hlen;have U0:=fun w' (hb:Below w.heap.size w w')=>u_at a len cap bs 0 2 (by omega) 0 2 rfl rfl (by omega) hbl (by omega) w' (hv.below hb)
 have U4:=fun w' (hb:Below w.heap.size w w')=>u_at a len cap bs 4 4 (by omega) 4 4 rfl rfl (by omega) hbl (by omega) w' (hv.below hb)
 have U8:=fun w' (hb:Below w.heap.size w w')=>u_at a len cap bs 8 4 (by omega) 8 4 rfl rfl (by omega) hbl (by omega) w' (hv.below hb)
 rw [hA.k0] at U0;rw [hA.k4] at U4;rw [hA.k8] at U8;have HU0:=Bas.hid U0;have HU4:=Bas.hid U4;have HU8:=Bas.hid U8;have HF1:=Bas.hid (fun w'=>from_ok a len cap 12 12 rfl w' (by omega) hc (by omega))
 have HF2:=Bas.hid (fun w'=>from_ok a len cap (18+2*n) ((18+2*n:Nat):Int) rfl w' (by omega) hc (by omega))
 have ho:=rest_sl (o:=12) hv hbl (by omega) hc
 rw [hA.d1] at ho;have hd:=rest_sl (o:=18+2*n) hv hbl (by omega) hc
 rw [hA.d2] at hd;have hol:ob.length=len - 12:=by rw [←hA.d1,List.length_drop,hbl]
 have hdl:ds.length=len - (18+2*n):=by rw [←hA.d2,List.length_drop,hbl]
 have HO:=Bas.hid ho;have HD:=Bas.hid hd;have HOL:=Bas.hid hol;have HDL:=Bas.hid hdl;have hfl:=hA.fl;rw [hol] at hfl;have HA:=Bas.hid hA;have hn30:=hA.few;have hb1:=(Below.refl w.heap.size w).alloc (Nat.le_refl _) (.cells #[.bool false,.slice none 0 0,.slice none 0 0,.slice none 0 0] 63);have HB1:=Bas.hid hb1;have k1:=Bas.heap_new w (.cells #[.bool false,.slice none 0 0,.slice none 0 0,.slice none 0 0] 63);clear U0 U4 U8 ho hd hol hdl hv hbl hA hb1;go_enter Tryz.func26,Tryz.ntmps26
 go_wp2_with (fail);generalize w.alloc (.cells #[.bool false,.slice none 0 0,.slice none 0 0,.slice none 0 0] 63)=w1 at*;refine (HU0.out _ HB1.out).mono ?_;rintro e w' ⟨rfl,rfl⟩;go_wp2_with (fail);refine (HU4.out _ HB1.out).mono ?_;rintro e w' ⟨rfl,rfl⟩;go_wp2_with (fail);refine (HF1.out _).mono ?_;rintro e w' ⟨rfl,rfl⟩;go_wp2_with (fail);refine (HU8.out _ HB1.out).mono ?_;rintro e w' ⟨rfl,rfl⟩;go_wp2_with (fail);refine (HF2.out _).mono ?_;rintro e w' ⟨rfl,rfl⟩;have HLK:=Bas.hid (rlk_ok (sl a 12 cap) (len - 12) (cap - 12) n g ob w1 (by omega) (HO.out.below HB1.out) HOL.out HA.out.f0 HA.out.f2 HA.out.f4 hfl (by omega))
 generalize sl a 12 cap=A1 at*;generalize sl a (18+2*n) cap=A2 at*;obtain ⟨L1,hL1⟩:∃L1,len - 12=L1:=⟨_,rfl⟩;obtain ⟨L2,hL2⟩:∃L2,len - (18+2*n)=L2:=⟨_,rfl⟩;rw [hL1] at HOL HLK hfl ⊢;rw [hL2] at HDL ⊢;have hL1m:L1≤1000000:=by omega
 have hL2m:L2≤1000000:=by omega
 generalize cap - 12=C1 at*;generalize cap - (18+2*n)=C2 at*;clear HU0 HU4 HU8 HF1 HF2 hL1 hL2;go_wp2_with (fail);refine HLK.out.mono ?_;rintro e w2 ⟨v,rfl,hb2,hp⟩;have HB2:=Bas.hid (HB1.out.trans (hb2.mono HB1.out.size));have k2:=(hb2.block _ (Fo.heap_lt k1)).trans k1;obtain ⟨G,rfl,hG1,hG2⟩:=id hp;obtain ⟨q,hq⟩:∃q,rpN n=q:=⟨_,rfl⟩;have hq1:q≤1:=by rw [←hq];unfold rpN;split<;>omega
 have HQ:Hid (0<q→1≤n∧rpsC n=rpC n):=by
  rw [←hq];unfold Hid rpN rpsC;intro h;split at h
  ·omega
  ·rw [if_neg (by omega)];exact ⟨by omega,rfl⟩
 rw [hq] at hp ⊢;have HP2:=Bas.hid hp;clear hb2 hp HB1 k1 HLK hq hG1;have hb3:=(Below.refl w2.heap.size w2).alloc (Nat.le_refl _) (.cells #[.slice A1 L1 C1,.slice (some ⟨G,0,none⟩) q q] 61);have k3:=Bas.heap_new w2 (.cells #[.slice A1 L1 C1,.slice (some ⟨G,0,none⟩) q q] 61);have HB3:=Bas.hid (HB2.out.trans (hb3.mono HB2.out.size));have x3:=(hb3.block _ (Fo.heap_lt k2)).trans k2;have g3:=(hb3.block _ (Fo.heap_lt hG2)).trans hG2;have c0:=Fo.cell_of_heap (i:=0) (v:=.slice A1 L1 C1) k3 rfl;have c1:=Fo.cell_of_heap (i:=1) (v:=.slice (some ⟨G,0,none⟩) q q) k3 rfl;have l3:=Fo.heap_lt k3;have h12:(w2.alloc (.cells #[.slice A1 L1 C1,.slice (some ⟨G,0,none⟩) q q] 61)).heap.size=w2.heap.size+1:=World.size_alloc _ _;clear hb3 k2 hG2;go_wp2_with (fail);generalize w2.alloc (.cells #[.slice A1 L1 C1,.slice (some ⟨G,0,none⟩) q q] 61)=w3 at*;generalize w2.heap.size=T10 at*;have hb4:=(Below.refl w3.heap.size w3).alloc (Nat.le_refl _) (.cells #[.bool true,.slice A1 L1 C1,.slice (some ⟨G,0,none⟩) q q,.slice A2 L2 C2] 63);have HK4:=Bas.hid (Bas.heap_new w3 (.cells #[.bool true,.slice A1 L1 C1,.slice (some ⟨G,0,none⟩) q q,.slice A2 L2 C2] 63));have HB4:=Bas.hid (HB3.out.trans (hb4.mono HB3.out.size));have HX4:=Bas.hid ((hb4.block _ (Fo.heap_lt x3)).trans x3);have HG4:=Bas.hid ((hb4.block _ (Fo.heap_lt g3)).trans g3);have HK3:=Bas.hid ((hb4.block _ (Fo.heap_lt k3)).trans k3);clear hb4 x3 g3 k3 c0 c1 l3 HB3 HB2;generalize w3.alloc (.cells #[.bool true,.slice A1 L1 C1,.slice (some ⟨G,0,none⟩) q q,.slice A2 L2 C2] 63)=w4 at*;rw [h12] at HK4;clear h12;go_loopw [11,13] (fun vk vi wr=>∃k:Nat,k≤q∧vi=.int .i64 k∧vk=.bool true∧Below w4.heap.size w4 wr) (fun _ vi _=>q - (intOf vi).toNat)
 case atStart=>exact ⟨0,Nat.zero_le _,rfl,rfl,Below.refl _ _⟩
 case round=>
  obtain ⟨k,hk,rfl,rfl,hb⟩:=hrel;have HB:=Bas.hid hb;have k3:=(hb.block _ (Fo.heap_lt HK3.out)).trans HK3.out;have c0:=Fo.cell_of_heap (i:=0) (v:=.slice A1 L1 C1) k3 rfl;have c1:=Fo.cell_of_heap (i:=1) (v:=.slice (some ⟨G,0,none⟩) q q) k3 rfl;have l3:=Fo.heap_lt k3;by_cases hkq:k<q
  ·obtain rfl:k=0:=by omega
   obtain rfl:q=1:=by omega
   obtain ⟨hn1,hrc⟩:=HQ.out (by omega)
   have kg:=(hb.block _ (Fo.heap_lt HG4.out)).trans HG4.out;rw [hrc] at kg;have x0:=Fo.cell_of_heap (i:=0) (v:=.int .i64 0) kg rfl;clear hb kg k3 hk;go_wp2_with (fail);go_loopw [11,14] (fun vk vi wr=>∃j:Nat,j≤n∧vi=.int .i64 j∧vk=.bool true∧Below w4.heap.size w4 wr) (fun _ vi _=>n - (intOf vi).toNat)
   case atStart=>exact ⟨0,Nat.zero_le _,rfl,rfl,HB.out⟩
   case round=>
    clear HB c0 c1 x0 l3;obtain ⟨j,hj,rfl,rfl,hb⟩:=hrel;have HB:=Bas.hid hb;have HBW:=Bas.hid (HB4.out.trans (hb.mono HB4.out.size));have k3:=(hb.block _ (Fo.heap_lt HK3.out)).trans HK3.out;have c0:=Fo.cell_of_heap (i:=0) (v:=.slice A1 L1 C1) k3 rfl;have c1:=Fo.cell_of_heap (i:=1) (v:=.slice (some ⟨G,0,none⟩) 1 1) k3 rfl;have l3:=Fo.heap_lt k3;have kg:=(hb.block _ (Fo.heap_lt HG4.out)).trans HG4.out;have kg2:=kg;rw [hrc] at kg2;have x1:=Fo.cell_of_heap (i:=1) (v:=.int .i64 ((n:Int) - 1)) kg2 rfl;have x4:=Fo.cell_of_heap (i:=4) (v:=.int .i64 2) kg2 rfl;have lg:=Fo.heap_lt kg2;by_cases hjn:j<n
    ·have d1:decide ((j:Int)≤(n:Int) - 1)=true:=by simp;omega
     have HGET:=Bas.hid (rget_ok A1 L1 C1 n G j ob (.slice (some ⟨G,0,none⟩) 1 1) wr (by omega) (HO.out.below HBW.out) HOL.out hfl hjn (by omega) ⟨G,by unfold rpN;rw [if_neg (by omega)],Nat.le_refl _,kg⟩)
     obtain ⟨p0,p1,p2⟩:=HA.out.pt j hjn;generalize be ob (6+2*j) 2=Q at*;obtain ⟨Q',rfl⟩:=Int.eq_ofNat_of_zero_le p0;rw [HDL.out] at p1 p2;rw [Int.toNat_natCast] at p2;have c4:=be4_bd ds HD.out.byte Q' (by rw [HDL.out];omega)
     have UA:=Bas.hid (fun w' (hb:Below w.heap.size w w')=>u_at A2 L2 C2 ds Q' 4 (by omega) (Q':Int) 4 rfl rfl (by omega) HDL.out (by omega) w' (HD.out.below hb))
     generalize be ds Q' 4=cn at*;obtain ⟨c40,c41⟩:=c4;have hrB:rowsB L2 ((Q':Int)+4) cn 4:=⟨by omega,by omega,.inr (by omega),by omega,by omega⟩
     have HR:=Bas.hid (fun w'=>rows_yes L2 ((Q':Int)+4) cn 4 w' (by omega) (by omega) (by omega) hrB)
     have d2:decide (cn≥0)=true:=by simpa using c40
     have d3:decide (0≤cn)=true:=by simpa using c40
     clear hb k3 kg kg2 hrB;go_wp2_with (fail);refine HGET.out.mono ?_;rintro e wx ⟨rfl,hbx⟩;have HBX:=Bas.hid (HB.out.trans (hbx.mono HB.out.size));have HBX2:=Bas.hid (HBW.out.trans (hbx.mono HBW.out.size));have c1:=(hbx.cell (p:=⟨T10,1,none⟩) l3).trans c1;have x4:=(hbx.cell (p:=⟨G,4,none⟩) lg).trans x4;have l3:=Nat.lt_of_lt_of_le l3 hbx.size;have lg:=Nat.lt_of_lt_of_le lg hbx.size;clear hbx;go_wp2_with (fail);refine (UA.out _ HBX2.out).mono ?_;rintro e w' ⟨rfl,rfl⟩;go_wp2_with (fail);refine (HR.out _).mono ?_;rintro e w' ⟨rfl,rfl⟩;go_wp2_with (fail);go_roundw
     case rel=>first|exact ⟨j+1,by omega,by go_num,rfl,HBX.out⟩|((repeat apply Exists.intro);exact ⟨⟨j+1,by omega,by go_num,rfl,HBX.out⟩,rfl⟩)
     case measure=>simp [intOf];omega
    ·have hj2:j=n:=by omega
     subst hj2;have d1:decide ((j:Int)≤(j:Int) - 1)=false:=by simp;omega
     clear hb k3 kg kg2 hjn;go_wp2_with (fail);go_roundw
     case rel=>exact ⟨1,by omega,by go_num,rfl,HB.out⟩
     case measure=>simp [intOf]
  ·have hk2:k=q:=by omega
   subst hk2;have d1:decide ((k:Int)<(k:Int))=false:=by simp
   have k4:=(hb.block _ (Fo.heap_lt HK4.out)).trans HK4.out;have kx:=(hb.block _ (Fo.heap_lt HX4.out)).trans HX4.out;have y0:=Fo.cell_of_heap (i:=0) (v:=.bool true) k4 rfl;have y1:=Fo.cell_of_heap (i:=1) (v:=.slice A1 L1 C1) k4 rfl;have y2:=Fo.cell_of_heap (i:=2) (v:=.slice (some ⟨G,0,none⟩) k k) k4 rfl;have y3:=Fo.cell_of_heap (i:=3) (v:=.slice A2 L2 C2) k4 rfl;have z0:=Fo.cell_of_heap (i:=0) kx rfl;have z1:=Fo.cell_of_heap (i:=1) kx rfl;have z2:=Fo.cell_of_heap (i:=2) kx rfl;have z3:=Fo.cell_of_heap (i:=3) kx rfl;have f0:=Fo.free_of_heap (i:=0) kx;have f1:=Fo.free_of_heap (i:=1) kx;have f2:=Fo.free_of_heap (i:=2) kx;have f3:=Fo.free_of_heap (i:=3) kx;have l4:=Fo.heap_lt k4;have lx:=Fo.heap_lt kx;have HBW:Hid (Below w.heap.size w wr):=HB4.out.trans (hb.mono HB4.out.size);have HKX:=Bas.hid kx;clear hkq hb k4 kx k3;go_wp2_with (fail);have q2:=Fo.heap_set (i:=3) (Fo.heap_set (i:=2) (Fo.heap_set (i:=1) (Fo.heap_set (i:=0) HKX.out (.bool true)) (.slice A1 L1 C1)) (.slice (some ⟨G,0,none⟩) k k)) (.slice A2 L2 C2);have HB8:=Bas.hid ((((HBW.out.setCell (p:=⟨w.heap.size,0,none⟩) (Nat.le_refl _) (.bool true)).setCell (p:=⟨w.heap.size,1,none⟩) (Nat.le_refl _) (.slice A1 L1 C1)).setCell (p:=⟨w.heap.size,2,none⟩) (Nat.le_refl _) (.slice (some ⟨G,0,none⟩) k k)).setCell (p:=⟨w.heap.size,3,none⟩) (Nat.le_refl _) (.slice A2 L2 C2));generalize (((wr.setCell ⟨w.heap.size,0,none⟩ (.bool true)).setCell ⟨w.heap.size,1,none⟩ (.slice A1 L1 C1)).setCell ⟨w.heap.size,2,none⟩ (.slice (some ⟨G,0,none⟩) k k)).setCell ⟨w.heap.size,3,none⟩ (.slice A2 L2 C2)=W8 at*;have k8:W8.heap[w.heap.size]? =some (.cells #[.bool true,.slice A1 L1 C1,.slice (some ⟨G,0,none⟩) k k,.slice A2 L2 C2] 63 (0,0)):=q2;clear y0 y1 y2 y3 z0 z1 z2 z3 f0 f1 f2 f3 l4 lx q2 c0 c1 l3;have c0:=Fo.cell_of_heap (i:=0) k8 rfl;have c1:=Fo.cell_of_heap (i:=1) k8 rfl;have c2:=Fo.cell_of_heap (i:=2) k8 rfl;have c3:=Fo.cell_of_heap (i:=3) k8 rfl;refine bodyPost_ret (v:=.tuple #[.agg #[.bool true,.slice A1 L1 C1,.slice (some ⟨G,0,none⟩) k k,.slice A2 L2 C2],.bool true]) ?_ rfl ⟨_,_,_,_,_,_,_,_,_,rfl,HB8.out⟩;rw [results_cell_tmp rfl]
   go_simp
end Sh
namespace Fo
open Vw Wr Ref01
theorem str_self(s:ByteArray):(s.toList==s.toList)=true:=by simp
theorem str_ne{s t:ByteArray}(h:s≠t):(s.toList==t.toList)=false:=by
 cases h2:s.toList==t.toList with
 |true=>exact absurd (str_eq s t h2) h
 |false=>rfl
def RFindP(w:World)(a:Option Addr)(cap:Nat)(P:List PartD)(s:ByteArray)(e:Ending)(w':World):Prop:=
 Below w.heap.size w w'∧((∃i p,P[i]? =some p∧p.tag=s∧e=.returned (.tuple #[.slice (sl a (atM P i) cap) p.data.length (cap - atM P i),.bool true]))∨((∀p∈P,p.tag≠s)∧e=.returned (.tuple #[.slice none 0 0,.bool false])))
theorem rfind_any(a:Option Addr)(len cap:Nat)(bs:List Int)(P:List PartD)(s:ByteArray)(w:World)(hl:len≤cap)(hc:cap≤maxLen)(hv:VB w a bs)(hbl:bs.length=len)(hF:IsFont bs P):
  Calls Tryz.prog 22 #[.slice a len cap,.string s] w (RFindP w a cap P s):=by
 have hlen:=hF.len;have hfew:=hF.few;obtain ⟨n,hn⟩:∃n,P.length=n:=⟨_,rfl⟩;have hn2:n≤100000:=by omega
 have hlm:len≤1000000:=by omega
 have HN:=Bas.hid hn;have HF:=Bas.hid hF;have HBL:=Bas.hid hbl;have HTAB:=Bas.hid (rtabs_ok a len cap bs P w hl hc hv hbl hF);have hz:∀w,(Go.sizeOf 5).run Tryz.prog w=.ok 1 w:=fun _=>by kernel_rfl
 have HZ:=Bas.hid hz;clear hv hF hbl hz hlen hfew hn;go_enter Tryz.func22,Tryz.ntmps22
 go_wp2_with (fail);refine HTAB.out.mono ?_;rintro e w1 ⟨v,rfl,hb1,hown⟩;have HB1:=Bas.hid hb1;have HO:=Bas.hid hown;obtain ⟨av,cv,rfl⟩:=own_slice hown;rw [HN.out];clear hb1 hown HTAB;go_wp2_with (fail);go_loop [8] (fun vi=>∃j:Nat,j≤n∧vi=.int .i64 j∧Hid (∀k p,k<j→P[k]? =some p→p.tag≠s)) (fun vi=>n - (intOf vi).toNat)
 case atStart=>exact ⟨0,Nat.zero_le _,rfl,fun k p hk=>by omega⟩
 case round=>
  obtain ⟨j,hj,rfl,HNO⟩:=hrel;by_cases hjn:j<n
  ·obtain ⟨p,hp⟩:∃p,P[j]? =some p:=⟨_,List.getElem?_eq_getElem (by rw [HN.out];exact hjn)⟩
   obtain ⟨-,hend⟩:=HF.out.data j p hp;rw [HBL.out] at hend;obtain ⟨G,C,hv,hG1,hG2,⟨hC1,hC2⟩,hcl⟩:=Row.elem_cells tabC_len HO.out (tabsM_get P j p hp) (by omega) (by rw [tabsM_len])
   cases hv;have c0:=hcl 0 _ rfl;have c1:=hcl 1 _ rfl;have c2:=hcl 2 _ rfl;simp only [Nat.add_zero] at c0;have HP:=Bas.hid hp;clear hp hcl;have e1:decide ((j:Int)<(n:Int))=true:=by simp;omega
   have e2:decide (j<n)=true:=by simp;omega
   by_cases hs:p.tag=s
   ·have HS:=Bas.hid hs;have et:(p.tag.toList==s.toList)=true:=by rw [hs];exact str_self s
    obtain ⟨T,hT⟩:∃T,p.tag=T:=⟨_,rfl⟩;obtain ⟨am,ham⟩:∃am,atM P j=am:=⟨_,rfl⟩;obtain ⟨ln,hln⟩:∃ln,p.data.length=ln:=⟨_,rfl⟩;rw [hT] at c0 et;rw [ham] at c1 hend;rw [hln] at c2 hend;have HE:Hid (RFindP w a cap P s (.returned (.tuple #[.slice (sl a am cap) ln (cap - am),.bool true])) w1):=by
     rw [←ham,←hln];exact ⟨HB1.out,.inl ⟨j,p,HP.out,HS.out,rfl⟩⟩
    have SW:=fun W=>run_sl (P:=Tryz.prog) W 47 5 Tryz.underlying47 HZ.out a len cap (am:Int) ((am:Int)+(ln:Int)) am (am+ln) rfl (by omega) (by omega) (by omega)
    rw [Nat.add_sub_cancel_left] at SW;clear hs hT ham hln;go_wp2_with (fail);refine' Pl.region_v0 45 [] [0,1,2,3,4,5,6,7,8,9,10,11,12,13,14,15,16,17,18,19] [] _ (by kernel_rfl) (by kernel_rfl) (by simp) (fun _ _ _ _ e h=>⟨e▸h.1,h.2⟩) ?_ ?_
    rotate_left
    ·intro I F hI hF;simp only [Pl.selN,List.nil_append,List.drop_succ_cons,List.drop_zero];have x1:=fun q=>hF.cell hG2 c1 q
     have x2:=fun q=>hF.cell hG2 c2 q
     repeat (go_big_quiet_step (fail))
     refine wpQuiet_nil ?_;rfl
    intro u hu;simp only [Pl.selN];have HE2:Hid (RFindP w a cap P s (.returned (.tuple #[.slice (sl a am cap) ln (cap - am),.bool true])) u):=⟨HE.out.1.trans (hu.mono HE.out.1.size),HE.out.2⟩;clear hu;go_wp2_with (fail)
    go_ret2
    exact HE2.out
   ·have HS:=Bas.hid hs;have et:(p.tag.toList==s.toList)=false:=str_ne hs;obtain ⟨T,hT⟩:∃T,p.tag=T:=⟨_,rfl⟩;rw [hT] at c0 et;clear hs hT;go_wp2_with (fail);go_round
    case rel=>exact ⟨j+1,by omega,by go_num,fun k q hk hq=>by
     rcases Nat.lt_succ_iff_lt_or_eq.1 hk with h|rfl
     ·exact HNO.out k q h hq
     ·rw [HP.out] at hq;cases hq;exact HS.out⟩
    case measure=>simp [intOf];omega
  ·have e1:decide ((j:Int)<(n:Int))=false:=by simp;omega
   have e2:decide (j<n)=false:=by simp;omega
   have HE:Hid (RFindP w a cap P s (.returned (.tuple #[.slice none 0 0,.bool false])) w1):=⟨HB1.out,.inr ⟨fun p hp=>by
    obtain ⟨k,hk⟩:=List.mem_iff_getElem?.1 hp;exact HNO.out k p (by have:=(List.getElem?_eq_some_iff.1 hk).1;rw [HN.out] at this;omega) hk,rfl⟩⟩
   go_wp2_with (fail)
   go_ret2
   exact HE.out
theorem same_at{bs:List Int}{P:List PartD}(hF:IsFont bs P){i j:Nat}{p q:PartD}(hp:P[i]? =some p)(hq:P[j]? =some q)(h:p.tag=q.tag):i=j:=by
 rcases Nat.lt_trichotomy i j with h1|h1|h1
 ·have:=hF.rise i j p q h1 hp hq;rw [h] at this;unfold ltS at this;rw [bl_irrefl] at this;cases this
 ·exact h1
 ·have:=hF.rise j i q p h1 hq hp;rw [h] at this;unfold ltS at this;rw [bl_irrefl] at this;cases this
theorem rfind_yes(a:Option Addr)(len cap:Nat)(bs:List Int)(P:List PartD)(s:ByteArray)(i:Nat)(p:PartD)(hp:P[i]? =some p)(hs:p.tag=s)(w:World)(hl:len≤cap)(hc:cap≤maxLen)(hv:VB w a bs)(hbl:bs.length=len)(hF:IsFont bs P):
  Calls Tryz.prog 22 #[.slice a len cap,.string s] w fun e w'=>e=.returned (.tuple #[.slice (sl a (atM P i) cap) p.data.length (cap - atM P i),.bool true])∧Below w.heap.size w w'∧VB w (sl a (atM P i) cap) p.data∧p.data.length≤cap - atM P i:=by
 refine (rfind_any a len cap bs P s w hl hc hv hbl hF).mono ?_;rintro e w' ⟨hb,⟨j,q,hq,hqs,rfl⟩|⟨hno,_⟩⟩
 ·obtain rfl:=same_at hF hp hq (hs.trans hqs.symm);rw [hp] at hq;cases hq;obtain ⟨hd,he⟩:=hF.data i p hp;refine ⟨rfl,hb, ?_,by omega⟩
  have h:=hv.sl (atM P i) p.data.length cap he (by omega)
  rwa [hd] at h
 ·exact absurd hs (hno p (List.mem_of_getElem? hp))
theorem rfind_no(a:Option Addr)(len cap:Nat)(bs:List Int)(P:List PartD)(s:ByteArray)(hs:∀p∈P,p.tag≠s)(w:World)(hl:len≤cap)(hc:cap≤maxLen)(hv:VB w a bs)(hbl:bs.length=len)(hF:IsFont bs P):
  Calls Tryz.prog 22 #[.slice a len cap,.string s] w fun e w'=>e=.returned (.tuple #[.slice none 0 0,.bool false])∧Below w.heap.size w w':=by
 refine (rfind_any a len cap bs P s w hl hc hv hbl hF).mono ?_;rintro e w' ⟨hb,⟨j,q,hq,hqs,rfl⟩|⟨hno,rfl⟩⟩
 ·exact absurd hqs (hs q (List.mem_of_getElem? hq))
 ·exact ⟨rfl,hb⟩
end Fo
end Go.Proofs.YtceihjjjmcgmaaaGreat
