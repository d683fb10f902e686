/- Parts of a proof: texts ShOpen1, LnRaw, LnRev, LnClean1, LnIndex, LnIns, LnDel, LnTurn, RearTake, LnInsert, Swap, CtxD, InsD, LigD, CoverB, MxD, MxE, MxRead, ShOpen, ShWr, FeatOne, FeatTake, FeatRead, FeatReadB, FeatWrD, FeatWr, ChainWrD. -/
import Derived.Test.YtceihjjjmcgmaaaGreatMP04
import Derived.Laws.EntriesVeiled
import Derived.Lib.Overlaps
import Derived.Laws.IdiomCopy
set_option maxHeartbeats 16000000
set_option maxRecDepth 100000
namespace Go.Proofs.YtceihjjjmcgmaaaGreat
open Go.RowKit
namespace Sh
open Fo Vw Wr
def tagOf(s:List UInt8):ByteArray:=⟨s.toArray⟩
def noTab(P:List PartD):Prop:=∀p∈P,p.tag≠tagOf [102,101,97,116]∧p.tag≠tagOf [109,111,114,120]∧p.tag≠tagOf [107,101,114,120]∧p.tag≠tagOf [97,110,107,114]∧p.tag≠tagOf [116,114,97,107]
def OpenD(w:World)(gf gw:Nat)(w':World):Prop:=∃gm gk ga gt,w'.heap[gf]? =some (.cells #[.pointer (some ⟨gw,0,none⟩),.slice none 0 0,.pointer (some ⟨gm,0,none⟩),.pointer (some ⟨gk,0,none⟩),.pointer (some ⟨ga,0,none⟩),.pointer (some ⟨gt,0,none⟩)] 204 (0,0))∧w.heap.size≤gm∧w.heap.size≤gk∧w.heap.size≤ga∧w.heap.size≤gt∧
 w'.heap[gm]? =some (.cells #[.slice none 0 0] 214 (0,0))∧w'.heap[gk]? =some (.cells #[.slice none 0 0] 220 (0,0))∧w'.heap[ga]? =some (.cells #[.pointer none,.slice none 0 0] 226 (0,0))∧w'.heap[gt]? =some (.cells #[.slice none 0 0,.slice none 0 0,.slice none 0 0,.slice none 0 0] 233 (0,0))∧Mod (fun k=>k=gf) w w'
theorem open1_any(bB bF bG gf gw:Nat)(a:Option Addr)(len cap:Nat)(bs:List Int)(P:List PartD)(w:World)(h1:w.heap[bB]? =some (.cells #[.slice a len cap] 47 (0,0)))(h2:w.heap[bF]? =some (.cells #[.pointer (some ⟨gf,0,none⟩)] 124 (0,0)))(h3:w.heap[gf]? =some (.cells #[.pointer (some ⟨gw,0,none⟩),.slice none 0 0,.pointer none,.pointer none,.pointer none,.pointer none] 204 (0,0)))
  (hP:1≤P.length) (hs:noTab P) (hl:len≤cap) (hc:cap≤maxLen) (hbl:bs.length=len) (hF:IsFont bs P) (hvg:∀u,(∀k,k<w.heap.size→k≠gf→u.heap[k]? =w.heap[k]?)→VB u a bs):
  Calls Tryz.prog 52 #[.pointer (some ⟨bB,0,none⟩),.pointer (some ⟨bF,0,none⟩),.pointer (some ⟨bG,0,none⟩)] w fun e w'=>e=.returned (.tuple #[])∧OpenD w gf gw w':=by
 have hmf:∀(fn:Fn) (first cap:Array Value) (w:World),(Instr.makeFunc fn first cap).run Tryz.prog w=.ok (.func fn first cap) w:=fun _ _ _ _=>rfl
 have hnBf:bB≠gf:=fun e=>by rw [e,h3] at h1;cases h1
 have hnFf:bF≠gf:=fun e=>by rw [e,h3] at h2;cases h2
 have H1:=Bas.hid h1;have H2:=Bas.hid h2;have H3:=Bas.hid h3;have HVG:=Bas.hid hvg;have HF:=Bas.hid hF;have HS:=Bas.hid hs;have c1:=cell_of_heap (i:=0) (v:=.slice a len cap) h1 rfl;have c2:=cell_of_heap (i:=0) (v:=.pointer (some ⟨gf,0,none⟩)) h2 rfl;have l1:=heap_lt h1;have l2:=heap_lt h2;have HM0:Hid (Mod (fun k=>k=gf) w w):=Mod.refl _ _
 have hlt3:=heap_lt h3;clear h1 h2 h3 hF hs hvg;go_enter Tryz.func52,Tryz.ntmps52
 go_wp2_with (fail);refine' Pl.region_v1 39 [] [0,1] 2 5 [3,4,5] _ (fun v _=>v=.slice none 0 0) (by kernel_rfl) (by kernel_rfl) (by simp) (fun _ _ _ _ e h=>⟨e▸h.1,h.2⟩) ?_ ?_ ?_ ?_
 rotate_left
 ·intro I F hI hF;simp only [Pl.selN,List.nil_append,List.drop_succ_cons,List.drop_zero];have t0:=fun i=>hF.cell l1 c1 i
  have t1:=fun i=>hF.cell l2 c2 i
  repeat (go_big_quiet_step (fail))
  refine wpQuiet_nil ?_;rfl
 ·exact fun _ _ _ h _ _=>h
 ·simp only [Pl.selN,List.drop_succ_cons,List.drop_zero,List.mem_singleton,forall_eq];intro u hu
  go_simp
  simp only [Pl.valsAt];refine (tab_feat a len cap bs P _ (.slice none 0 0) _ hP (fun p hp=>(HS.out p hp).1) u hl hc (HVG.out u fun k hk _=>hu.block k hk) hbl HF.out).mono ?_
  rintro e w'' ⟨rfl,hb⟩;exact .inl ⟨_,rfl,hb,rfl⟩
 intro v u0 hu0 hv;subst hv;simp only [Pl.selN,List.drop_succ_cons,List.drop_zero,Act.put,List.setIfInBounds_toArray,List.set_cons_zero,List.set_cons_succ];have hm0:Mod (fun k=>k=gf) w u0:=Mod.of_below hu0
 have HG0:=Bas.hid ((hu0.block _ hlt3).trans H3.out);have g1:=cell_of_heap (i:=1) (v:=.slice none 0 0) HG0.out rfl;have g2:=free_of_heap (i:=1) HG0.out;have g3:=heap_lt HG0.out;have HM1:Hid (Mod (fun k=>k=gf) w (u0.setCell ⟨gf,1,none⟩ (.slice none 0 0))):=hm0.set _ (.inl rfl)
 have HG1:Hid ((u0.setCell ⟨gf,1,none⟩ (.slice none 0 0)).heap[gf]? =some (.cells #[.pointer (some ⟨gw,0,none⟩),.slice none 0 0,.pointer none,.pointer none,.pointer none,.pointer none] 204 (0,0))):=by unfold Hid;have k:=heap_set (i:=1) HG0.out (.slice none 0 0);exact k
 clear hm0 hu0 c1 c2 l1 l2;go_wp2_with (fail);clear g1 g2 g3;generalize u0.setCell ⟨gf,1,none⟩ (.slice none 0 0)=w1 at*;have HB0:=Bas.hid ((HM1.out.heap H1.out hnBf));have HP0:=Bas.hid ((HM1.out.heap H2.out hnFf));obtain ⟨RI,RF,Ri,RF0,RFk,RFw⟩:=Pl.fam_of w1 (fun u=>u.heap[bB]? =some (.cells #[.slice a len cap] 47 (0,0))∧u.heap[bF]? =some (.cells #[.pointer (some ⟨gf,0,none⟩)] 124 (0,0))) ⟨HB0.out,HP0.out⟩
 have RFH:=Bas.hid RF0;have RhI:Nonempty RI:=⟨Ri⟩;have RFW:=Bas.hid RFw;have t1:=fun i=>cell_of_heap (i:=0) (v:=.slice a len cap) (RFk i).1 rfl
 have t2:=fun i=>cell_of_heap (i:=0) (v:=.pointer (some ⟨gf,0,none⟩)) (RFk i).2 rfl
 clear RF0 RFw RFk;refine Pl.region_plan0 Ri [(true,0),(true,1),(true,2),(true,4),(false,3),(false,5),(true,6),(true,7),(false,8)] [8] (by kernel_rfl) (by kernel_rfl) (fun _ _ _ _ e h=>⟨e▸h.1,h.2⟩) RFH.out ?_
 refine Pl.head_sel0 [(true,0),(true,1),(true,2),(true,4)] (by kernel_rfl) (by kernel_rfl) ?_
 simp only [Pl.sel,List.drop_succ_cons,List.drop_zero];repeat (go_big_quiet_step (fail))
 refine wpQuiet_nil ?_;rw [←RFH.out];clear t1 t2;refine Pl.one_sel (by kernel_rfl) ?_
 intro Q' hQ' hP';simp only [Pl.sel,List.drop_succ_cons,List.drop_zero];go_wp2_with (fail);obtain ⟨gm,hgm⟩:∃x,w1.heap.size=x:=⟨_,rfl⟩;have hb0:Below w1.heap.size w1 (w1.alloc (.cells #[.slice none 0 0] 214)).drew:=((Below.refl w1.heap.size w1).alloc (Nat.le_refl _) (.cells #[.slice none 0 0] 214)).drew;have HK0:Hid ((w1.alloc (.cells #[.slice none 0 0] 214)).drew.heap[gm]? =some (.cells #[.slice none 0 0] 214 (0,0))∧w.heap.size≤gm):=by rw [←hgm];exact ⟨Bas.heap_new _ _,HM1.out.size⟩
 have HMA0:=Bas.hid (HM1.out.on hb0);have HGA0:=Bas.hid ((hb0.block _ (heap_lt HG1.out)).trans HG1.out);clear hb0;refine hQ' _ _ (fun _ _=>RFW.out _ ⟨HMA0.out.heap H1.out hnBf,HMA0.out.heap H2.out hnFf⟩) ?_
 clear hQ' hP' Q';refine Pl.one_sel (by kernel_rfl) ?_
 intro Q' hQ' hP';simp only [Pl.sel,List.drop_succ_cons,List.drop_zero];rw [hgm];generalize (w1.alloc (.cells #[.slice none 0 0] 214)).drew=x0 at*;clear hgm HB0 HP0;go_wp2_with (fail);refine (tab_morx a len cap bs P _ (.pointer (some ⟨gm,0,none⟩)) _ hP (fun p hp=>(HS.out p hp).2.1) x0 hl hc (HVG.out x0 fun k hk hn=>HMA0.out.block k hk hn) hbl HF.out).mono ?_
 rintro e y0 ⟨rfl,hb0⟩;have HMB0:=Bas.hid (HMA0.out.on hb0);have HGB0:=Bas.hid ((hb0.block _ (heap_lt HGA0.out)).trans HGA0.out);have HKC0:=Bas.hid ((hb0.block _ (heap_lt HK0.out.1)).trans HK0.out.1);clear hb0;go_wp2_with (fail);refine hQ' _ _ (fun _ _=>RFW.out _ ⟨HMB0.out.heap H1.out hnBf,HMB0.out.heap H2.out hnFf⟩) ?_
 clear hQ' hP' Q' RFW RFH HMA0 HGA0;refine Pl.head_sel0 [(true,6),(true,7)] (by kernel_rfl) (by kernel_rfl) ?_
 simp only [Pl.sel,List.drop_succ_cons,List.drop_zero];repeat (go_big_quiet_step (fail))
 refine wpQuiet_nil ?_;refine Pl.tail_sel [(false,8)] (by kernel_rfl) (by kernel_rfl) ?_
 simp only [Pl.sel,List.drop_succ_cons,List.drop_zero];clear RhI Ri;have g1:=cell_of_heap (i:=2) (v:=.pointer none) HGB0.out rfl;have g2:=free_of_heap (i:=2) HGB0.out;have g3:=heap_lt HGB0.out;have HM2:Hid (Mod (fun k=>k=gf) w (y0.setCell ⟨gf,2,none⟩ (.pointer (some ⟨gm,0,none⟩)))):=HMB0.out.set _ (.inl rfl)
 have HG2:Hid ((y0.setCell ⟨gf,2,none⟩ (.pointer (some ⟨gm,0,none⟩))).heap[gf]? =some (.cells #[.pointer (some ⟨gw,0,none⟩),.slice none 0 0,.pointer (some ⟨gm,0,none⟩),.pointer none,.pointer none,.pointer none] 204 (0,0))):=by unfold Hid;have k:=heap_set (i:=2) HGB0.out (.pointer (some ⟨gm,0,none⟩));exact k
 have HKB0:Hid ((y0.setCell ⟨gf,2,none⟩ (.pointer (some ⟨gm,0,none⟩))).heap[gm]? =some (.cells #[.slice none 0 0] 214 (0,0))):=(Below.heap_setCell _ _ _ _ (fun e=>by have h:=HKC0.out;rw [show gm=gf from e,HGB0.out] at h;cases h)).trans HKC0.out
 clear HKC0 HMB0 HGB0;go_wp2_with (fail);clear g1 g2 g3;generalize y0.setCell ⟨gf,2,none⟩ (.pointer (some ⟨gm,0,none⟩))=w2 at*;have HB1:=Bas.hid ((HM2.out.heap H1.out hnBf));have HP1:=Bas.hid ((HM2.out.heap H2.out hnFf));obtain ⟨RI,RF,Ri,RF0,RFk,RFw⟩:=Pl.fam_of w2 (fun u=>u.heap[bB]? =some (.cells #[.slice a len cap] 47 (0,0))∧u.heap[bF]? =some (.cells #[.pointer (some ⟨gf,0,none⟩)] 124 (0,0))) ⟨HB1.out,HP1.out⟩
 have RFH:=Bas.hid RF0;have RhI:Nonempty RI:=⟨Ri⟩;have RFW:=Bas.hid RFw;have t1:=fun i=>cell_of_heap (i:=0) (v:=.slice a len cap) (RFk i).1 rfl
 have t2:=fun i=>cell_of_heap (i:=0) (v:=.pointer (some ⟨gf,0,none⟩)) (RFk i).2 rfl
 clear RF0 RFw RFk;refine Pl.region_plan0 Ri [(true,0),(true,1),(true,2),(true,4),(false,3),(false,5),(true,6),(true,7),(false,8)] [8] (by kernel_rfl) (by kernel_rfl) (fun _ _ _ _ e h=>⟨e▸h.1,h.2⟩) RFH.out ?_
 refine Pl.head_sel0 [(true,0),(true,1),(true,2),(true,4)] (by kernel_rfl) (by kernel_rfl) ?_
 simp only [Pl.sel,List.drop_succ_cons,List.drop_zero];repeat (go_big_quiet_step (fail))
 refine wpQuiet_nil ?_;rw [←RFH.out];clear t1 t2;refine Pl.one_sel (by kernel_rfl) ?_
 intro Q' hQ' hP';simp only [Pl.sel,List.drop_succ_cons,List.drop_zero];go_wp2_with (fail);obtain ⟨gk,hgk⟩:∃x,w2.heap.size=x:=⟨_,rfl⟩;have hb1:Below w2.heap.size w2 (w2.alloc (.cells #[.slice none 0 0] 220)).drew:=((Below.refl w2.heap.size w2).alloc (Nat.le_refl _) (.cells #[.slice none 0 0] 220)).drew;have HK1:Hid ((w2.alloc (.cells #[.slice none 0 0] 220)).drew.heap[gk]? =some (.cells #[.slice none 0 0] 220 (0,0))∧w.heap.size≤gk):=by rw [←hgk];exact ⟨Bas.heap_new _ _,HM2.out.size⟩
 have HMA1:=Bas.hid (HM2.out.on hb1);have HGA1:=Bas.hid ((hb1.block _ (heap_lt HG2.out)).trans HG2.out);have HKA0:Hid ((w2.alloc (.cells #[.slice none 0 0] 220)).drew.heap[gm]? =some (.cells #[.slice none 0 0] 214 (0,0))):=(hb1.block _ (heap_lt HKB0.out)).trans HKB0.out;clear hb1;refine hQ' _ _ (fun _ _=>RFW.out _ ⟨HMA1.out.heap H1.out hnBf,HMA1.out.heap H2.out hnFf⟩) ?_
 clear hQ' hP' Q';refine Pl.one_sel (by kernel_rfl) ?_
 intro Q' hQ' hP';simp only [Pl.sel,List.drop_succ_cons,List.drop_zero];rw [hgk];generalize (w2.alloc (.cells #[.slice none 0 0] 220)).drew=x1 at*;clear hgk HB1 HP1;go_wp2_with (fail);refine (tab_kerx a len cap bs P _ (.pointer (some ⟨gk,0,none⟩)) _ hP (fun p hp=>(HS.out p hp).2.2.1) x1 hl hc (HVG.out x1 fun k hk hn=>HMA1.out.block k hk hn) hbl HF.out).mono ?_
 rintro e y1 ⟨rfl,hb1⟩;have HMB1:=Bas.hid (HMA1.out.on hb1);have HGB1:=Bas.hid ((hb1.block _ (heap_lt HGA1.out)).trans HGA1.out);have HKC1:=Bas.hid ((hb1.block _ (heap_lt HK1.out.1)).trans HK1.out.1);have HKC0:=Bas.hid ((hb1.block _ (heap_lt HKA0.out)).trans HKA0.out);clear hb1;go_wp2_with (fail);refine hQ' _ _ (fun _ _=>RFW.out _ ⟨HMB1.out.heap H1.out hnBf,HMB1.out.heap H2.out hnFf⟩) ?_
 clear hQ' hP' Q' RFW RFH HMA1 HGA1;refine Pl.head_sel0 [(true,6),(true,7)] (by kernel_rfl) (by kernel_rfl) ?_
 simp only [Pl.sel,List.drop_succ_cons,List.drop_zero];repeat (go_big_quiet_step (fail))
 refine wpQuiet_nil ?_;refine Pl.tail_sel [(false,8)] (by kernel_rfl) (by kernel_rfl) ?_
 simp only [Pl.sel,List.drop_succ_cons,List.drop_zero];clear RhI Ri;have g1:=cell_of_heap (i:=3) (v:=.pointer none) HGB1.out rfl;have g2:=free_of_heap (i:=3) HGB1.out;have g3:=heap_lt HGB1.out;have HM3:Hid (Mod (fun k=>k=gf) w (y1.setCell ⟨gf,3,none⟩ (.pointer (some ⟨gk,0,none⟩)))):=HMB1.out.set _ (.inl rfl)
 have HG3:Hid ((y1.setCell ⟨gf,3,none⟩ (.pointer (some ⟨gk,0,none⟩))).heap[gf]? =some (.cells #[.pointer (some ⟨gw,0,none⟩),.slice none 0 0,.pointer (some ⟨gm,0,none⟩),.pointer (some ⟨gk,0,none⟩),.pointer none,.pointer none] 204 (0,0))):=by unfold Hid;have k:=heap_set (i:=3) HGB1.out (.pointer (some ⟨gk,0,none⟩));exact k
 have HKB0:Hid ((y1.setCell ⟨gf,3,none⟩ (.pointer (some ⟨gk,0,none⟩))).heap[gm]? =some (.cells #[.slice none 0 0] 214 (0,0))):=(Below.heap_setCell _ _ _ _ (fun e=>by have h:=HKC0.out;rw [show gm=gf from e,HGB1.out] at h;cases h)).trans HKC0.out
 have HKB1:Hid ((y1.setCell ⟨gf,3,none⟩ (.pointer (some ⟨gk,0,none⟩))).heap[gk]? =some (.cells #[.slice none 0 0] 220 (0,0))):=(Below.heap_setCell _ _ _ _ (fun e=>by have h:=HKC1.out;rw [show gk=gf from e,HGB1.out] at h;cases h)).trans HKC1.out
 clear HKC0 HKC1 HMB1 HGB1 HKA0;go_wp2_with (fail);clear g1 g2 g3;generalize y1.setCell ⟨gf,3,none⟩ (.pointer (some ⟨gk,0,none⟩))=w3 at*;have HB2:=Bas.hid ((HM3.out.heap H1.out hnBf));have HP2:=Bas.hid ((HM3.out.heap H2.out hnFf));obtain ⟨RI,RF,Ri,RF0,RFk,RFw⟩:=Pl.fam_of w3 (fun u=>u.heap[bB]? =some (.cells #[.slice a len cap] 47 (0,0))∧u.heap[bF]? =some (.cells #[.pointer (some ⟨gf,0,none⟩)] 124 (0,0))) ⟨HB2.out,HP2.out⟩
 have RFH:=Bas.hid RF0;have RhI:Nonempty RI:=⟨Ri⟩;have RFW:=Bas.hid RFw;have t1:=fun i=>cell_of_heap (i:=0) (v:=.slice a len cap) (RFk i).1 rfl
 have t2:=fun i=>cell_of_heap (i:=0) (v:=.pointer (some ⟨gf,0,none⟩)) (RFk i).2 rfl
 clear RF0 RFw RFk;refine Pl.region_plan0 Ri [(true,0),(true,1),(true,2),(true,4),(false,3),(false,5),(true,6),(true,7),(false,8)] [8] (by kernel_rfl) (by kernel_rfl) (fun _ _ _ _ e h=>⟨e▸h.1,h.2⟩) RFH.out ?_
 refine Pl.head_sel0 [(true,0),(true,1),(true,2),(true,4)] (by kernel_rfl) (by kernel_rfl) ?_
 simp only [Pl.sel,List.drop_succ_cons,List.drop_zero];repeat (go_big_quiet_step (fail))
 refine wpQuiet_nil ?_;rw [←RFH.out];clear t1 t2;refine Pl.one_sel (by kernel_rfl) ?_
 intro Q' hQ' hP';simp only [Pl.sel,List.drop_succ_cons,List.drop_zero];go_wp2_with (fail);obtain ⟨ga,hga⟩:∃x,w3.heap.size=x:=⟨_,rfl⟩;have hb2:Below w3.heap.size w3 (w3.alloc (.cells #[.pointer none,.slice none 0 0] 226)).drew:=((Below.refl w3.heap.size w3).alloc (Nat.le_refl _) (.cells #[.pointer none,.slice none 0 0] 226)).drew;have HK2:Hid ((w3.alloc (.cells #[.pointer none,.slice none 0 0] 226)).drew.heap[ga]? =some (.cells #[.pointer none,.slice none 0 0] 226 (0,0))∧w.heap.size≤ga):=by rw [←hga];exact ⟨Bas.heap_new _ _,HM3.out.size⟩
 have HMA2:=Bas.hid (HM3.out.on hb2);have HGA2:=Bas.hid ((hb2.block _ (heap_lt HG3.out)).trans HG3.out);have HKA0:Hid ((w3.alloc (.cells #[.pointer none,.slice none 0 0] 226)).drew.heap[gm]? =some (.cells #[.slice none 0 0] 214 (0,0))):=(hb2.block _ (heap_lt HKB0.out)).trans HKB0.out;have HKA1:Hid ((w3.alloc (.cells #[.pointer none,.slice none 0 0] 226)).drew.heap[gk]? =some (.cells #[.slice none 0 0] 220 (0,0))):=(hb2.block _ (heap_lt HKB1.out)).trans HKB1.out;clear hb2;refine hQ' _ _ (fun _ _=>RFW.out _ ⟨HMA2.out.heap H1.out hnBf,HMA2.out.heap H2.out hnFf⟩) ?_
 clear hQ' hP' Q';refine Pl.one_sel (by kernel_rfl) ?_
 intro Q' hQ' hP';simp only [Pl.sel,List.drop_succ_cons,List.drop_zero];rw [hga];generalize (w3.alloc (.cells #[.pointer none,.slice none 0 0] 226)).drew=x2 at*;clear hga HB2 HP2;go_wp2_with (fail);refine (tab_ankr a len cap bs P _ (.pointer (some ⟨ga,0,none⟩)) _ hP (fun p hp=>(HS.out p hp).2.2.2.1) x2 hl hc (HVG.out x2 fun k hk hn=>HMA2.out.block k hk hn) hbl HF.out).mono ?_
 rintro e y2 ⟨rfl,hb2⟩;have HMB2:=Bas.hid (HMA2.out.on hb2);have HGB2:=Bas.hid ((hb2.block _ (heap_lt HGA2.out)).trans HGA2.out);have HKC2:=Bas.hid ((hb2.block _ (heap_lt HK2.out.1)).trans HK2.out.1);have HKC0:=Bas.hid ((hb2.block _ (heap_lt HKA0.out)).trans HKA0.out);have HKC1:=Bas.hid ((hb2.block _ (heap_lt HKA1.out)).trans HKA1.out);clear hb2;go_wp2_with (fail);refine hQ' _ _ (fun _ _=>RFW.out _ ⟨HMB2.out.heap H1.out hnBf,HMB2.out.heap H2.out hnFf⟩) ?_
 clear hQ' hP' Q' RFW RFH HMA2 HGA2;refine Pl.head_sel0 [(true,6),(true,7)] (by kernel_rfl) (by kernel_rfl) ?_
 simp only [Pl.sel,List.drop_succ_cons,List.drop_zero];repeat (go_big_quiet_step (fail))
 refine wpQuiet_nil ?_;refine Pl.tail_sel [(false,8)] (by kernel_rfl) (by kernel_rfl) ?_
 simp only [Pl.sel,List.drop_succ_cons,List.drop_zero];clear RhI Ri;have g1:=cell_of_heap (i:=4) (v:=.pointer none) HGB2.out rfl;have g2:=free_of_heap (i:=4) HGB2.out;have g3:=heap_lt HGB2.out;have HM4:Hid (Mod (fun k=>k=gf) w (y2.setCell ⟨gf,4,none⟩ (.pointer (some ⟨ga,0,none⟩)))):=HMB2.out.set _ (.inl rfl)
 have HG4:Hid ((y2.setCell ⟨gf,4,none⟩ (.pointer (some ⟨ga,0,none⟩))).heap[gf]? =some (.cells #[.pointer (some ⟨gw,0,none⟩),.slice none 0 0,.pointer (some ⟨gm,0,none⟩),.pointer (some ⟨gk,0,none⟩),.pointer (some ⟨ga,0,none⟩),.pointer none] 204 (0,0))):=by unfold Hid;have k:=heap_set (i:=4) HGB2.out (.pointer (some ⟨ga,0,none⟩));exact k
 have HKB0:Hid ((y2.setCell ⟨gf,4,none⟩ (.pointer (some ⟨ga,0,none⟩))).heap[gm]? =some (.cells #[.slice none 0 0] 214 (0,0))):=(Below.heap_setCell _ _ _ _ (fun e=>by have h:=HKC0.out;rw [show gm=gf from e,HGB2.out] at h;cases h)).trans HKC0.out
 have HKB1:Hid ((y2.setCell ⟨gf,4,none⟩ (.pointer (some ⟨ga,0,none⟩))).heap[gk]? =some (.cells #[.slice none 0 0] 220 (0,0))):=(Below.heap_setCell _ _ _ _ (fun e=>by have h:=HKC1.out;rw [show gk=gf from e,HGB2.out] at h;cases h)).trans HKC1.out
 have HKB2:Hid ((y2.setCell ⟨gf,4,none⟩ (.pointer (some ⟨ga,0,none⟩))).heap[ga]? =some (.cells #[.pointer none,.slice none 0 0] 226 (0,0))):=(Below.heap_setCell _ _ _ _ (fun e=>by have h:=HKC2.out;rw [show ga=gf from e,HGB2.out] at h;cases h)).trans HKC2.out
 clear HKC0 HKC1 HKC2 HMB2 HGB2 HKA0 HKA1;go_wp2_with (fail);clear g1 g2 g3;generalize y2.setCell ⟨gf,4,none⟩ (.pointer (some ⟨ga,0,none⟩))=w4 at*;have HB3:=Bas.hid ((HM4.out.heap H1.out hnBf));have HP3:=Bas.hid ((HM4.out.heap H2.out hnFf));obtain ⟨RI,RF,Ri,RF0,RFk,RFw⟩:=Pl.fam_of w4 (fun u=>u.heap[bB]? =some (.cells #[.slice a len cap] 47 (0,0))∧u.heap[bF]? =some (.cells #[.pointer (some ⟨gf,0,none⟩)] 124 (0,0))) ⟨HB3.out,HP3.out⟩
 have RFH:=Bas.hid RF0;have RhI:Nonempty RI:=⟨Ri⟩;have RFW:=Bas.hid RFw;have t1:=fun i=>cell_of_heap (i:=0) (v:=.slice a len cap) (RFk i).1 rfl
 have t2:=fun i=>cell_of_heap (i:=0) (v:=.pointer (some ⟨gf,0,none⟩)) (RFk i).2 rfl
 clear RF0 RFw RFk;refine Pl.region_plan0 Ri [(true,0),(true,1),(true,2),(false,3),(false,4),(true,5),(true,6),(false,7)] [7] (by kernel_rfl) (by kernel_rfl) (fun _ _ _ _ e h=>⟨e▸h.1,h.2⟩) RFH.out ?_
 refine Pl.head_sel0 [(true,0),(true,1),(true,2)] (by kernel_rfl) (by kernel_rfl) ?_
 simp only [Pl.sel,List.drop_succ_cons,List.drop_zero];repeat (go_big_quiet_step (fail))
 refine wpQuiet_nil ?_;rw [←RFH.out];clear t1 t2;refine Pl.one_sel (by kernel_rfl) ?_
 intro Q' hQ' hP';simp only [Pl.sel,List.drop_succ_cons,List.drop_zero];go_wp2_with (fail);obtain ⟨gt,hgt⟩:∃x,w4.heap.size=x:=⟨_,rfl⟩;have hb3:Below w4.heap.size w4 (w4.alloc (.cells #[.slice none 0 0,.slice none 0 0,.slice none 0 0,.slice none 0 0] 233)).drew:=((Below.refl w4.heap.size w4).alloc (Nat.le_refl _) (.cells #[.slice none 0 0,.slice none 0 0,.slice none 0 0,.slice none 0 0] 233)).drew;have HK3:Hid ((w4.alloc (.cells #[.slice none 0 0,.slice none 0 0,.slice none 0 0,.slice none 0 0] 233)).drew.heap[gt]? =some (.cells #[.slice none 0 0,.slice none 0 0,.slice none 0 0,.slice none 0 0] 233 (0,0))∧w.heap.size≤gt):=by rw [←hgt];exact ⟨Bas.heap_new _ _,HM4.out.size⟩
 have HMA3:=Bas.hid (HM4.out.on hb3);have HGA3:=Bas.hid ((hb3.block _ (heap_lt HG4.out)).trans HG4.out);have HKA0:Hid ((w4.alloc (.cells #[.slice none 0 0,.slice none 0 0,.slice none 0 0,.slice none 0 0] 233)).drew.heap[gm]? =some (.cells #[.slice none 0 0] 214 (0,0))):=(hb3.block _ (heap_lt HKB0.out)).trans HKB0.out;have HKA1:Hid ((w4.alloc (.cells #[.slice none 0 0,.slice none 0 0,.slice none 0 0,.slice none 0 0] 233)).drew.heap[gk]? =some (.cells #[.slice none 0 0] 220 (0,0))):=(hb3.block _ (heap_lt HKB1.out)).trans HKB1.out;have HKA2:Hid ((w4.alloc (.cells #[.slice none 0 0,.slice none 0 0,.slice none 0 0,.slice none 0 0] 233)).drew.heap[ga]? =some (.cells #[.pointer none,.slice none 0 0] 226 (0,0))):=(hb3.block _ (heap_lt HKB2.out)).trans HKB2.out;clear hb3;refine hQ' _ _ (fun _ _=>RFW.out _ ⟨HMA3.out.heap H1.out hnBf,HMA3.out.heap H2.out hnFf⟩) ?_
 clear hQ' hP' Q';refine Pl.one_sel (by kernel_rfl) ?_
 intro Q' hQ' hP';simp only [Pl.sel,List.drop_succ_cons,List.drop_zero];rw [hgt];generalize (w4.alloc (.cells #[.slice none 0 0,.slice none 0 0,.slice none 0 0,.slice none 0 0] 233)).drew=x3 at*;clear hgt HB3 HP3;go_wp2_with (fail);refine (tab_trak a len cap bs P _ (.pointer (some ⟨gt,0,none⟩)) _ hP (fun p hp=>(HS.out p hp).2.2.2.2) x3 hl hc (HVG.out x3 fun k hk hn=>HMA3.out.block k hk hn) hbl HF.out).mono ?_
 rintro e y3 ⟨rfl,hb3⟩;have HMB3:=Bas.hid (HMA3.out.on hb3);have HGB3:=Bas.hid ((hb3.block _ (heap_lt HGA3.out)).trans HGA3.out);have HKC3:=Bas.hid ((hb3.block _ (heap_lt HK3.out.1)).trans HK3.out.1);have HKC0:=Bas.hid ((hb3.block _ (heap_lt HKA0.out)).trans HKA0.out);have HKC1:=Bas.hid ((hb3.block _ (heap_lt HKA1.out)).trans HKA1.out);have HKC2:=Bas.hid ((hb3.block _ (heap_lt HKA2.out)).trans HKA2.out);clear hb3;go_wp2_with (fail);refine hQ' _ _ (fun _ _=>RFW.out _ ⟨HMB3.out.heap H1.out hnBf,HMB3.out.heap H2.out hnFf⟩) ?_
 clear hQ' hP' Q' RFW RFH HMA3 HGA3;refine Pl.head_sel0 [(true,5),(true,6)] (by kernel_rfl) (by kernel_rfl) ?_
 simp only [Pl.sel,List.drop_succ_cons,List.drop_zero];repeat (go_big_quiet_step (fail))
 refine wpQuiet_nil ?_;refine Pl.tail_sel [(false,7)] (by kernel_rfl) (by kernel_rfl) ?_
 simp only [Pl.sel,List.drop_succ_cons,List.drop_zero];clear RhI Ri;have g1:=cell_of_heap (i:=5) (v:=.pointer none) HGB3.out rfl;have g2:=free_of_heap (i:=5) HGB3.out;have g3:=heap_lt HGB3.out;have HM5:Hid (Mod (fun k=>k=gf) w (y3.setCell ⟨gf,5,none⟩ (.pointer (some ⟨gt,0,none⟩)))):=HMB3.out.set _ (.inl rfl)
 have HG5:Hid ((y3.setCell ⟨gf,5,none⟩ (.pointer (some ⟨gt,0,none⟩))).heap[gf]? =some (.cells #[.pointer (some ⟨gw,0,none⟩),.slice none 0 0,.pointer (some ⟨gm,0,none⟩),.pointer (some ⟨gk,0,none⟩),.pointer (some ⟨ga,0,none⟩),.pointer (some ⟨gt,0,none⟩)] 204 (0,0))):=by unfold Hid;have k:=heap_set (i:=5) HGB3.out (.pointer (some ⟨gt,0,none⟩));exact k
 have HKB0:Hid ((y3.setCell ⟨gf,5,none⟩ (.pointer (some ⟨gt,0,none⟩))).heap[gm]? =some (.cells #[.slice none 0 0] 214 (0,0))):=(Below.heap_setCell _ _ _ _ (fun e=>by have h:=HKC0.out;rw [show gm=gf from e,HGB3.out] at h;cases h)).trans HKC0.out
 have HKB1:Hid ((y3.setCell ⟨gf,5,none⟩ (.pointer (some ⟨gt,0,none⟩))).heap[gk]? =some (.cells #[.slice none 0 0] 220 (0,0))):=(Below.heap_setCell _ _ _ _ (fun e=>by have h:=HKC1.out;rw [show gk=gf from e,HGB3.out] at h;cases h)).trans HKC1.out
 have HKB2:Hid ((y3.setCell ⟨gf,5,none⟩ (.pointer (some ⟨gt,0,none⟩))).heap[ga]? =some (.cells #[.pointer none,.slice none 0 0] 226 (0,0))):=(Below.heap_setCell _ _ _ _ (fun e=>by have h:=HKC2.out;rw [show ga=gf from e,HGB3.out] at h;cases h)).trans HKC2.out
 have HKB3:Hid ((y3.setCell ⟨gf,5,none⟩ (.pointer (some ⟨gt,0,none⟩))).heap[gt]? =some (.cells #[.slice none 0 0,.slice none 0 0,.slice none 0 0,.slice none 0 0] 233 (0,0))):=(Below.heap_setCell _ _ _ _ (fun e=>by have h:=HKC3.out;rw [show gt=gf from e,HGB3.out] at h;cases h)).trans HKC3.out
 clear HKC0 HKC1 HKC2 HKC3 HMB3 HGB3 HKA0 HKA1 HKA2;go_wp2_with (fail);clear g1 g2 g3;generalize y3.setCell ⟨gf,5,none⟩ (.pointer (some ⟨gt,0,none⟩))=w5 at*
 go_end0
 exact ⟨rfl,gm,gk,ga,gt,HG5.out,HK0.out.2,HK1.out.2,HK2.out.2,HK3.out.2,HKB0.out,HKB1.out,HKB2.out,HKB3.out,HM5.out⟩
end Sh
namespace Ln
open Ch
theorem setCells_size(b:Nat):∀(vs:List Value) (o:Nat) (w:World),(w.setCells b o vs).heap.size=w.heap.size
 |[],_,_=>rfl
 |v::r,o,w=>by rw [World.setCells,setCells_size b r];simp [World.setCell]
theorem setCells_other(b k:Nat)(hk:k≠b):∀(vs:List Value) (o:Nat) (w:World),(w.setCells b o vs).heap[k]? =w.heap[k]?
 |[],_,_=>rfl
 |v::r,o,w=>by rw [World.setCells,setCells_other b k hk r];exact Below.heap_setCell _ _ _ _ (by exact hk)
theorem setCells_heap(b:Nat)(t:TypeId):∀(vs:List Value) (o:Nat) (w:World) (cur:List Value),w.heap[b]? =some (.cells cur.toArray t (0,0))→o+vs.length≤cur.length→
  (w.setCells b o vs).heap[b]? =some (.cells (cur.take o++vs++cur.drop (o+vs.length)).toArray t (0,0))
 |[],o,w,cur,h,_=>by simpa [World.setCells] using h
 |v::r,o,w,cur,h,hl=>by
  simp only [List.length_cons] at hl;have h1:=heap_set (i:=o) h v;rw [List.setIfInBounds_toArray] at h1;have ih:=setCells_heap b t r (o+1) _ _ h1 (by rw [List.length_set];omega)
  have e1:(cur.set o v).take o=cur.take o:=by rw [List.take_set,List.set_eq_of_length_le (by simp;omega)]
  have e2:(cur.set o v)[o]? =some v:=by rw [List.getElem?_set_self (by omega)]
  have e3:(cur.set o v).drop (o+1+r.length)=cur.drop (o+1+r.length):=List.drop_set_of_lt (by omega)
  rw [World.setCells,ih,List.take_add_one,e1,e2,e3];simp only [Option.toList_some,List.append_assoc,List.cons_append,List.nil_append,List.length_cons];rw [show o+1+r.length=o+(r.length+1) by omega]
theorem setCells_frame(b:Nat)(vs:List Value)(o:Nat)(w:World):(w.setCells b o vs).os=w.os∧(w.setCells b o vs).tape=w.tape∧(w.setCells b o vs).output=w.output:=by
 induction vs generalizing o w with
 |nil=>exact ⟨rfl,rfl,rfl⟩
 |cons v r ih=>rw [World.setCells];exact ih _ _
theorem setCells_grown{a w:World}{b:Nat}(h:a.grownBy w (some b))(o:Nat)(vs:List Value):a.grownBy (w.setCells b o vs) (some b):=by
 obtain ⟨h1,h2,h3⟩:=setCells_frame b vs o w;exact Bas.gtrans h ⟨h1,h2,h3,by rw [setCells_size];exact Nat.le_refl _,fun k _ hk=>setCells_other b k (fun e=>hk (by rw [e])) vs o w⟩
def RawAt(w:World)(b:Nat)(cur:List Value):Prop:=w.heap[b]? =some (.cells cur.toArray 78 (0,0))
theorem RawAt.cell{w:World}{b:Nat}{cur:List Value}(h:RawAt w b cur){j:Nat}{v:Value}(hv:cur[j]? =some v):w.cell? ⟨b,j,none⟩=some v:=cell_of_heap h (by simpa using hv)
theorem RawAt.free{w:World}{b:Nat}{cur:List Value}(h:RawAt w b cur)(j:Nat):w.frozen? ⟨b,j,none⟩=false:=free_of_heap h
theorem RawAt.set{w:World}{b:Nat}{cur:List Value}(h:RawAt w b cur)(o:Nat)(vs:List Value)(hl:o+vs.length≤cur.length):RawAt (w.setCells b o vs) b (cur.take o++vs++cur.drop (o+vs.length)):=setCells_heap b _ vs o w cur h hl
theorem RawAt.owned{w:World}{base b n cp:Nat}{cur:List Value}(h:RawAt w b cur)(hb:base≤b)(hn:n≤cp)(hc:cp≤maxLen)(hl:cur.length=cp*2)(xs:List Value)(hx:cur.take (n*2)=xs):w.ownsRow base 78 2 (.slice (some ⟨b,0,none⟩) n cp) n xs:=by
 subst hx;refine ⟨by rw [List.length_take];omega,.inr ⟨b,cp,cur.toArray,rfl,hb,h,hn,hc,by simpa using hl,by simp⟩⟩
theorem raw_of_owned{w:World}{base n:Nat}{sv:Value}{xs:List Value}(h:w.ownsRow base 78 2 sv n xs)(hn:0<n):∃b cp cur,sv=.slice (some ⟨b,0,none⟩) n cp∧base≤b∧RawAt w b cur∧n≤cp∧cp≤maxLen∧cur.length=cp*2∧cur.take (n*2)=xs:=by
 obtain ⟨_,⟨_,h0⟩|⟨g,cap,cur,hv,hb,hh,hc,hm,hs,ht⟩⟩:=h
 ·omega
 ·exact ⟨g,cap,cur.toList,hv,hb,by simpa [RawAt] using hh,hc,hm,by simpa using hs,ht⟩
theorem zeroCells_len(z:Array Value)(k:Nat):(Builtin.zeroCells z k).toList.length=k*z.size:=by simp [Builtin.zeroCells]
theorem zeroG_one(n:Nat):∀v∈(Builtin.zeroCells (Value.agg #[.int .i64 0,.int .i64 0]).cells n).toList,v.oneCell'=true:=by
 intro v hv;simp only [Builtin.zeroCells,Array.toList_map,List.mem_map,Array.mem_toList_iff,Array.mem_range] at hv;obtain ⟨i,_,rfl⟩:=hv;have hc:(Value.agg #[.int .i64 0,.int .i64 0]).cells=#[.int .i64 0,.int .i64 0]:=rfl;rw [hc];have:i%2=0∨i%2=1:=by omega
 rcases this with h|h<;>simp [h]<;>rfl
theorem run_clear_gl(w:World)(ty:TypeId)(b off k cap:Nat)(hc:∀j,j<k*2→(w.cell? ⟨b,off+j,none⟩).isSome=true)(hf:∀j,j<k*2→w.frozen? ⟨b,off+j,none⟩=false):
  (Builtin.clear_ #[248] ty #[.slice (some ⟨b,off,none⟩) k cap]).run Tryz.prog w=.ok (.tuple #[]) (w.setCells b off (Builtin.zeroCells (Value.agg #[.int .i64 0,.int .i64 0]).cells k).toList):=by
 obtain ⟨i,hi,hz,hsz,hby⟩:=info_parts infoG;have hlen:(Builtin.zeroCells (Value.agg #[.int .i64 0,.int .i64 0]).cells k).toList.length=k*2:=zeroCells_len _ _;have hst:=run_storeCells_cells (P:=Tryz.prog) b off (Builtin.zeroCells (Value.agg #[.int .i64 0,.int .i64 0]).cells k).toList 0 w (by rw [hlen];simpa using hc) (by rw [hlen];simpa using hf) (zeroG_one _)
 cases k with
 |zero=>simp [Builtin.clear_,run_underlying Tryz.underlying248,Builtin.zeroCells,World.setCells]
 |succ k=>
  simp only [Nat.add_zero] at hst;simp [Builtin.clear_,run_underlying Tryz.underlying248,zeroValue,typeInfo,hi,hz,hst]
theorem own_put2{w:World}{base g n cp k:Nat}{xs:List Gl}(h:w.ownsRow base 78 2 (.slice (some ⟨g,0,none⟩) n cp) n (xs.flatMap glC))(hk:k<xs.length)(a b:Int):
  ((w.setCell ⟨g,k*2,none⟩ (.int .i64 a)).setCell ⟨g,k*2+1,none⟩ (.int .i64 b)).ownsRow base 78 2 (.slice (some ⟨g,0,none⟩) n cp) n ((xs.set k (a,b)).flatMap glC):=by
 obtain ⟨x,hx⟩:∃x,xs[k]? =some x:=⟨_,List.getElem?_eq_getElem hk⟩;have h1:=own_putN h (k*2) (.int .i64 a);rw [glC_set1 xs k a x hx] at h1;have h2:=own_putN h1 (k*2+1) (.int .i64 b);rw [glC_set2 (xs.set k (a,x.2)) k b (a,x.2) (by rw [List.getElem?_set_self hk])] at h2
 simpa using h2
theorem own_cells{w:World}{base n:Nat}{sv:Value}{xs:List Gl}(h:w.ownsRow base 78 2 sv n (xs.flatMap glC)){k:Nat}{x:Gl}(hx:xs[k]? =some x):
  ∃bo cp,sv=.slice (some ⟨bo,0,none⟩) n cp∧bo<w.heap.size∧base≤bo∧w.cell? ⟨bo,k*2,none⟩=some (.int .i64 x.1)∧w.cell? ⟨bo,k*2+1,none⟩=some (.int .i64 x.2)∧∀i,w.frozen? ⟨bo,i,none⟩=false:=by
 have hL:=Row.leads_elem glC_len (Row.leads_owned h) hx (by omega)
 obtain ⟨hlen,⟨h2,h3⟩|⟨bo,cap,cur,hv,hb,hh,hc,hm,hs,ht⟩⟩:=h
 ·have h4:=glC_flat xs;rw [h3] at hlen;have:=(List.getElem?_eq_some_iff.1 hx).1;omega
 ·obtain ⟨b2,o2,c2,hv2,hcell⟩:=hL;rw [hv] at hv2;cases hv2;exact ⟨bo,cap,hv,heap_lt hh,hb,by simpa using hcell 0 _ rfl,by simpa using hcell 1 _ rfl,fun i=>free_of_heap hh⟩
def RevTo(xs ys:List Gl)(i:Nat):Prop:=ys.length=xs.length∧∀k,k<xs.length→ys[k]? =xs[if k<i∨xs.length≤k+i then xs.length - 1 - k else k]?
theorem revTo_zero(xs:List Gl):RevTo xs xs 0:=⟨rfl,fun k hk=>by rw [if_neg (by omega)]⟩
theorem revTo_succ{xs ys:List Gl}{i j:Nat}(h:RevTo xs ys i)(hij:i<j)(hj:j+i+1=xs.length){a b:Gl}(ha:ys[i]? =some a)(hb:ys[j]? =some b):RevTo xs ((ys.set i b).set j a) (i+1):=by
 obtain ⟨h1,h2⟩:=h;refine ⟨by simpa using h1,fun k hk=> ?_⟩
 have hi2:=h2 i (by omega)
 have hj2:=h2 j (by omega)
 rw [if_neg (by omega)] at hi2 hj2
 by_cases hkj:k=j
 ·subst hkj;rw [List.getElem?_set_self (by simp;omega),if_pos (by omega),←ha,hi2]
  congr 1;omega
 ·rw [List.getElem?_set_ne (by omega)]
  by_cases hki:k=i
  ·subst hki;rw [List.getElem?_set_self (by omega),if_pos (by omega),←hb,hj2]
   congr 1;omega
  ·rw [List.getElem?_set_ne (by omega),h2 k hk]
   by_cases hc:k<i∨xs.length≤k+i
   ·rw [if_pos hc,if_pos (by omega)]
   ·rw [if_neg hc,if_neg (by omega)]
theorem revTo_end{xs ys:List Gl}{i:Nat}(h:RevTo xs ys i)(hi:xs.length≤i+i+1):ys=xs.reverse:=by
 obtain ⟨h1,h2⟩:=h;apply List.ext_getElem?;intro k;by_cases hk:k<xs.length
 ·rw [h2 k hk,List.getElem?_reverse hk];split
  ·rfl
  ·congr 1;omega
 ·rw [List.getElem?_eq_none (by omega),List.getElem?_eq_none (by simp;omega)]
theorem reverse_any(base:Nat)(sv:Value)(xs:List Gl)(n:Nat)(w:World)(ho:w.ownsRow base 78 2 sv n (xs.flatMap glC))(hn:xs.length=n)(hn2:n≤4294967296):
  Calls Tryz.prog 226 #[sv] w fun e w'=>e=.returned (.tuple #[])∧w'.ownsRow base 78 2 sv n (xs.reverse.flatMap glC)∧w.grownBy w' sv.ownBlock:=by
 obtain ⟨ad,cp,rfl⟩:=own_slice ho;have HO:=Bas.hid ho;have HN:=Bas.hid hn;clear ho hn;go_enter Tryz.func226,Tryz.ntmps226
 go_wp2_with (fail);go_loopw [2,3] (fun vi vj wr=>∃(i:Nat) (ji:Int) (ys:List Gl),i≤n∧vi=.int .i64 i∧vj=.int .i64 ji∧ji=(n:Int) - 1 - i∧wr.ownsRow base 78 2 (.slice ad n cp) n (ys.flatMap glC)∧RevTo xs ys i∧w.grownBy wr (Value.ownBlock (.slice ad n cp))) (fun vi _ _=>n - (intOf vi).toNat)
 case atStart=>exact ⟨0,(n:Int) - 1,xs,Nat.zero_le _,rfl,rfl,by omega,HO.out,revTo_zero xs,Bas.grefl _ _⟩
 case round=>
  obtain ⟨i,ji,ys,hi,rfl,rfl,hji,ho,hr,hg⟩:=hrel;have HOY:=Bas.hid ho;have HR:=Bas.hid hr;have HG:=Bas.hid hg;by_cases hij:(i:Int)<ji
  ·obtain ⟨j,rfl⟩:=Int.eq_ofNat_of_zero_le (show 0≤ji by omega)
   have e1:decide ((i:Int)<(j:Int))=true:=by simp;omega
   have HJ:=Bas.hid hji;have hyl:=hr.1;have hjn:j<n:=by omega
   have hin:i<n:=by omega
   obtain ⟨⟨x0,x1⟩,hx⟩:∃x,ys[i]? =some x:=⟨_,List.getElem?_eq_getElem (by rw [hyl,HN.out];exact hin)⟩
   obtain ⟨⟨y0,y1⟩,hy⟩:∃y,ys[j]? =some y:=⟨_,List.getElem?_eq_getElem (by rw [hyl,HN.out];exact hjn)⟩
   obtain ⟨bo,cp',hv,hlt,hbb,c0,c1,hfr⟩:=own_cells ho hx;cases hv;obtain ⟨_,_,hv2,_,_,d0,d1,_⟩:=own_cells ho hy;cases hv2;have HX:=Bas.hid hx;have HY:=Bas.hid hy;have HYL:=Bas.hid hyl;have e5:decide ((i:Int)<(n:Int))=true:=by simp;omega
   have e6:decide ((j:Int)<(n:Int))=true:=by simp;omega
   simp only at c0 c1 d0 d1;clear ho hr hg hji hx hy hfr hyl;go_wp2_with (fail);refine' Pl.region_v0 28 [2,3] [0,1,4,5,6,7,8,9,10,11,12] [13,14,15] _ (by kernel_rfl) (by kernel_rfl) (by simp) (fun _ _ _ _ e h=>⟨e▸h.1,h.2⟩) ?_ ?_
   rotate_left
   ·intro I F hI hF;simp only [Pl.selN,List.nil_append,List.cons_append,List.drop_succ_cons,List.drop_zero];have t0:=fun i=>hF.cell hlt c0 i
    have t1:=fun i=>hF.cell hlt c1 i
    have t2:=fun i=>hF.cell hlt d0 i
    have t3:=fun i=>hF.cell hlt d1 i
    repeat (go_big_quiet_step (fail))
    refine wpQuiet_nil ?_;rfl
   intro w5 hw5;simp only [Pl.selN,List.drop_succ_cons,List.drop_zero];have HO5:=Bas.hid (Row.owned_below HOY.out hw5);have HG5:=Bas.hid (Bas.gbelow HG.out hw5);obtain ⟨_,_,hv3,hlt5,_,p0,p1,hfr⟩:=own_cells HO5.out HX.out;cases hv3;obtain ⟨_,_,hv4,_,_,q0,q1,_⟩:=own_cells HO5.out HY.out;cases hv4;have f0:=hfr (i*2);have f1:=hfr (i*2+1);have f2:=hfr (j*2);have f3:=hfr (j*2+1);have HS:=Bas.hid (own_put2 HO5.out (k:=i) (by rw [HYL.out,HN.out];exact hin) y0 y1)
   have HS2:=Bas.hid (own_put2 HS.out (k:=j) (by rw [List.length_set,HYL.out,HN.out];exact hjn) x0 x1)
   have HGS:=Bas.hid (Bas.gset (Bas.gset (Bas.gset (Bas.gset HG5.out (i*2) (.int .i64 y0)) (i*2+1) (.int .i64 y1)) (j*2) (.int .i64 x0)) (j*2+1) (.int .i64 x1));simp only at p0 p1 q0 q1;clear hw5 hfr HS c0 c1 d0 d1 hlt;go_wp2_with (fail);go_roundw
   case rel=>
    exact ⟨i+1,(j:Int) - 1,_,by omega,by go_num,by go_num,by have:=HJ.out;omega,HS2.out,revTo_succ HR.out (by omega) (by rw [HN.out];have:=HJ.out;omega) HX.out HY.out,HGS.out⟩
   case measure=>simp [intOf];omega
  ·have e1:decide ((i:Int)<ji)=false:=by simp;omega
   have HF:Hid (ys=xs.reverse):=revTo_end HR.out (by rw [HN.out];omega)
   clear ho hr hg hji;go_wp2_with (fail)
   go_end0
   exact ⟨rfl,HF.out▸HOY.out,HG.out⟩
theorem clean1_any(a b:Int)(w:World):Calls Tryz.prog 181 #[.agg #[.int .i64 a,.int .i64 b]] w fun e w'=>e=.returned (.bool (decide (a=65535)))∧Below w.heap.size w w':=by
 have HB:=Bas.hid ((Below.refl w.heap.size w).alloc (Nat.le_refl _) (.cells #[.int .i64 a,.int .i64 b] 78));have k:=Bas.heap_new w (.cells #[.int .i64 a,.int .i64 b] 78);have c0:=cell_of_heap (i:=0) k rfl;have lk:=heap_lt k;clear k;go_enter Tryz.func181,Tryz.ntmps181
 go_wp2_with (fail);go_ret;exact ⟨by simp;rfl,HB.out⟩
def IdxP(w:World)(xs:List Gl)(e:Ending)(w':World):Prop:=
 Below w.heap.size w w'∧((∃k x,e=.returned (.int .i64 (k:Nat))∧xs[k]? =some x∧x.1=65535∧∀(j:Nat) (y:Gl),j<k→xs[j]? =some y→y.1≠65535)∨(e=.returned (.int .i64 (-1))∧∀(j:Nat) (y:Gl),xs[j]? =some y→y.1≠65535))
theorem index_any(ad:Option Addr)(cp:Nat)(xs:List Gl)(n:Nat)(w:World)(hl:Row.Leads w (.slice ad n cp) n (xs.flatMap glC))(hn:xs.length=n)(hn2:n≤4294967296):
  Calls Tryz.prog 227 #[.slice ad n cp,.func (.func 181) #[] #[]] w (IdxP w xs):=by
 have HL:=Bas.hid hl;have HN:=Bas.hid hn;clear hl hn;go_enter Tryz.func227,Tryz.ntmps227
 go_wp2_with (fail);go_loopw [8] (fun vi wr=>∃i:Nat,i≤n∧vi=.int .i64 i∧Below w.heap.size w wr∧∀(j:Nat) (y:Gl),j<i→xs[j]? =some y→y.1≠65535) (fun vi _=>n - (intOf vi).toNat)
 case atStart=>exact ⟨0,Nat.zero_le _,rfl,Below.refl _ _,fun j y h=>by omega⟩
 case round=>
  obtain ⟨i,hi,rfl,hb,hno⟩:=hrel;have HB:=Bas.hid hb;have HNO:=Bas.hid hno;by_cases hin:i<n
  ·have e1:decide ((i:Int)<(n:Int))=true:=by simp;omega
   have e2:decide (i<n)=true:=by simp;omega
   obtain ⟨⟨x0,x1⟩,hx⟩:∃x,xs[i]? =some x:=⟨_,List.getElem?_eq_getElem (by rw [HN.out];exact hin)⟩
   obtain ⟨b,o,c,hv,hc⟩:=Row.leads_elem glC_len (Row.leads_below HL.out hb) hx (by omega)
   cases hv;have d0:=hc 0 _ rfl;have d1:=hc 1 _ rfl;simp only [Nat.add_zero] at d0;have lb:=World.block_lt_of_cell? _ _ d0;have HX:=Bas.hid hx;have HC:=Bas.hid (clean1_any x0 x1 wr);clear hb hno hc hx;go_wp2_with (fail);refine HC.out.mono ?_;rintro e w2 ⟨rfl,hb2⟩;have HB2:=Bas.hid (HB.out.trans (hb2.mono HB.out.size));clear hb2 HC d0 d1 lb;by_cases h5:x0=65535
   ·have e5:decide (x0=65535)=true:=decide_eq_true h5;have H5:=Bas.hid h5;clear h5;go_wp2_with (fail);go_ret;exact ⟨HB2.out,.inl ⟨i,(x0,x1),rfl,HX.out,H5.out,HNO.out⟩⟩
   ·have e5:decide (x0=65535)=false:=decide_eq_false h5;have HNO2:Hid (∀(j:Nat) (y:Gl),j<i+1→xs[j]? =some y→y.1≠65535):=fun j y hj hy=>by
     by_cases hji:j=i
     ·subst hji;rw [HX.out] at hy;cases hy;exact h5
     ·exact HNO.out j y (by omega) hy
    clear h5;go_wp2_with (fail);go_roundw
    case rel=>exact ⟨i+1,by omega,by go_num,HB2.out,HNO2.out⟩
    case measure=>simp [intOf];omega
  ·have e1:decide ((i:Int)<(n:Int))=false:=by simp;omega
   have e2:decide (i<n)=false:=by simp;omega
   have e3:¬(i:Int)<(n:Int):=by omega
   have HALL:Hid (∀(j:Nat) (y:Gl),xs[j]? =some y→y.1≠65535):=fun j y hy=>HNO.out j y (by have:=(List.getElem?_eq_some_iff.1 hy).1;rw [HN.out] at this;omega) hy
   clear hb hno;go_wp2_with (fail);go_ret;exact ⟨HB.out,.inr ⟨rfl,HALL.out⟩⟩
theorem flat_take(xs:List Gl)(k:Nat):(xs.flatMap glC).take (k*2)=(xs.take k).flatMap glC:=by
 induction xs generalizing k with
 |nil=>simp
 |cons x xs ih=>
  cases k with
  |zero=>simp
  |succ k=>
   rw [List.flatMap_cons,show (k+1)*2=(glC x).length+k*2 by rw [glC_len];omega,List.take_length_add_append,ih,List.take_succ_cons,List.flatMap_cons]
theorem splice_lo{l cs:List Value}{o k:Nat}(hk:k≤o)(ho:o≤l.length):(l.take o++cs++l.drop (o+cs.length)).take k=l.take k:=by
 rw [List.append_assoc,List.take_append_of_le_length (by rw [List.length_take];omega),List.take_take,Nat.min_eq_left hk]
theorem splice_len{l cs:List Value}{o:Nat}(ho:o+cs.length≤l.length):(l.take o++cs++l.drop (o+cs.length)).length=l.length:=by
 rw [List.length_append,List.length_append,List.length_take,List.length_drop];omega
theorem clean_all{xs:List Gl}(h:∀(j:Nat) (y:Gl),xs[j]? =some y→y.1≠65535):cleanL xs=xs:=by
 unfold cleanL;rw [List.filter_eq_self];intro y hy;obtain ⟨j,hj⟩:=List.getElem?_of_mem hy;simpa using h j y hj
theorem clean_snoc(xs:List Gl)(j:Nat)(y:Gl)(h:xs[j]? =some y):cleanL (xs.take (j+1))=if y.1=65535 then cleanL (xs.take j) else cleanL (xs.take j)++[y]:=by
 unfold cleanL;rw [List.take_add_one,h,List.filter_append];split<;>rename_i hy<;>simp [hy]
structure DelTo (xs ys:List Gl) (i j:Nat):Prop where
 len:ys.length=xs.length
 pre:ys.take i=cleanL (xs.take j)
 at':i≤j
 post:∀k,j≤k→ys[k]? =xs[k]?
theorem DelTo.skip{xs ys:List Gl}{i j:Nat}(h:DelTo xs ys i j){y:Gl}(hy:xs[j]? =some y)(hd:y.1=65535):DelTo xs ys i (j+1):=
 ⟨h.len,by rw [clean_snoc xs j y hy,if_pos hd];exact h.pre,by have:=h.at';omega,fun k hk=>h.post k (by omega)⟩
theorem DelTo.keep{xs ys:List Gl}{i j:Nat}(h:DelTo xs ys i j){y:Gl}(hy:xs[j]? =some y)(hd:y.1≠65535):DelTo xs (ys.set i y) (i+1) (j+1):=by
 have hj:=(List.getElem?_eq_some_iff.1 hy).1;have h3:=h.at';have h1:=h.len;refine ⟨by simpa using h1, ?_,by omega,fun k hk=>by rw [List.getElem?_set_ne (by omega)];exact h.post k (by omega)⟩
 rw [clean_snoc xs j y hy,if_neg hd,←h.pre,List.take_add_one,List.getElem?_set_self (by omega),List.take_set,List.set_eq_of_length_le (by rw [List.length_take];exact Nat.min_le_left _ _)]
 rfl
theorem delTo_start{xs:List Gl}{k:Nat}{x:Gl}(hx:xs[k]? =some x)(h5:x.1=65535)(hno:∀(j:Nat) (y:Gl),j<k→xs[j]? =some y→y.1≠65535):DelTo xs xs k (k+1):=by
 refine ⟨rfl, ?_,by omega,fun _ _=>rfl⟩
 rw [clean_snoc xs k x hx,if_pos h5,clean_all];intro j y hy;rw [List.getElem?_take] at hy;split at hy
 ·rename_i hj;exact hno j y hj hy
 ·cases hy
theorem delete_any(base:Nat)(sv:Value)(xs:List Gl)(n:Nat)(w:World)(ho:w.ownsRow base 78 2 sv n (xs.flatMap glC))(hn:xs.length=n)(hn2:n≤4294967296):
  Calls Tryz.prog 180 #[sv,.func (.func 181) #[] #[]] w fun e w'=>∃sv',e=.returned sv'∧w'.ownsRow base 78 2 sv' (cleanL xs).length ((cleanL xs).flatMap glC)∧w.grownBy w' sv.ownBlock∧sv'.ownBlock=sv.ownBlock:=by
 obtain ⟨ad,cp,rfl⟩:=own_slice ho;have HO:=Bas.hid ho;have HN:=Bas.hid hn;have HIX:=Bas.hid (index_any ad cp xs n w (Row.leads_owned ho) hn hn2);clear ho hn;go_enter Tryz.func180,Tryz.ntmps180
 go_wp2_with (fail);refine HIX.out.mono ?_;rintro e w1 ⟨hb1,⟨k,x,rfl,hx,h5,hno⟩|⟨rfl,hno⟩⟩
 ·have hk:=(List.getElem?_eq_some_iff.1 hx).1;rw [HN.out] at hk;have HD:=Bas.hid (delTo_start hx h5 hno);have HO1:=Bas.hid (Row.owned_below HO.out hb1);have HG1:=Bas.hid (Bas.gbelow (Bas.grefl w (Value.ownBlock (.slice ad n cp))) hb1);have e0:((k:Int)==-1)=false:=beq_eq_false_iff_ne.2 (by omega)
  clear hx h5 hno hb1 HIX;go_wp2_with (fail);go_loopw [5,6] (fun vi vj wr=>∃(i j:Nat) (ys:List Gl),j≤n∧vi=.int .i64 i∧vj=.int .i64 j∧wr.ownsRow base 78 2 (.slice ad n cp) n (ys.flatMap glC)∧DelTo xs ys i j∧w.grownBy wr (Value.ownBlock (.slice ad n cp))) (fun _ vj _=>n - (intOf vj).toNat)
  case atStart=>exact ⟨k,k+1,xs,by omega,rfl,rfl,HO1.out,HD.out,HG1.out⟩
  case round=>
   obtain ⟨i,j,ys,hj,rfl,rfl,hoy,hd,hg⟩:=hrel;have HOY:=Bas.hid hoy;have HDY:=Bas.hid hd;have HGY:=Bas.hid hg;have hij:=hd.at';by_cases hjn:j<n
   ·have e1:decide ((j:Int)<(n:Int))=true:=by simp;omega
    have hyl:=hd.len;rw [HN.out] at hyl;obtain ⟨⟨y0,y1⟩,hy⟩:∃y,ys[j]? =some y:=⟨_,List.getElem?_eq_getElem (by rw [hyl];exact hjn)⟩
    have HXJ:=Bas.hid ((hd.post j (Nat.le_refl _)).symm.trans hy);obtain ⟨bo,cp',hv,hlt,hbb,c0,c1,hfr⟩:=own_cells hoy hy;cases hv;have HYL:=Bas.hid hyl;simp only at c0 c1;have k1:=Bas.heap_new wr (.cells #[.int .i64 y0,.int .i64 y1] 78);have hb1:=(Below.refl wr.heap.size wr).alloc (Nat.le_refl _) (.cells #[.int .i64 y0,.int .i64 y1] 78);clear hoy hd hg hfr hyl hy;go_wp2_with (fail);refine (clean1_any y0 y1 _).mono ?_;rintro e w2 ⟨rfl,hb2⟩;have hb3:=hb1.trans (hb2.mono hb1.size);have HOY2:=Bas.hid (Row.owned_below HOY.out hb3);have HGY2:=Bas.hid (Bas.gbelow HGY.out hb3);have kT:=(hb2.block _ (heap_lt k1)).trans k1;clear hb1 hb2 hb3 k1 HOY HGY c0 c1 hlt;by_cases h5:y0=65535
    ·have e5:decide (y0=65535)=true:=decide_eq_true h5;have HD2:=Bas.hid (HDY.out.skip HXJ.out h5);clear h5 kT;go_wp2_with (fail);go_roundw
     case rel=>exact ⟨i,j+1,ys,by omega,rfl,by go_num,HOY2.out,HD2.out,HGY2.out⟩
     case measure=>simp [intOf];omega
    ·have e5:decide (y0=65535)=false:=decide_eq_false h5;have HD2:=Bas.hid (HDY.out.keep HXJ.out h5);have hin:i<n:=by omega
     obtain ⟨⟨x0,x1⟩,hx⟩:∃x,ys[i]? =some x:=⟨_,List.getElem?_eq_getElem (by rw [HYL.out];exact hin)⟩
     obtain ⟨_,_,hv3,hlt5,_,p0,p1,hfr⟩:=own_cells HOY2.out hx;cases hv3;have f0:=hfr (i*2);have f1:=hfr (i*2+1);have e6:decide ((i:Int)<(n:Int))=true:=by simp;omega
     have HS:=Bas.hid (own_put2 HOY2.out (k:=i) (by rw [HYL.out];exact hin) y0 y1)
     have HGS:=Bas.hid (Bas.gset (Bas.gset HGY2.out (i*2) (.int .i64 y0)) (i*2+1) (.int .i64 y1));have t0:=cell_of_heap (i:=0) kT rfl;have t1:=cell_of_heap (i:=1) kT rfl;have lT:=heap_lt kT;clear h5 kT hfr hx;go_wp2_with (fail);go_roundw
     case rel=>exact ⟨i+1,j+1,_,by omega,by go_num,by go_num,HS.out,HD2.out,HGS.out⟩
     case measure=>simp [intOf];omega
   ·have e1:decide ((j:Int)<(n:Int))=false:=by simp;omega
    have hjn2:j=n:=by omega
    have HF:Hid (ys.take i=cleanL xs):=by
     have h:=HDY.out.pre;rw [hjn2,List.take_of_length_le (l:=xs) (by rw [HN.out];exact Nat.le_refl _)] at h
     exact h
    have hyl:=hd.len;rw [HN.out] at hyl;have HYL:=Bas.hid hyl;obtain ⟨b,cp2,cur,h1,hbb,hraw,hncp,hcpm,hcl,hct⟩:=raw_of_owned hoy (by omega)
    cases h1;have HRAW:=Bas.hid hraw;have HCT:=Bas.hid hct;have HCL:=Bas.hid hcl;have HCM:=Bas.hid hcpm;have hin:i≤n:=by omega
    have hk1:i<n∨i=n:=by omega
    have HLC:Hid ((cleanL xs).length=i):=by unfold Hid;rw [←HF.out,List.length_take];omega
    have hcp63:cp≤9223372036854775807:=by unfold maxLen at hcpm;omega
    have HTK:Hid (cur.take (i*2)=(cleanL xs).flatMap glC):=by
     unfold Hid;have h:(cur.take (n*2)).take (i*2)=(ys.flatMap glC).take (i*2):=by rw [HCT.out]
     rw [List.take_take,Nat.min_eq_left (by omega),flat_take,HF.out] at h
     exact h
    rcases Nat.eq_or_lt_of_le (Nat.le_trans hin hncp) with hic|hic
    ·have hcn:n=cp:=by omega
     subst hcn;subst hic;clear hoy hd hg hyl hraw hcpm hcl hct hjn2 hij;go_wp2_with (fail);have hz:∀ty,(Builtin.clear_ #[248] ty #[.slice (some ⟨b,0,none⟩) 0 0]).run Tryz.prog wr=.ok (.tuple #[]) wr:=fun ty=>by
      rw [run_clear_gl wr ty b 0 0 0 (fun j hj=>by omega) (fun j hj=>by omega)]
      simp [Builtin.zeroCells,World.setCells]
     rw [hz];clear hz;go_wp2_with (fail);go_ret;refine ⟨_,rfl, ?_, ?_,rfl⟩
     ·rw [HLC.out];exact HRAW.out.owned hbb (Nat.le_refl _) HCM.out HCL.out _ HTK.out
     ·exact HGY.out
    ·have hrun:=run_clear_gl wr 0 b (i*2) (n - i) (cp - i) (fun j hj=>by
      have:i*2+j<cur.length:=by omega
      rw [hraw.cell (List.getElem?_eq_getElem this)];rfl) (fun j _=>hraw.free _)
     have hlen:(Builtin.zeroCells (Value.agg #[.int .i64 0,.int .i64 0]).cells (n - i)).toList.length=(n - i)*2:=zeroCells_len _ _;have HR2:=Bas.hid (hraw.set (i*2) _ (by rw [hlen];omega))
     have HG2:=Bas.hid (setCells_grown HGY.out (i*2) (Builtin.zeroCells (Value.agg #[.int .i64 0,.int .i64 0]).cells (n - i)).toList);generalize (Builtin.zeroCells (Value.agg #[.int .i64 0,.int .i64 0]).cells (n - i)).toList=zs at*;have HZ:=Bas.hid hlen;have HRUN:=Bas.hid hrun;clear hoy hd hg hyl hraw hcpm hcl hct hjn2 hij hlen hrun;go_wp2_with (fail);rw [HRUN.out];go_wp2_with (fail);go_ret;refine ⟨_,rfl, ?_,HG2.out,rfl⟩;rw [HLC.out];have hcl:=HCL.out;refine HR2.out.owned hbb (Nat.le_of_lt hic) HCM.out (by rw [splice_len (by rw [HZ.out];omega)];exact HCL.out) _ ?_
     rw [splice_lo (Nat.le_refl _) (by omega)]
     exact HTK.out
 ·have HC:=Bas.hid (clean_all hno);have HO1:=Bas.hid (Row.owned_below HO.out hb1);have HG1:=Bas.hid (Bas.gbelow (Bas.grefl w (Value.ownBlock (.slice ad n cp))) hb1);clear hno hb1 HIX;go_wp2_with (fail);go_ret;refine ⟨_,rfl, ?_,HG1.out,rfl⟩;rw [HC.out,HN.out];exact HO1.out
theorem lnTo_same{w w':World}{base g:Nat}{sv:Value}{xs ys:List Gl}(h:LineAt w base g sv xs)(ho:w'.ownsRow base 78 2 sv ys.length (ys.flatMap glC))(hg:w.grownBy w' sv.ownBlock):LnTo w base g sv ys w':=
 ⟨sv,⟨(hg.block g h.lt (fun e=>h.ne e.symm)).trans h.head,ho,h.low⟩,Mod.of_grown hg (fun _k hk=>.inr hk),fun _ h=>.inl h⟩
theorem lnTo_store{w w':World}{base g:Nat}{sv sv':Value}{xs ys:List Gl}(h:LineAt w base g sv xs)(ho:w'.ownsRow base 78 2 sv' ys.length (ys.flatMap glC))(hg:w.grownBy w' sv.ownBlock)
  (hat:sv'.ownBlock=sv.ownBlock∨∃k,sv'.ownBlock=some k∧w.heap.size≤k):LnTo w base g sv ys (w'.setCell ⟨g,0,none⟩ sv'):=by
 have h7:=(hg.block g h.lt (fun e=>h.ne e.symm)).trans h.head
 have k8:=heap_set (i:=0) h7 sv';refine ⟨sv',⟨k8, ?_,h.low⟩,(Mod.of_grown hg (fun k hk=>.inr hk)).set (S:=blk g sv) sv' (.inl (.inl rfl)),fun k hk=> ?_⟩
 ·exact Row.owned_keep ho fun k hk=>Below.heap_setCell _ _ _ _ (fun e=>own_ty ho h7 (by decide) (by rw [hk,e]))
 ·rcases hat with h1|⟨k',h1,h2⟩
  ·exact .inl (h1▸hk)
  ·rw [h1] at hk;cases hk;exact .inr h2
theorem turn_any(base g:Nat)(sv:Value)(xs:List Gl)(w:World)(h:LineAt w base g sv xs)(hn:xs.length≤4294967296):
  Calls Tryz.prog 179 #[.pointer (some ⟨g,0,none⟩)] w fun e w'=>e=.returned (.tuple #[])∧LnTo w base g sv xs.reverse w':=by
 have HC:=Bas.hid (reverse_any base sv xs xs.length w h.own rfl hn);have HH:=Bas.hid h;obtain ⟨ad,cp,rfl⟩:=own_slice h.own;have g0:=cell_of_heap (i:=0) (v:=.slice ad xs.length cp) h.head rfl;have lg:=h.lt;clear h;go_enter Tryz.func179,Tryz.ntmps179
 go_wp2_with (fail);refine HC.out.mono ?_;rintro e w2 ⟨rfl,ho,hg⟩;have HR:=Bas.hid (lnTo_same HH.out (by rw [List.length_reverse];exact ho) hg)
 clear ho hg HC;go_wp2_with (fail)
 go_end0
 exact ⟨rfl,HR.out⟩
theorem clean_any(base g:Nat)(sv:Value)(xs:List Gl)(w:World)(h:LineAt w base g sv xs)(hn:xs.length≤4294967296):
  Calls Tryz.prog 119 #[.pointer (some ⟨g,0,none⟩)] w fun e w'=>e=.returned (.tuple #[])∧LnTo w base g sv (cleanL xs) w':=by
 have HC:=Bas.hid (delete_any base sv xs xs.length w h.own rfl hn);have HH:=Bas.hid h;obtain ⟨ad,cp,rfl⟩:=own_slice h.own;have g0:=cell_of_heap (i:=0) (v:=.slice ad xs.length cp) h.head rfl;have lg:=h.lt;clear h;go_enter Tryz.func119,Tryz.ntmps119
 go_wp2_with (fail);refine HC.out.mono ?_;rintro e w2 ⟨sv2,rfl,ho,hg,hat⟩;obtain ⟨ad2,cp2,rfl⟩:=own_slice ho;have HR:=Bas.hid (lnTo_store HH.out ho hg (.inl hat));have k7:=(hg.block g HH.out.lt (fun e=>HH.out.ne e.symm)).trans HH.out.head
 have c0:=cell_of_heap (i:=0) k7 rfl;have f0:=free_of_heap (i:=0) k7;have lk:=heap_lt k7;clear ho hg HC g0 lg k7 hat;go_wp2_with (fail)
 go_end0
 exact ⟨rfl,HR.out⟩
end Ln
namespace Rr
open Vw Sk Ch Lk St
def RearAt(w:World)(v:Value)(M:MachD):Prop:=∃g gm,v=.pointer (some ⟨g,0,none⟩)∧w.heap[g]? =some (.cells #[.pointer (some ⟨gm,0,none⟩)] 423 (0,0))∧MachAt w (.pointer (some ⟨gm,0,none⟩)) M
theorem RearAt.below{w w':World}{v:Value}{M:MachD}(h:RearAt w v M)(hb:Below w.heap.size w w'):RearAt w' v M:=by
 obtain ⟨g,gm,h1,h2,h3⟩:=h;exact ⟨g,gm,h1,(hb.block _ (heap_lt h2)).trans h2,h3.below hb⟩
end Rr
namespace Ln
open Ch
theorem LnTo.behind{w w1 w':World}{base g:Nat}{sv:Value}{ys:List Gl}(hb:Below w.heap.size w w1)(h:LnTo w1 base g sv ys w'):LnTo w base g sv ys w':=by
 obtain ⟨sv',h1,h2,h3⟩:=h;exact ⟨sv',h1,(Mod.of_below hb).trans h2 (fun _ h _=>h),fun k hk=>(h3 k hk).imp id (fun h=>Nat.le_trans hb.size h)⟩
end Ln
namespace Ln
theorem LnTo.step{w wr w':World}{base g:Nat}{sv sv':Value}{zs:List Gl}(hg:g<w.heap.size)(hm:Mod (blk g sv) w wr)(ho:∀k,sv'.ownBlock=some k→sv.ownBlock=some k∨w.heap.size≤k)(h:LnTo wr base g sv' zs w'):LnTo w base g sv zs w':=by
 obtain ⟨sv2,h1,h2,h3⟩:=h;refine ⟨sv2,h1,hm.trans h2 (fun k hk hlt=> ?_),fun k hk=> ?_⟩
 ·rcases hk with rfl|hk
  ·exact .inl rfl
  ·rcases ho k hk with h|h
   ·exact .inr h
   ·omega
 ·rcases h3 k hk with h|h
  ·exact ho k h
  ·exact .inr (Nat.le_trans hm.size h)
end Ln
namespace Sw
open Vw Ch Lk Ln
def SwapAt(w:World)(v:Value)(ps:List PartD):Prop:=∃g lk,v=.pointer (some ⟨g,0,none⟩)∧w.heap[g]? =some (.cells #[.pointer (some ⟨lk,0,none⟩)] 445 (0,0))∧LkAt w (.pointer (some ⟨lk,0,none⟩)) ps
theorem SwapAt.below{w w':World}{v:Value}{ps:List PartD}(h:SwapAt w v ps)(hb:Below w.heap.size w w'):SwapAt w' v ps:=by
 obtain ⟨g,lk,h1,h2,h3⟩:=h;exact ⟨g,lk,h1,(hb.block _ (heap_lt h2)).trans h2,h3.below hb⟩
end Sw
namespace Cx
open Vw Ch Lk St Ln Dr
structure CtxD where
 m:MachD
 subs:List (List PartD)
def CtxAt(w:World)(v:Value)(T:CtxD):Prop:=
 ∃g gm vs us,v=.pointer (some ⟨g,0,none⟩)∧w.heap[g]? =some (.cells #[.pointer (some ⟨gm,0,none⟩),vs] 434 (0,0))∧MachAt w (.pointer (some ⟨gm,0,none⟩)) T.m∧us.length=T.subs.length∧Row.Leads w vs T.subs.length us∧
  ∀(i:Nat) (ps:List PartD) (u:Value),T.subs[i]? =some ps→us[i]? =some u→LkAt w u ps
theorem CtxAt.below{w w':World}{v:Value}{T:CtxD}(h:CtxAt w v T)(hb:Below w.heap.size w w'):CtxAt w' v T:=by
 obtain ⟨g,gm,vs,us,h1,h2,h3,h4,h5,h6⟩:=h;exact ⟨g,gm,vs,us,h1,(hb.block _ (heap_lt h2)).trans h2,h3.below hb,h4,Row.leads_below h5 hb,fun i ps u hi hu=>(h6 i ps u hi hu).below hb⟩
end Cx
namespace In
open Vw Ch Lk St Ln Dr
structure InsD where
 m:MachD
 list:List Int
def InsAt(w:World)(v:Value)(T:InsD):Prop:=
 ∃g gm S len cap,v=.pointer (some ⟨g,0,none⟩)∧w.heap[g]? =some (.cells #[.pointer (some ⟨gm,0,none⟩),.slice S len cap] 448 (0,0))∧MachAt w (.pointer (some ⟨gm,0,none⟩)) T.m∧VB w S T.list∧T.list.length=len∧len≤cap∧cap≤maxLen
theorem InsAt.below{w w':World}{v:Value}{T:InsD}(h:InsAt w v T)(hb:Below w.heap.size w w'):InsAt w' v T:=by
 obtain ⟨g,gm,S,len,cap,h1,h2,h3,h4,h5,h6,h7⟩:=h;exact ⟨g,gm,S,len,cap,h1,(hb.block _ (heap_lt h2)).trans h2,h3.below hb,h4.below hb,h5,h6,h7⟩
end In
namespace Dr
end Dr
namespace Lg
open Vw Ch Lk St Ln Dr
structure LigD where
 m:MachD
 act:List Int
 comp:List Int
 lig:List Int
def LigAt(w:World)(v:Value)(T:LigD):Prop:=
 ∃g gm S1 l1 S2 l2 S3 l3,v=.pointer (some ⟨g,0,none⟩)∧w.heap[g]? =some (.cells #[.pointer (some ⟨gm,0,none⟩),.slice S1 l1 l1,.slice S2 l2 l2,.slice S3 l3 l3] 439 (0,0))∧MachAt w (.pointer (some ⟨gm,0,none⟩)) T.m∧
  (VB w S1 T.act∧T.act.length=l1∧l1≤maxLen)∧(VB w S2 T.comp∧T.comp.length=l2∧l2≤maxLen)∧VB w S3 T.lig∧T.lig.length=l3∧l3≤maxLen
theorem LigAt.below{w w':World}{v:Value}{T:LigD}(h:LigAt w v T)(hb:Below w.heap.size w w'):LigAt w' v T:=by
 obtain ⟨g,gm,S1,l1,S2,l2,S3,l3,h1,h2,h3,⟨a1,a2,a3⟩,⟨b1,b2,b3⟩,c1,c2,c3⟩:=h;exact ⟨g,gm,S1,l1,S2,l2,S3,l3,h1,(hb.block _ (heap_lt h2)).trans h2,h3.below hb,⟨a1.below hb,a2,a3⟩,⟨b1.below hb,b2,b3⟩,c1.below hb,c2,c3⟩
end Lg
namespace Cov
theorem fits_eq(kind:Int)(v back:Bool)(d:Int)(b:Bool)(hb:fits v d=b)(w:World):
  Calls Tryz.prog 177 #[.agg #[.int .i64 kind,.bool v,.bool back],.int .i64 d] w fun e w'=>e=.returned (.bool b)∧Below w.heap.size w w':=hb▸fits_any kind v back d w
theorem mruns_any(kind:Int)(v back both logical:Bool)(d:Int)(w:World):
  Calls Tryz.prog 117 #[.agg #[.int .i64 kind,.bool v,.bool back,.bool both,.bool logical],.int .i64 d] w fun e w'=>e=.returned (.bool (runsM v both d))∧Below w.heap.size w w':=by
 cases hf:fits v d<;>cases hi:isDir d<;>cases both
 all_goals
  go_enter Tryz.func117,Tryz.ntmps117
  go_wp2_with (first|(go_at_call 177;refine (fits_eq _ _ _ _ _ hf _).mono ?_;rintro e w1 ⟨rfl,hb1⟩;obtain ⟨hc1,hf1⟩:=Bas.bcell hb1)|(go_at_call 13;refine (is_eq _ _ hi _).mono ?_;rintro e w' ⟨rfl,rfl⟩));go_ret;exact ⟨by simp [runsM,hf,hi],((Below.refl _ _).alloc (Nat.le_refl _) _).trans (hb1.mono (by simp))⟩
theorem mturned_any(kind:Int)(v back both logical:Bool)(d:Int)(w:World):
  Calls Tryz.prog 178 #[.agg #[.int .i64 kind,.bool v,.bool back,.bool both,.bool logical],.int .i64 d] w fun e w'=>e=.returned (.bool (turnedM back logical d))∧Below w.heap.size w w':=by
 cases logical
 all_goals
  go_enter Tryz.func178,Tryz.ntmps178
  go_wp2;go_ret;exact ⟨by cases back<;>simp [turnedM],((Below.refl _ _).alloc (Nat.le_refl _) _)⟩
end Cov
namespace Mx
open Vw Ch Lk St Ln Dr Rr Sw Cx In Lg
inductive WkD where
 |rear (M:MachD)
 |ctx (T:CtxD)
 |lig (T:LigD)
 |swap (ps:List PartD)
 |ins (T:InsD)
 |none
def PlainAt(w:World)(fv:Value)(K:Nat)(first:Array Value):Prop:=
 ∃B,fv=.func (.func 191) #[] #[.pointer (some ⟨B,0,none⟩)]∧w.heap[B]? =some (.cells #[.func (.func K) first #[]] 369 (0,0))
def WorkAt(w:World)(fv:Value):WkD→Prop
 |.rear M=>∃v,PlainAt w fv 149 #[v]∧RearAt w v M
 |.ctx T=>∃v,PlainAt w fv 151 #[v]∧CtxAt w v T
 |.lig T=>∃v,PlainAt w fv 153 #[v]∧LigAt w v T
 |.swap ps=>∃v,PlainAt w fv 155 #[v]∧SwapAt w v ps
 |.ins T=>∃v,fv=.func (.func 157) #[v] #[]∧InsAt w v T
 |.none=>PlainAt w fv 158 #[]
theorem PlainAt.below{w w':World}{fv:Value}{K:Nat}{first:Array Value}(h:PlainAt w fv K first)(hb:Below w.heap.size w w'):PlainAt w' fv K first:=by
 obtain ⟨B,h1,h2⟩:=h;exact ⟨B,h1,(hb.block _ (heap_lt h2)).trans h2⟩
theorem WorkAt.below{w w':World}{fv:Value}:∀{k:WkD},WorkAt w fv k→Below w.heap.size w w'→WorkAt w' fv k
 |.rear _,⟨v,h1,h2⟩,hb=>⟨v,h1.below hb,h2.below hb⟩
 |.ctx _,⟨v,h1,h2⟩,hb=>⟨v,h1.below hb,h2.below hb⟩
 |.lig _,⟨v,h1,h2⟩,hb=>⟨v,h1.below hb,h2.below hb⟩
 |.swap _,⟨v,h1,h2⟩,hb=>⟨v,h1.below hb,h2.below hb⟩
 |.ins _,⟨v,h1,h2⟩,hb=>⟨v,h1,h2.below hb⟩
 |.none,h,hb=>PlainAt.below h hb
structure MSub where
 cover:Int
 flags:Int
 wk:WkD
structure MChain where
 first:Int
 rules:List RuleD
 subs:List MSub
def mSubC(x:MSub×Value):List Value:=[.int .i64 (x.1.cover%256),.bool (Cov.bitB x.1.cover 31),.bool (Cov.bitB x.1.cover 30),.bool (Cov.bitB x.1.cover 29),.bool (Cov.bitB x.1.cover 28),.int .u32 x.1.flags,x.2]
theorem mSubC_len(x:MSub×Value):(mSubC x).length=7:=rfl
def linkC(x:MChain×(Value×Value)):List Value:=[.int .u32 x.1.first,x.2.1,x.2.2]
theorem linkC_len(x:MChain×(Value×Value)):(linkC x).length=3:=rfl
def LinkAt(u:World)(c:MChain)(r:Value×Value):Prop:=
 Row.Leads u r.1 c.rules.length (rulesC c.rules)∧∃fvs,fvs.length=c.subs.length∧Row.Leads u r.2 c.subs.length ((c.subs.zip fvs).flatMap mSubC)∧
  ∀(j:Nat) (s:MSub) (f:Value),c.subs[j]? =some s→fvs[j]? =some f→WorkAt u f s.wk
def MorxAt(w:World)(v:Value)(T:List MChain):Prop:=
 ∃g vl rs,v=.pointer (some ⟨g,0,none⟩)∧w.heap[g]? =some (.cells #[vl] 214 (0,0))∧rs.length=T.length∧Row.Leads w vl T.length ((T.zip rs).flatMap linkC)∧
  ∀(i:Nat) (c:MChain) (r:Value×Value),T[i]? =some c→rs[i]? =some r→LinkAt w c r
theorem LinkAt.below{w w':World}{c:MChain}{r:Value×Value}(h:LinkAt w c r)(hb:Below w.heap.size w w'):LinkAt w' c r:=by
 obtain ⟨h1,fvs,h2,h3,h4⟩:=h;exact ⟨Row.leads_below h1 hb,fvs,h2,Row.leads_below h3 hb,fun j s f hs hf=>(h4 j s f hs hf).below hb⟩
theorem MorxAt.below{w w':World}{v:Value}{T:List MChain}(h:MorxAt w v T)(hb:Below w.heap.size w w'):MorxAt w' v T:=by
 obtain ⟨g,vl,rs,h1,h2,h3,h4,h5⟩:=h;exact ⟨g,vl,rs,h1,(hb.block _ (heap_lt h2)).trans h2,h3,Row.leads_below h4 hb,fun i c r hc hr=>(h5 i c r hc hr).below hb⟩
end Mx
namespace Mx
open Vw Ch Lk St Ln Dr
theorem vb_own{w:World}{base n cp:Nat}{ad:Option Addr}{bs:List Int}(h:w.ownsRow base 5 1 (.slice ad n cp) n (bs.map (Value.int .u8)))(h47:bs.length≤140737488355328)(hb:∀x∈bs,0≤x∧x≤255):VB w ad bs:=by
 refine ⟨h47,hb,fun i hi=> ?_⟩
 obtain ⟨b,o,c,hv,hc⟩:=leads_at (Row.leads_owned h) (i:=i) (u:=.int .u8 (bs.getD i 0)) (by rw [List.getElem?_map,List.getD_eq_getElem?_getD,List.getElem?_eq_getElem hi];rfl)
 cases hv;exact ⟨b,o,rfl,hc⟩
end Mx
namespace Sh
open Fo Vw Wr
theorem face_gl(a b c:Int)(w:World):(Instr.field 196 (.agg #[.int .i64 a,.int .i64 b,.int .i64 c]) 0).run Tryz.prog w=.ok (.int .i64 a) w:=by
 have h:=run_underlying (P:=Tryz.prog) Tryz.underlying196;simp [Instr.field,h,part,asAgg,go_sem]
theorem noTab_width(g m:Int)(d:List Int):noTab (widthP g m d):=by
 intro p hp;simp only [widthP,List.mem_cons,List.not_mem_nil,or_false] at hp;rcases hp with rfl|rfl|rfl|rfl<;>dsimp only<;>decide
theorem isW_base{w:World}{base base' p g m:Nat}{d:List Int}(h:IsW w base p g m d)(hb:base'≤base):IsW w base' p g m d:=by
 obtain ⟨h1,gb,cb,h2,h3⟩:=h;exact ⟨Nat.le_trans hb h1,gb,cb,Nat.le_trans hb h2,h3⟩
def OpenP(w:World)(gf gw g m:Nat)(d:List Int)(u:World):Prop:=∃gm gk ga gt,u.heap[gf]? =some (.cells #[.pointer (some ⟨gw,0,none⟩),.slice none 0 0,.pointer (some ⟨gm,0,none⟩),.pointer (some ⟨gk,0,none⟩),.pointer (some ⟨ga,0,none⟩),.pointer (some ⟨gt,0,none⟩)] 204 (0,0))∧
 u.heap[gm]? =some (.cells #[.slice none 0 0] 214 (0,0))∧u.heap[gk]? =some (.cells #[.slice none 0 0] 220 (0,0))∧u.heap[ga]? =some (.cells #[.pointer none,.slice none 0 0] 226 (0,0))∧u.heap[gt]? =some (.cells #[.slice none 0 0,.slice none 0 0,.slice none 0 0,.slice none 0 0] 233 (0,0))∧IsW u w.heap.size gw g m d
theorem open_any(a:Option Addr)(len cap:Nat)(bs:List Int)(g m:Nat)(d:List Int)(w:World)(hl:len≤cap)(hc:cap≤maxLen)(hv:VB w a bs)(hbl:bs.length=len)(hn:a=none→cap=0)(hF:IsFont bs (widthP (g:Nat) (m:Nat) d))(hd:d.length=4*m+2*(g - m))(hm1:1≤m)(hmg:m≤g)(hgb:g≤65535):
  Calls Tryz.prog 28 #[.slice a len cap] w fun e w'=>Below w.heap.size w w'∧∃gf gw,e=.returned (.tuple #[.pointer (some ⟨gf,0,none⟩),.int .i64 0])∧OpenP w gf gw g m d w':=by
 have hmf:∀(fn:Fn) (first cap:Array Value) (w:World),(Instr.makeFunc fn first cap).run Tryz.prog w=.ok (.func fn first cap) w:=fun _ _ _ _=>rfl
 have hcf:∀(caps:Array Value) w,(callFunc 52 caps).run Tryz.prog w=.ok (.enter 52 caps) w:=fun caps w=>by simp [go_sem]
 have HCF:=Bas.hid hcf;have HV:=Bas.hid hv;have HF:=Bas.hid hF;have HD:=Bas.hid hd;have HBL:=Bas.hid hbl;have hb1:=(Below.refl w.heap.size w).alloc (Nat.le_refl _) (.cells #[.slice a len cap] 47);have HB1:=Bas.hid hb1;have HKB1:=Bas.hid (Bas.heap_new w (.cells #[.slice a len cap] 47));have HOF:=Bas.hid (of_any a len cap (w.alloc (.cells #[.slice a len cap] 47)));have HBY:=Bas.hid (fun u (hb:Below w.heap.size w u)=>bytes_any a len cap bs u hl hc (hv.below hb) hbl hn)
 clear hcf hv hF hd hbl hb1;go_enter Tryz.func28,Tryz.ntmps28
 go_wp2_with (fail);generalize w.alloc (.cells #[.slice a len cap] 47)=w1 at*;refine HOF.out.mono ?_;rintro e w2 ⟨rfl,hb2⟩;have HB2:=Bas.hid (HB1.out.trans (hb2.mono HB1.out.size));have HKB2:=Bas.hid ((hb2.block _ (heap_lt HKB1.out)).trans HKB1.out);clear hb2 HB1 HKB1 HOF;go_wp2_with (fail);refine (HBY.out w2 HB2.out).mono ?_;rintro e w3 ⟨v3,rfl,ho3,hne3,hb3⟩;obtain ⟨a3,c3,rfl⟩:=own_slice ho3;have HO3:=Bas.hid ho3;have HB3:=Bas.hid (HB2.out.trans (hb3.mono HB2.out.size));have hk3:=(hb3.block _ (heap_lt HKB2.out)).trans HKB2.out;have hT2:=heap_lt HKB2.out;rw [HBL.out] at HO3 ⊢;have c0:=cell_of_heap (i:=0) hk3 rfl;have f0:=free_of_heap (i:=0) hk3;have l0:=heap_lt hk3;have hlc:len≤c3∧c3≤maxLen:=by
  rcases Row.owned_parts HO3.out with ⟨h1,h2,_⟩|⟨_,_,h1,_,_,h2,h3,_⟩
  ·cases h1;omega
  ·cases h1;exact ⟨h2,h3⟩
 have HB4:Hid (Below w.heap.size w (w3.setCell ⟨w.heap.size,0,none⟩ (.slice a3 len c3))):=HB3.out.setCell (Nat.le_refl _) _;have HKB4:Hid ((w3.setCell ⟨w.heap.size,0,none⟩ (.slice a3 len c3)).heap[w.heap.size]? =some (.cells #[.slice a3 len c3] 47 (0,0))):=by unfold Hid;have k:=heap_set (i:=0) hk3 (.slice a3 len c3);exact k
 have HO4:Hid ((w3.setCell ⟨w.heap.size,0,none⟩ (.slice a3 len c3)).ownsRow w2.heap.size 5 1 (.slice a3 len c3) len (bs.map (Value.int .u8))):=Row.owned_keep HO3.out fun k hk=>Below.heap_setCell _ _ _ _ (fun e=>by have h:=(Row.own_block HO3.out hk).1;rw [show k=w.heap.size from e] at h;omega)
 clear hb3 ho3 hne3 HBY HB2 HKB2 hk3;go_wp2_with (fail);generalize w3.setCell ⟨w.heap.size,0,none⟩ (.slice a3 len c3)=w4 at*;clear c0 f0 l0 HO3 HB3;have hvb4:VB w4 a3 bs:=Mx.vb_own HO4.out HV.out.len HV.out.byte;have HRD:=wread_any a3 c3 bs g m _ d w4 (by rw [HBL.out];exact hlc.1) hlc.2 hvb4 HF.out hm1 hmg hgb rfl
 rw [HD.out,HBL.out,decide_eq_true (Nat.le_refl _),List.take_of_length_le (by rw [HD.out];exact Nat.le_refl _)] at HRD
 have HRD:=Bas.hid HRD;have k0:=cell_of_heap (i:=0) (v:=.slice a3 len c3) HKB4.out rfl;have l0:=heap_lt HKB4.out;clear hvb4;go_wp2_with (fail);refine HRD.out.mono ?_;rintro e w5 ⟨hb5,gw,rfl,hw5⟩;have HB5:=Bas.hid (HB4.out.trans (hb5.mono HB4.out.size));have HKB5:=Bas.hid ((hb5.block _ l0).trans HKB4.out);have HO5:=Bas.hid (Row.owned_below HO4.out hb5);have hs4:w.heap.size≤w4.heap.size:=HB4.out.size;have HW5:Hid (IsW w5 w4.heap.size gw g m d):=hw5;have HFC5:=Bas.hid (wface_any w5 _ gw g m d hw5);have hgl:=fun u=>face_gl (g:Int) 1000 (m:Int) u
 have e1:decide ((65535:Int)<(g:Int))=false:=by simp;omega
 clear hb5 hw5 k0 l0 HRD HB4 HKB4 HO4;go_wp2_with (fail);refine HFC5.out.mono ?_;rintro e w6 ⟨rfl,hb6⟩;have HB6:=Bas.hid (HB5.out.trans (hb6.mono HB5.out.size));have HKB6:=Bas.hid ((hb6.block _ (heap_lt HKB5.out)).trans HKB5.out);have HO6:=Bas.hid (Row.owned_below HO5.out hb6);have HW6:=Bas.hid (isW_below HW5.out hb6);clear hb6 HFC5 HB5 HKB5 HO5 HW5;go_wp2_with (fail);have hb7:=((Below.refl w6.heap.size w6).alloc (Nat.le_refl _) (.cells #[.pointer (some ⟨gw,0,none⟩),.slice none 0 0,.pointer none,.pointer none,.pointer none,.pointer none] 204)).alloc (by simp) (.cells #[.pointer (some ⟨w6.heap.size,0,none⟩)] 124)
 have kf7:=(Below.heap_alloc (w6.alloc (.cells #[.pointer (some ⟨gw,0,none⟩),.slice none 0 0,.pointer none,.pointer none,.pointer none,.pointer none] 204)) (.cells #[.pointer (some ⟨w6.heap.size,0,none⟩)] 124) w6.heap.size (by simp)).trans (Bas.heap_new w6 (.cells #[.pointer (some ⟨gw,0,none⟩),.slice none 0 0,.pointer none,.pointer none,.pointer none,.pointer none] 204))
 have kp7:=Bas.heap_new2 w6 (.cells #[.pointer (some ⟨gw,0,none⟩),.slice none 0 0,.pointer none,.pointer none,.pointer none,.pointer none] 204) (.cells #[.pointer (some ⟨w6.heap.size,0,none⟩)] 124);generalize (w6.alloc (.cells #[.pointer (some ⟨gw,0,none⟩),.slice none 0 0,.pointer none,.pointer none,.pointer none,.pointer none] 204)).alloc (.cells #[.pointer (some ⟨w6.heap.size,0,none⟩)] 124)=w7 at*;have HFC7:=Bas.hid (wface_any w7 _ gw g m d (isW_below HW6.out hb7));have HB7:=Bas.hid hb7;have HKF7:=Bas.hid kf7;have HKP7:=Bas.hid kp7;clear hb7 kf7 kp7;refine HFC7.out.mono ?_;rintro e w8 ⟨rfl,hb8⟩;have HB8:=Bas.hid (HB7.out.trans (hb8.mono HB7.out.size));have HKF8:=Bas.hid ((hb8.block _ (heap_lt HKF7.out)).trans HKF7.out);have HKP8:=Bas.hid ((hb8.block _ (heap_lt HKP7.out)).trans HKP7.out);clear hb8 HB7 HKF7 HKP7 HFC7;go_wp2_with (fail);have hb9:=(Below.refl w8.heap.size w8).alloc (Nat.le_refl _) (.cells #[.int .i64 (g:Int)] 3);have hs9:w8.heap.size<(w8.alloc (.cells #[.int .i64 (g:Int)] 3)).heap.size:=by simp
 have HB9:=Bas.hid (HB8.out.trans (hb9.mono HB8.out.size));have HKF9:=Bas.hid ((hb9.block _ (heap_lt HKF8.out)).trans HKF8.out);have HKP9:=Bas.hid ((hb9.block _ (heap_lt HKP8.out)).trans HKP8.out);generalize w8.alloc (.cells #[.int .i64 (g:Int)] 3)=w9 at*;generalize w8.heap.size=BG at*;clear hb9 HB8 HKF8 HKP8;have hb10:=(Below.refl w9.heap.size w9).alloc (Nat.le_refl _) (.cells #[.bool false] 4);have kb10:=Bas.heap_new w9 (.cells #[.bool false] 4);have HBX:=Bas.hid (HB9.out.trans (hb10.mono HB9.out.size));have HKFX:=Bas.hid ((hb10.block _ (heap_lt HKF9.out)).trans HKF9.out);have HKPX:=Bas.hid ((hb10.block _ (heap_lt HKP9.out)).trans HKP9.out);have HKBX:=Bas.hid ((HBX.out.block _ (heap_lt HKB6.out)).trans HKB6.out);have HOX:=Bas.hid (Row.owned_keep HO6.out fun k hk=>HBX.out.block k (Row.own_block HO6.out hk).2)
 have lp9:=heap_lt HKP9.out;have hxs:(w9.alloc (.cells #[.bool false] 4)).heap.size=w9.heap.size+1:=World.size_alloc _ _;have HC:Calls Tryz.prog 52 #[.pointer (some ⟨w.heap.size,0,none⟩),.pointer (some ⟨w6.heap.size+1,0,none⟩),.pointer (some ⟨BG,0,none⟩)] (w9.alloc (.cells #[.bool false] 4)) (TryPost w9.heap.size (fun ok u=>ok=true∧OpenD (w9.alloc (.cells #[.bool false] 4)) w6.heap.size gw u)):=by
  refine (open1_any w.heap.size (w6.heap.size+1) BG w6.heap.size gw a3 len c3 bs (widthP (g:Nat) (m:Nat) d) (w9.alloc (.cells #[.bool false] 4)) HKBX.out HKPX.out HKFX.out (by simp [widthP]) (noTab_width _ _ _) hlc.1 hlc.2 HBL.out HF.out (fun u hu=> ?_)).mono ?_
  ·exact Mx.vb_own (Row.owned_keep HOX.out fun k hk=>hu k (Row.own_block HOX.out hk).2 (fun e=>own_ty HOX.out HKFX.out (by decide) (by rw [hk,e]))) HV.out.len HV.out.byte
  ·rintro e u ⟨rfl,hO⟩;have hO2:=hO;obtain ⟨gm,gk,ga,gt,_,_,_,_,_,_,_,_,_,hm⟩:=hO2;exact ⟨hm.heap kb10 (by omega),.inl ⟨rfl,rfl,hO⟩⟩
 have HCC:=Bas.hid HC;clear HC kb10 hb10;go_wp2_with (fail);refine (try_any 52 _ w9 _ (HCF.out _) HCC.out).mono ?_;rintro e w11 ⟨ok,w10,rfl,⟨rfl,gm,gk,ga,gt,j1,j2,j3,j4,j5,j6,j7,j8,j9,hm⟩,hlt,hg11⟩;have hb10:Below w6.heap.size w6 w10:=hm.below HBX.out (fun i hi=>by subst hi;omega) (by omega)
 have HB11:=Bas.hid (Bas.below_g hb10 hg11 hb10.size (by omega))
 have kp11:=(hg11.block _ (by have:=hm.size;omega) (by simp;omega)).trans (hm.heap HKPX.out (by omega))
 have HP11:Hid (OpenP w w6.heap.size gw g m d w11):=⟨gm,gk,ga,gt,(hg11.block _ (heap_lt j1) (by simp;omega)).trans j1,(hg11.block _ (heap_lt j6) (by simp;omega)).trans j6,(hg11.block _ (heap_lt j7) (by simp;omega)).trans j7,(hg11.block _ (heap_lt j8) (by simp;omega)).trans j8,(hg11.block _ (heap_lt j9) (by simp;omega)).trans j9,isW_base (isW_below HW6.out HB11.out) hs4⟩
 have HBE:=Bas.hid (HB6.out.trans (HB11.out.mono HB6.out.size));have c0:=cell_of_heap (i:=0) kp11 rfl;have l0:=heap_lt kp11;clear j1 j2 j3 j4 j5 j6 j7 j8 j9 hm hlt hg11 hb10 kp11 HCC HKFX HKPX HKBX HOX HBX;go_wp2_with (fail)
 go_ret2
 exact ⟨HBE.out,_,_,rfl,HP11.out⟩
end Sh
namespace Sh
open Vw Wr Ch
def Wrote(w:World)(e:Ending)(w':World):Prop:=∃v' bs,e=.returned v'∧w'.ownsRow w.heap.size 5 1 v' (List.length bs) (List.map (Value.int .u8) bs)∧Below w.heap.size w w'
theorem w26_nil(w:World):Calls Tryz.prog 16 #[.slice none 0 0] w (Wrote w):=by
 have hem:w.ownsRow w.heap.size 5 1 (.slice none 0 0) ([]:List Int).length (([]:List Int).map (Value.int .u8)):=Row.owned_nil _ _ _ _;have HE:=Bas.hid hem;clear hem;go_enter Tryz.func16,Tryz.ntmps16
 go_wp2_with (fail);refine (put_any 2 2 w.heap.size _ [] w (by omega) (by omega) (by omega) (by simp) (Nat.le_refl _) HE.out).mono ?_
 rintro e w2 ⟨v2,rfl,hg2⟩;have HB2:=Bas.hid ((Below.refl w.heap.size w).grown hg2.grow (Nat.le_refl _) (fun g hg=>by cases hg))
 have HO2:=Bas.hid hg2.own;clear hg2;go_wp2_with (fail);refine (put_any 0 2 w.heap.size _ _ w2 (by omega) (by omega) (by omega) (by simp [putB_len]) HB2.out.size HO2.out).mono ?_
 rintro e w3 ⟨v3,rfl,hg3⟩;have HB3:=Bas.hid (HB2.out.grown hg3.grow HB2.out.size (fun g hg=>(Row.own_block HO2.out hg).1))
 have HO3:=Bas.hid hg3.own;clear hg3 HB2 HO2;go_wp2_with (fail);refine (put_any 0 4 w.heap.size _ _ w3 (by omega) (by omega) (by omega) (by simp [putB_len]) HB3.out.size HO3.out).mono ?_
 rintro e w4 ⟨v4,rfl,hg4⟩;have HB4:=Bas.hid (HB3.out.grown hg4.grow HB3.out.size (fun g hg=>(Row.own_block HO3.out hg).1))
 have HO4:=Bas.hid hg4.own;clear hg4 HB3 HO3;go_wp2_with (fail);go_loopw [3,13] (fun vb vi wr=>vi=.int .i64 0∧wr.ownsRow w.heap.size 5 1 vb (List.length ([]++putB 2 2++putB 0 2++putB 0 4)) (List.map (Value.int .u8) ([]++putB 2 2++putB 0 2++putB 0 4))∧Below w.heap.size w wr) (fun _ _ _=>0)
 case atStart=>exact ⟨rfl,HO4.out,HB4.out⟩
 case round=>
  obtain ⟨rfl,ho,hb⟩:=hrel;clear HO4 HB4;have HO4:=Bas.hid ho;have HB4:=Bas.hid hb;clear ho hb;go_wp2_with (fail);go_ret;exact ⟨_,_,rfl,HO4.out,HB4.out⟩
theorem info8':(Tryz.prog.info? 5).map (fun i=>(i.zero,i.size,i.bytes))=some (some (.int .u8 0),1,1):=by kernel_rfl
theorem own_four{w:World}{base g:Nat}(a b c d:Int)(hg:w.heap[g]? =some (.cells #[.int .u8 a,.int .u8 b,.int .u8 c,.int .u8 d] 5 (0,0)))(hb:base≤g):
  w.ownsRow base 5 1 (.slice (some ⟨g,0,none⟩) 4 4) 4 ([a,b,c,d].map (Value.int .u8)):=
 ⟨by simp,.inr ⟨g,4,_,rfl,hb,hg,Nat.le_refl _,by unfold maxLen;omega,by simp,by simp⟩⟩
theorem byte_one(l:List Int):∀u∈l.map (Value.int .u8),u.oneCell'=true:=fun u hu=>by
 obtain ⟨x,_,rfl⟩:=List.mem_map.1 hu;rfl
theorem w24_nil(w:World):Calls Tryz.prog 17 #[.slice none 0 0] w (Wrote w):=by
 have hb1:=((Below.refl w.heap.size w).alloc (Nat.le_refl _) (.cells #[.int .u8 0,.int .u8 0,.int .u8 0,.int .u8 0] 5)).alloc (by simp) (.cells #[.int .u8 0,.int .u8 0,.int .u8 0,.int .u8 12] 5)
 have k1:=(Below.heap_alloc (w.alloc (.cells #[.int .u8 0,.int .u8 0,.int .u8 0,.int .u8 0] 5)) (.cells #[.int .u8 0,.int .u8 0,.int .u8 0,.int .u8 12] 5) w.heap.size (by simp)).trans (Bas.heap_new w (.cells #[.int .u8 0,.int .u8 0,.int .u8 0,.int .u8 0] 5))
 have k2:=Bas.heap_new2 w (.cells #[.int .u8 0,.int .u8 0,.int .u8 0,.int .u8 0] 5) (.cells #[.int .u8 0,.int .u8 0,.int .u8 0,.int .u8 12] 5);have HB1:=Bas.hid hb1;have HO1:=Bas.hid (own_four 0 0 0 0 k1 (Nat.le_refl _));have HL1:=Bas.hid (Row.leads_owned (own_four 0 0 0 12 k2 (Nat.le_succ w.heap.size)));clear hb1 k1 k2;go_enter Tryz.func17,Tryz.ntmps17
 go_wp2_with (at_builtin;refine Row.fence ?_);refine Row.unfence ?_;generalize (w.alloc (.cells #[.int .u8 0,.int .u8 0,.int .u8 0,.int .u8 0] 5)).alloc (.cells #[.int .u8 0,.int .u8 0,.int .u8 0,.int .u8 12] 5)=w1 at*;refine Row.append_any rfl _ _ 47 5 rfl (.int .u8 0) 1 1 Tryz.underlying47 info8' rfl (by decide) w.heap.size _ 4 _ rfl HO1.out _ 4 _ rfl HL1.out (by simp) (byte_one _) (by unfold maxLen;omega) (by omega) HB1.out.size ?_
 intro v2 w2 ho2 hg2 _;have HB2:=Bas.hid (HB1.out.grown hg2 HB1.out.size (fun g hg=>(Row.own_block HO1.out hg).1))
 have HO2:Hid (w2.ownsRow w.heap.size 5 1 v2 (List.length [0,0,0,0,0,0,0,12]) (List.map (Value.int .u8) [0,0,0,0,0,0,0,12])):=ho2;clear ho2 hg2 HO1 HL1 HB1;go_wp2_with (fail);have hem:w2.ownsRow w2.heap.size 5 1 (.slice none 0 0) ([]:List Int).length (([]:List Int).map (Value.int .u8)):=Row.owned_nil _ _ _ _;refine (put_any 8 2 w2.heap.size _ [] w2 (by omega) (by omega) (by omega) (by simp) (Nat.le_refl _) hem).mono ?_
 rintro e w3 ⟨v3,rfl,hg3⟩;have HB3:=Bas.hid ((Below.refl w2.heap.size w2).grown hg3.grow (Nat.le_refl _) (fun g hg=>by cases hg))
 have HO3:=Bas.hid hg3.own;clear hg3 hem;go_wp2_with (fail);refine (put_any 0 2 w2.heap.size _ _ w3 (by omega) (by omega) (by omega) (by simp [putB_len]) HB3.out.size HO3.out).mono ?_
 rintro e w4 ⟨v4,rfl,hg4⟩;have HB4:=Bas.hid (HB3.out.grown hg4.grow HB3.out.size (fun g hg=>(Row.own_block HO3.out hg).1))
 have HO4:=Bas.hid hg4.own;clear hg4 HB3 HO3;go_wp2_with (fail);refine (put_any 0 2 w2.heap.size _ _ w4 (by omega) (by omega) (by omega) (by simp [putB_len]) HB4.out.size HO4.out).mono ?_
 rintro e w5 ⟨v5,rfl,hg5⟩;have HB5:=Bas.hid (HB4.out.grown hg5.grow HB4.out.size (fun g hg=>(Row.own_block HO4.out hg).1))
 have HO5:=Bas.hid hg5.own;clear hg5 HB4 HO4;obtain ⟨ys,hys⟩:∃ys,[]++putB 8 2++putB 0 2++putB 0 2=ys:=⟨_,rfl⟩;have HYL:Hid (ys.length=6):=by unfold Hid;rw [←hys];simp [putB_len]
 rw [hys] at HO5;clear hys;have HR5:=Bas.hid (Row.owned_below HO2.out HB5.out);have HBW5:=Bas.hid (HB2.out.trans (HB5.out.mono HB2.out.size));have hs2:=HB2.out.size;have HS2:Hid (∀g,v2.ownBlock=some g→g<w2.heap.size):=fun g hg=>(Row.own_block HO2.out hg).2
 clear HB2 HO2 HB5;go_wp2_with (fail);go_loopw [4,5,20] (fun vb vc vi wr=>vi=.int .i64 0∧vc=.slice none 0 0∧wr.ownsRow w2.heap.size 5 1 vb ys.length (ys.map (Value.int .u8))∧wr.ownsRow w.heap.size 5 1 v2 (List.length [0,0,0,0,0,0,0,12]) (List.map (Value.int .u8) [0,0,0,0,0,0,0,12])∧Below w.heap.size w wr) (fun _ _ _ _=>0)
 case atStart=>exact ⟨rfl,rfl,HO5.out,HR5.out,HBW5.out⟩
 case round=>
  obtain ⟨rfl,rfl,ho,hr,hb⟩:=hrel;rw [HYL.out] at ho;obtain ⟨ay,cy,rfl⟩:=own_slice ho;have HO:=Bas.hid ho;have HR:=Bas.hid hr;have HB:=Bas.hid hb;clear ho hr hb HO5 HR5 HBW5;go_wp2_with (fail);refine (put_any 18 4 w.heap.size _ _ wr (by omega) (by omega) (by omega) (by simp) HB.out.size HR.out).mono ?_
  rintro e w6 ⟨v6,rfl,hg6⟩;have HB6:=Bas.hid (HB.out.grown hg6.grow HB.out.size (fun g hg=>(Row.own_block HR.out hg).1))
  have HL6:=Bas.hid (Row.leads_owned (Row.owned_keep HO.out fun g hg=>hg6.grow.block g (Row.own_block HO.out hg).2 (fun e=>by
   have h1:=HS2.out g e.symm;have h2:=(Row.own_block HO.out hg).1;omega)))
  have HO6:=Bas.hid hg6.own;clear hg6 HB HR HO;go_wp2_with (at_builtin;refine Row.fence ?_);refine Row.unfence ?_;refine Row.append_any rfl _ _ 47 5 rfl (.int .u8 0) 1 1 Tryz.underlying47 info8' rfl (by decide) w.heap.size _ _ _ rfl HO6.out _ 6 _ rfl HL6.out (by simp [HYL.out]) (byte_one _) (by simp [putB_len];unfold maxLen;omega) (by simp [putB_len]) HB6.out.size ?_
  intro v7 w7 ho7 hg7 _;have HB7:=Bas.hid (HB6.out.grown hg7 HB6.out.size (fun g hg=>(Row.own_block HO6.out hg).1))
  have HO7:=Bas.hid ho7;clear ho7 hg7 HB6 HO6 HL6;go_wp2_with (at_builtin;refine Row.fence ?_);refine Row.unfence ?_;refine Row.append_any rfl _ _ 47 5 rfl (.int .u8 0) 1 1 Tryz.underlying47 info8' rfl (by decide) w.heap.size _ _ _ rfl HO7.out (.slice none 0 0) 0 [] rfl (.inl ⟨rfl,rfl,rfl⟩) (by simp) (fun _ h=>by cases h) (by simp [putB_len];unfold maxLen;omega) (by simp [putB_len]) HB7.out.size ?_
  intro v8 w8 ho8 hg8 _;have HB8:=Bas.hid (HB7.out.grown hg8 HB7.out.size (fun g hg=>(Row.own_block HO7.out hg).1))
  have HO8:=Bas.hid ho8;clear ho8 hg8 HB7 HO7;go_wp2_with (fail);go_ret;refine ⟨_,[0,0,0,0,0,0,0,12]++putB 18 4++ys,rfl, ?_,HB8.out⟩;have h:=HO8.out;rw [List.append_nil,Nat.add_zero,←List.map_append] at h;rw [List.length_append,HYL.out];exact h
end Sh
namespace Ft
open Vw Ch
structure FeatD where
 type:Int
 excl:Bool
 dflt:Int
 sets:List Int
def setsAt(bs:List Int)(from' n:Nat):List Int:=(List.range n).map fun i=>be bs (from'+4*i) 2
theorem setsAt_succ(bs:List Int)(f n:Nat):setsAt bs f (n+1)=setsAt bs f n++[be bs (f+4*n) 2]:=by
 unfold setsAt;rw [List.range_succ,List.map_append];rfl
theorem setsAt_len(bs:List Int)(f n:Nat):(setsAt bs f n).length=n:=by simp [setsAt]
def firstOf(flags:Int):Nat:=if flags / 16384%2=1 then (flags%256).toNat else 0
def dfltOf(sets:List Int)(flags:Int):Int:=if flags≥32768 then (if firstOf flags<sets.length then sets.getD (firstOf flags) 0 else -1) else -1
def parseF(bs rb:List Int):Option FeatD:=
 if (be rb 4 4).toNat+4*(be rb 2 2).toNat≤bs.length then
  some ⟨be rb 0 2,decide (be rb 8 2≥32768),dfltOf (setsAt bs (be rb 4 4).toNat (be rb 2 2).toNat) (be rb 8 2),setsAt bs (be rb 4 4).toNat (be rb 2 2).toNat⟩
 else none
theorem i64_and_nat(a b:Nat)(ha:a<4294967296)(hb:b<4294967296):bits .and .i64 (a:Int) (b:Int)=((a&&&b:Nat):Int):=by
 have hx:a&&&b<2^32:=Nat.and_lt_two_pow _ (by omega)
 have h1:(BitVec.ofInt 64 (a:Int)).toNat=a:=by
  rw [BitVec.ofInt_natCast,BitVec.toNat_ofNat];exact Nat.mod_eq_of_lt (by omega)
 have h2:(BitVec.ofInt 64 (b:Int)).toNat=b:=by
  rw [BitVec.ofInt_natCast,BitVec.toNat_ofNat];exact Nat.mod_eq_of_lt (by omega)
 show IntKind.i64.wrap ((BitVec.ofInt 64 (a:Int)&&&BitVec.ofInt 64 (b:Int)).toNat:Int)=_
 rw [BitVec.toNat_and,h1,h2,IntKind.wrap_i64];omega
theorem i64_mask(x:Int)(k:Nat)(m:Int)(hm:m=((2^k - 1:Nat):Int))(hk:k≤32)(h0:0≤x)(h1:x≤4294967295):bits .and .i64 x m=x%2^k:=by
 obtain ⟨n,rfl⟩:=Int.eq_ofNat_of_zero_le h0;have h2:2^k≤2^32:=Nat.pow_le_pow_right (by omega) hk
 have h3:0<2^k:=Nat.pow_pos (by omega)
 rw [hm,i64_and_nat _ _ (by omega) (by omega),Nat.and_two_pow_sub_one_eq_mod]
 simp
theorem i64_bit(x:Int)(k:Nat)(m:Int)(hm:m=((2^k:Nat):Int))(hk:k<32)(h0:0≤x)(h1:x≤4294967295):bits .and .i64 x m=x / 2^k%2*2^k:=by
 obtain ⟨n,rfl⟩:=Int.eq_ofNat_of_zero_le h0;have h2:2^k<2^32:=Nat.pow_lt_pow_right (by omega) hk
 rw [hm,i64_and_nat _ _ (by omega) (by omega),nat_bit]
 simp
theorem infoI8:(Tryz.prog.info? 3).map (fun i=>(i.zero,i.size,i.bytes))=some (some (.int .i64 0),1,8):=by kernel_rfl
def FOnePost(w:World)(bs rb:List Int)(e:Ending)(w':World):Prop:=
 Below w.heap.size w w'∧match parseF bs rb with
  |none=>e=.panicked short
  |some f=>∃vs,e=.returned (.agg #[.int .i64 f.type,.bool f.excl,.int .i64 f.dflt,vs])∧w'.ownsRow w.heap.size 3 1 vs f.sets.length (f.sets.map (Value.int .i64))
theorem fone_any(good:Bool)(a:Option Addr)(len cap:Nat)(bs:List Int)(A:Option Addr)(rb:List Int)(n f:Nat)(flags:Int)(w:World)(hl:len≤cap)(hc:cap≤maxLen)(hv:VB w a bs)(hbl:bs.length=len)(_hsmall:len≤1000000000)
  (hr:VB w A rb) (hrl:rb.length=12) (hn:be rb 2 2=n) (hf:be rb 4 4=f) (hfl:be rb 8 2=flags) (hgood:good=decide (f+4*n≤len)):
  Calls Tryz.prog 145 #[.agg #[.slice a len cap],.agg #[.slice A 12 12]] w (FOnePost w bs rb):=by
 have hnb:=be2_bd rb hr.byte 2 (by omega)
 have hfb:=be4_bd rb hr.byte 4 (by omega)
 have hflb:=be2_bd rb hr.byte 8 (by omega)
 have htb:=be2_bd rb hr.byte 0 (by omega)
 have hmx:12≤maxLen:=by unfold maxLen;omega
 have U0:=fun (w':World) (hb:Below w.heap.size w w')=>u16_ok A 12 12 rb 0 w' (Nat.le_refl _) hmx (hr.below hb) hrl (by omega) (by omega)
 have U2:=fun (w':World) (hb:Below w.heap.size w w')=>u16_ok A 12 12 rb 2 w' (Nat.le_refl _) hmx (hr.below hb) hrl (by omega) (by omega)
 have U4:=fun (w':World) (hb:Below w.heap.size w w')=>u32_ok A 12 12 rb 4 w' (Nat.le_refl _) hmx (hr.below hb) hrl (by omega) (by omega)
 have U8:=fun (w':World) (hb:Below w.heap.size w w')=>u16_ok A 12 12 rb 8 w' (Nat.le_refl _) hmx (hr.below hb) hrl (by omega) (by omega)
 simp only [show Int.toNat 0=0 from rfl,show Int.toNat 2=2 from rfl,show Int.toNat 4=4 from rfl,show Int.toNat 8=8 from rfl] at U0 U2 U4 U8
 have HPF:Hid (parseF bs rb=if f+4*n≤len then some ⟨be rb 0 2,decide (flags≥32768),dfltOf (setsAt bs f n) flags,setsAt bs f n⟩ else none):=by
  unfold Hid parseF;rw [hn,hf,hfl,hbl];simp only [Int.toNat_natCast]
 rw [hn] at U2 hnb;rw [hf] at U4 hfb;rw [hfl] at U8 hflb;generalize be rb 0 2=ty at*;have HU0:=Bas.hid U0;have HU2:=Bas.hid U2;have HU4:=Bas.hid U4;have HU8:=Bas.hid U8;have HV:=Bas.hid hv;obtain ⟨n0,n1⟩:=hnb;obtain ⟨fb0,fb1⟩:=hfb;obtain ⟨fl0,fl1⟩:=hflb;obtain ⟨t0,t1⟩:=htb;have hal:=(((Below.refl w.heap.size w).alloc (Nat.le_refl _) (.cells #[.slice a len cap] 190)).alloc (by simp) (.cells #[.slice A 12 12] 190)).alloc (by simp;omega) (.cells #[.int .i64 0,.bool false,.int .i64 0,.slice none 0 0] 364)
 have HAL:=Bas.hid hal;clear U0 U2 U4 U8 hr hn hf hfl hv hal;go_enter Tryz.func145,Tryz.ntmps145
 go_wp2_with (fail);have k1:(((w.alloc (.cells #[.slice a len cap] 190)).alloc (.cells #[.slice A 12 12] 190)).alloc (.cells #[.int .i64 0,.bool false,.int .i64 0,.slice none 0 0] 364)).heap[w.heap.size]? =some (.cells #[.slice a len cap] 190 (0,0)):=by
  rw [Below.heap_alloc _ _ _ (by simp;omega),Below.heap_alloc _ _ _ (by simp)];exact Bas.heap_new _ _
 have k2:(((w.alloc (.cells #[.slice a len cap] 190)).alloc (.cells #[.slice A 12 12] 190)).alloc (.cells #[.int .i64 0,.bool false,.int .i64 0,.slice none 0 0] 364)).heap[w.heap.size+1]? =some (.cells #[.slice A 12 12] 190 (0,0)):=by
  rw [Below.heap_alloc _ _ _ (by simp)];exact Bas.heap_new2 _ _ _
 have k3:(((w.alloc (.cells #[.slice a len cap] 190)).alloc (.cells #[.slice A 12 12] 190)).alloc (.cells #[.int .i64 0,.bool false,.int .i64 0,.slice none 0 0] 364)).heap[w.heap.size+2]? =some (.cells #[.int .i64 0,.bool false,.int .i64 0,.slice none 0 0] 364 (0,0)):=by
  have h:=Bas.heap_new ((w.alloc (.cells #[.slice a len cap] 190)).alloc (.cells #[.slice A 12 12] 190)) (.cells #[.int .i64 0,.bool false,.int .i64 0,.slice none 0 0] 364);simpa using h
 generalize ((w.alloc (.cells #[.slice a len cap] 190)).alloc (.cells #[.slice A 12 12] 190)).alloc (.cells #[.int .i64 0,.bool false,.int .i64 0,.slice none 0 0] 364)=W at*;refine (HU0.out _ HAL.out).mono ?_;rintro e w1 ⟨rfl,hb1⟩;have HB1:=Bas.hid (Bas.on HAL.out hb1);have j1:=(hb1.block _ (heap_lt k1)).trans k1;have j2:=(hb1.block _ (heap_lt k2)).trans k2;have j3:=(hb1.block _ (heap_lt k3)).trans k3;clear hb1 k1 k2 k3 HAL;go_wp2_with (fail);have k1:=(Below.heap_alloc w1 (.cells #[.int .i64 ty,.bool false,.int .i64 (-1),.slice none 0 0] 364) _ (heap_lt j1)).trans j1;have k2:=(Below.heap_alloc w1 (.cells #[.int .i64 ty,.bool false,.int .i64 (-1),.slice none 0 0] 364) _ (heap_lt j2)).trans j2;have k3:=(Below.heap_alloc w1 (.cells #[.int .i64 ty,.bool false,.int .i64 (-1),.slice none 0 0] 364) _ (heap_lt j3)).trans j3;have k4:=Bas.heap_new w1 (.cells #[.int .i64 ty,.bool false,.int .i64 (-1),.slice none 0 0] 364);have HB2:=Bas.hid (HB1.out.alloc HB1.out.size (.cells #[.int .i64 ty,.bool false,.int .i64 (-1),.slice none 0 0] 364));have hlt4:w.heap.size+2<w1.heap.size:=heap_lt j3;generalize w1.alloc (.cells #[.int .i64 ty,.bool false,.int .i64 (-1),.slice none 0 0] 364)=W2 at*;generalize w1.heap.size=T5 at k4 hlt4 ⊢;clear j1 j2 j3 HB1;refine' Pl.region_v0 60 [] [0,1,2,3,4,5] [] _ (by kernel_rfl) (by kernel_rfl) (by simp) (fun _ _ _ _ e h=>⟨e▸h.1,h.2⟩) ?_ ?_
 rotate_left
 ·intro I F hI hF;simp only [Pl.selN,List.nil_append,List.drop_succ_cons,List.drop_zero];have x1:=fun i=>hF.cell (heap_lt k2) (cell_of_heap (i:=0) (v:=.slice A 12 12) k2 rfl) i
  repeat (go_big_quiet_step ((go_at_call 103;first|with_reducible exact hF.call (HU2.out _ (hF.on HB2.out _))|with_reducible exact hF.call (HU8.out _ (hF.on HB2.out _)))))
  refine wpQuiet_nil ?_;rfl
 intro u hu;simp only [Pl.selN];have j1:=(hu.block _ (heap_lt k1)).trans k1;have j2:=(hu.block _ (heap_lt k2)).trans k2;have j3:=(hu.block _ (heap_lt k3)).trans k3;have j4:=(hu.block _ (heap_lt k4)).trans k4;have HB3:=Bas.hid (HB2.out.trans (hu.mono HB2.out.size));clear hu k1 k2 k3 k4 HB2 HU0 HU2 HU8;go_wp2_with (fail);cases good with
 |false=>
  have hno:¬f+4*n≤len:=by simpa using hgood.symm
  clear hgood;have hrn:¬rowsB len f n 4:=fun h=>hno (by have:=h.2.2.2.2;omega)
  refine' Pl.region_vh 60 [] [0,1,2,3] [(5,8)] 4 22 [6] _ (fun ch w'=>ch=short∧Below w.heap.size w w') (by kernel_rfl) (by kernel_rfl) (by kernel_rfl) (by simp) (fun _ _ _ _ e h=>⟨e▸h.1,h.2⟩) ?_ ?_ ?_ ?_
  rotate_left
  ·intro I F hI hF;simp only [Pl.selN,List.nil_append,List.drop_succ_cons,List.drop_zero];have x1:=fun i=>hF.cell (heap_lt j1) (cell_of_heap (i:=0) (v:=.slice a len cap) j1 rfl) i
   have x2:=fun i=>hF.cell (heap_lt j2) (cell_of_heap (i:=0) (v:=.slice A 12 12) j2 rfl) i
   repeat (go_big_quiet_step ((go_at_call 104;with_reducible exact hF.call (HU4.out _ (hF.on HB3.out _)))))
   refine wpQuiet_nil ?_;rfl
  ·simp only [Pl.selN,List.drop_succ_cons,List.drop_zero,List.mem_singleton,forall_eq];intro u' hu
   go_simp
   simp only [Pl.valsAt];refine (rows_no a len cap _ _ _ u' hl hc hrn).mono ?_;rintro e w'' ⟨he,hb⟩;exact .inr ⟨short,he,rfl,HB3.out.trans ((hu.trans (hb.mono hu.size)).mono HB3.out.size)⟩
  ·intro x hx;simp only [List.mem_singleton] at hx;subst hx;simp only [Pl.selN,List.drop_succ_cons,List.drop_zero,List.mem_singleton,forall_eq];intro u' hu
   go_simp
   simp only [Pl.valsAt];exact (Below.refl _ _).alloc (Nat.le_refl _) _
  ·rintro c a' u' hd ⟨rfl,hb⟩;exact ⟨hd,hb,by rw [HPF.out,if_neg hno]⟩
 |true=>
  have hyes:f+4*n≤len:=by simpa using hgood.symm
  clear hgood;have hrB:rowsB len f n 4:=⟨by omega,by omega,.inr (by omega),by omega,by omega⟩
  have hPF:parseF bs rb=some ⟨ty,decide (flags≥32768),dfltOf (setsAt bs f n) flags,setsAt bs f n⟩:=by rw [HPF.out,if_pos hyes]
  have HP:=Bas.hid hPF;have e4:((n:Int)*4).toNat=n*4:=by omega
  have R:=fun w'=>rows_ok a len cap f n 4 w' hl hc hrB
  simp only [Int.toNat_natCast,e4] at R;have HR:=Bas.hid R;clear hPF HPF R e4;refine' Pl.region_v1 60 [] [0,1,2,3,4] 5 8 [6] _ (fun v u'=>∃g,v=.pointer (some ⟨g,0,none⟩)∧u.heap.size≤g∧u'.heap[g]? =some (.cells #[.slice none 0 0] 190 (0,0))) (by kernel_rfl) (by kernel_rfl) (by simp) (fun _ _ _ _ e h=>⟨e▸h.1,h.2⟩) ?_ ?_ ?_ ?_
  rotate_left
  ·intro I F hI hF;simp only [Pl.selN,List.nil_append,List.drop_succ_cons,List.drop_zero];have x1:=fun i=>hF.cell (heap_lt j1) (cell_of_heap (i:=0) (v:=.slice a len cap) j1 rfl) i
   have x2:=fun i=>hF.cell (heap_lt j2) (cell_of_heap (i:=0) (v:=.slice A 12 12) j2 rfl) i
   repeat (go_big_quiet_step ((first|(go_at_call 104;with_reducible exact hF.call (HU4.out _ (hF.on HB3.out _)))|(go_at_call 110;with_reducible exact hF.call (HR.out _)))))
   refine wpQuiet_nil ?_;rfl
  ·rintro v x x' ⟨g,h1,h2,h3⟩ hx hx';exact ⟨g,h1,h2,(hx'.block g (heap_lt h3)).trans h3⟩
  ·simp only [Pl.selN,List.drop_succ_cons,List.drop_zero,List.mem_singleton,forall_eq];intro u' hu
   go_simp
   simp only [Pl.valsAt];exact ⟨(Below.refl _ _).alloc (Nat.le_refl _) _,_,rfl,hu.size,Bas.heap_new _ _⟩
  ·intro v u2 hu hv;obtain ⟨T8,rfl,hT8,m8⟩:=hv;simp only [Pl.selN,List.drop_succ_cons,List.drop_zero,Act.put,List.setIfInBounds_toArray,List.set_cons_zero,List.set_cons_succ];have k3:=(hu.block _ (heap_lt j3)).trans j3;have k4:=(hu.block _ (heap_lt j4)).trans j4;have HB4:=Bas.hid (HB3.out.trans (hu.mono HB3.out.size));have h58:T5<T8:=Nat.lt_of_lt_of_le (heap_lt j4) hT8;have c8:=cell_of_heap (i:=0) (v:=.slice none 0 0) m8 rfl;have f8:=free_of_heap (i:=0) m8;clear hu j1 j2 j3 j4 HB3 HU4 HR;go_wp2_with (fail);have m9:=heap_set (i:=0) m8 (.slice (sub a f (n*4)) (n*4) (n*4));have n3:=(Below.heap_setCell u2 ⟨T8,0,none⟩ (.slice (sub a f (n*4)) (n*4) (n*4)) (w.heap.size+2) (by show w.heap.size+2≠T8;omega)).trans k3
   have n4:=(Below.heap_setCell u2 ⟨T8,0,none⟩ (.slice (sub a f (n*4)) (n*4) (n*4)) T5 (by show T5≠T8;omega)).trans k4
   have HB5:=Bas.hid (HB4.out.setCell (p:=⟨T8,0,none⟩) (by show w.heap.size≤T8;omega) (.slice (sub a f (n*4)) (n*4) (n*4)))
   have hVS:=fun w' (hb:Below w.heap.size w w')=>(HV.out.below hb).sub f (n*4) (by omega)
   have hAl:((bs.drop f).take (n*4)).length=n*4:=by rw [List.length_take,List.length_drop];omega
   have hbe:=fun i (hi:4*i+2≤n*4)=>be_sub bs f (n*4) (4*i) 2 hi
   have HVS:=Bas.hid hVS;have HBE:=Bas.hid hbe;have HAL:=Bas.hid hAl;generalize sub a f (n*4)=S at*;generalize u2.setCell ⟨T8,0,none⟩ (.slice S (n*4) (n*4))=W5 at*;have m9':W5.heap[T8]? =some (.cells #[.slice S (n*4) (n*4)] 190 (0,0)):=m9;clear hVS hbe m8 c8 f8 k3 k4 HB4 m9 hAl;go_loopw [9,24] (fun _ vi wr=>∃(i:Nat) (vs:Value),i≤n∧vi=.int .i64 i∧wr.ownsRow w.heap.size 3 1 vs i ((setsAt bs f i).map (Value.int .i64))∧Below w.heap.size w wr∧wr.heap[T8]? =some (.cells #[.slice S (n*4) (n*4)] 190 (0,0))∧
    wr.heap[w.heap.size+2]? =some (.cells #[.int .i64 0,.bool false,.int .i64 0,.slice none 0 0] 364 (0,0))∧wr.heap[T5]? =some (.cells #[.int .i64 ty,.bool false,.int .i64 (-1),vs] 364 (0,0))) (fun _ vi _=>n - (intOf vi).toNat)
   case atStart=>exact ⟨0,_,Nat.zero_le _,rfl,Row.owned_nil _ _ _ _,HB5.out,m9',n3,n4⟩
   case round=>
    obtain ⟨i,vs,hi,rfl,hown,hb,o8,o3,o5⟩:=hrel;have HO:=Bas.hid hown;have HB:=Bas.hid hb;obtain ⟨ads,cps,rfl⟩:=own_slice hown;by_cases hin:i<n
    ·have hmn:n*4≤maxLen:=by unfold maxLen;omega
     have V:=fun (w':World) (hb:Below w.heap.size w w')=>u16_ok S (n*4) (n*4) _ (4*(i:Int)) w' (Nat.le_refl _) hmn (HVS.out w' hb) HAL.out (by omega) (by omega)
     have e4:(4*(i:Int)).toNat=4*i:=by omega
     simp only [e4,HBE.out i (by omega)] at V
     have HS:=Bas.hid (setsAt_succ bs f i);generalize be bs (f+4*i) 2=x at*;have HVV:=Bas.hid V;clear V e4 hown hb m9' n3 n4 hmn;go_wp2_with (fail);refine' Pl.region_v1 60 [] [0,1,2,3,4,5] 6 33 [7,8,9] _ (fun v u'=>∃g,v=.slice (some ⟨g,0,none⟩) 1 1∧wr.heap.size≤g∧u'.heap[g]? =some (.cells #[.int .i64 x] 3 (0,0))) (by kernel_rfl) (by kernel_rfl) (by simp) (fun _ _ _ _ e h=>⟨e▸h.1,h.2⟩) ?_ ?_ ?_ ?_
     rotate_left
     ·intro I F hI hF;simp only [Pl.selN,List.nil_append,List.drop_succ_cons,List.drop_zero];have x1:=fun q=>hF.cell (heap_lt o5) (cell_of_heap (i:=3) (v:=.slice ads i cps) o5 rfl) q
      have x2:=fun q=>hF.cell (heap_lt o8) (cell_of_heap (i:=0) (v:=.slice S (n*4) (n*4)) o8 rfl) q
      repeat (go_big_quiet_step ((go_at_call 103;with_reducible exact hF.call (HVV.out _ (hF.on HB.out _)))))
      refine wpQuiet_nil ?_;rfl
     ·rintro v x x' ⟨g,h1,h2,h3⟩ hx hx';exact ⟨g,h1,h2,(hx'.block g (heap_lt h3)).trans h3⟩
     ·simp only [Pl.selN,List.drop_succ_cons,List.drop_zero,List.mem_singleton,forall_eq];intro u' hu
      go_simp
      simp only [Pl.valsAt];exact ⟨(Below.refl _ _).alloc (Nat.le_refl _) _,_,rfl,hu.size,Bas.heap_new _ _⟩
     ·intro v u3 hu hv;obtain ⟨g,rfl,hg,hgc⟩:=hv;simp only [Pl.selN,List.drop_succ_cons,List.drop_zero,Act.put,List.setIfInBounds_toArray,List.set_cons_zero,List.set_cons_succ];have u8:=(hu.block _ (heap_lt o8)).trans o8;have u4:=(hu.block _ (heap_lt o3)).trans o3;have u5:=(hu.block _ (heap_lt o5)).trans o5;have HOu:=Bas.hid (Row.owned_below HO.out hu);have HBu:=Bas.hid (HB.out.trans (hu.mono HB.out.size));have hv8:=own_ty HOu.out u8 (by decide)
      have hv4:=own_ty HOu.out u4 (by decide)
      have hv5:=own_ty HOu.out u5 (by decide)
      clear o8 o3 o5 hu HO HB;refine (Row.append_any rfl _ _ 24 3 rfl (.int .i64 0) 1 8 Tryz.underlying24 infoI8 rfl (by decide) w.heap.size (.slice ads i cps) i _ rfl HOu.out (.slice (some ⟨g,0,none⟩) 1 1) 1 [.int .i64 x] rfl (leads_heap hgc) rfl (by simp;rfl) (by unfold maxLen;omega) (by omega) HBu.out.size ?_)
      intro v' w9 hown9 hg9 _;obtain ⟨ad9,cp9,rfl⟩:=own_slice hown9;have z8:=(hg9.block _ (heap_lt u8) (fun e=>hv8 e.symm)).trans u8
      have z4:=(hg9.block _ (heap_lt u4) (fun e=>hv4 e.symm)).trans u4
      have z5:=(hg9.block _ (heap_lt u5) (fun e=>hv5 e.symm)).trans u5
      have HO9:Hid (w9.ownsRow w.heap.size 3 1 (.slice ad9 (i+1) cp9) (i+1) ((setsAt bs f (i+1)).map (Value.int .i64))):=by
       unfold Hid;rw [HS.out,List.map_append];exact hown9
      have HB9:=Bas.hid (HBu.out.grown hg9 HBu.out.size (fun g' hg'=>(Row.own_block HOu.out hg').1))
      have zc:=cell_of_heap (i:=3) z5 rfl;have zf:=free_of_heap (i:=3) z5;clear hown9 hg9 u8 u4 u5 hgc HOu HBu;go_wp2_with (fail);have y8:=(Below.heap_setCell w9 ⟨T5,3,none⟩ (.slice ad9 (i+1) cp9) T8 (by show T8≠T5;omega)).trans z8
      have y4:=(Below.heap_setCell w9 ⟨T5,3,none⟩ (.slice ad9 (i+1) cp9) (w.heap.size+2) (by show w.heap.size+2≠T5;omega)).trans z4
      have y5:=heap_set (i:=3) z5 (.slice ad9 (i+1) cp9);have HO10:=Bas.hid (Row.owned_keep HO9.out (w':=w9.setCell ⟨T5,3,none⟩ (.slice ad9 (i+1) cp9)) fun g' hg'=>Below.heap_setCell _ _ _ _ (fun e=>own_ty HO9.out z5 (by decide) (by rw [hg',e])))
      have HB10:=Bas.hid (HB9.out.setCell (p:=⟨T5,3,none⟩) (by show w.heap.size≤T5;omega) (.slice ad9 (i+1) cp9))
      generalize w9.setCell ⟨T5,3,none⟩ (.slice ad9 (i+1) cp9)=W10 at*;go_roundw
      case rel=>exact ⟨i+1,_,by omega,by go_num,HO10.out,HB10.out,y8,y4,y5⟩
      case measure=>simp [intOf];omega
    ·have hin2:i=n:=by omega
     subst hin2;clear hown hb m9' n3 n4;have c50:=cell_of_heap (i:=0) (v:=.int .i64 ty) o5 rfl;have c51:=cell_of_heap (i:=1) (v:=.bool false) o5 rfl;have c52:=cell_of_heap (i:=2) (v:=.int .i64 (-1)) o5 rfl;have c53:=cell_of_heap (i:=3) (v:=.slice ads i cps) o5 rfl;have f51:=free_of_heap (i:=1) o5;have f52:=free_of_heap (i:=2) o5;have c30:=cell_of_heap (i:=0) (v:=.int .i64 0) o3 rfl;have c31:=cell_of_heap (i:=1) (v:=.bool false) o3 rfl;have c32:=cell_of_heap (i:=2) (v:=.int .i64 0) o3 rfl;have c33:=cell_of_heap (i:=3) (v:=.slice none 0 0) o3 rfl;have f30:=free_of_heap (i:=0) o3;have f31:=free_of_heap (i:=1) o3;have f32:=free_of_heap (i:=2) o3;have f33:=free_of_heap (i:=3) o3;have hv5:=own_ty HO.out o5 (by decide)
     have hv3:=own_ty HO.out o3 (by decide)
     have hp5:w.heap.size≤(⟨T5,1,none⟩:Addr).block:=by show w.heap.size≤T5;omega
     have hp3:w.heap.size≤(⟨w.heap.size+2,0,none⟩:Addr).block:=by show w.heap.size≤w.heap.size+2;omega
     have hne35:w.heap.size+2≠T5:=by omega
     have hne53:T5≠w.heap.size+2:=by omega
     have B1:=i64_bit flags 15 32768 rfl (by omega) fl0 (by omega)
     have B2:=i64_bit flags 14 16384 rfl (by omega) fl0 (by omega)
     have B3:=i64_mask flags 8 255 rfl (by omega) fl0 (by omega)
     simp only [show (2:Int)^15=32768 from rfl,show (2:Int)^14=16384 from rfl,show (2:Int)^8=256 from rfl] at B1 B2 B3
     by_cases hex:32768≤flags
     ·have b1:bits .and .i64 flags 32768=32768:=by rw [B1];omega
      have hm0:0≤flags%256:=by omega
      have hm1:flags%256≤255:=by omega
      clear B1;obtain ⟨q,hq⟩:∃q:Nat,q=firstOf flags:=⟨_,rfl⟩;have hDF:dfltOf (setsAt bs f i) flags=if q<i then (setsAt bs f i).getD q 0 else -1:=by
       unfold dfltOf;rw [if_pos (by exact hex),setsAt_len,hq]
      have hde:decide (flags≥32768)=true:=by simpa using hex
      have HDF:=Bas.hid hDF;have HDE:=Bas.hid hde;clear hDF hde;by_cases hsec:flags / 16384%2=1
      ·have b2:bits .and .i64 flags 16384=16384:=by rw [B2];omega
       have hqv:flags%256=(q:Int):=by rw [hq];unfold firstOf;rw [if_pos hsec];omega
       rw [hqv] at B3;clear B2 hq hqv hsec;by_cases hqn:q<i
       ·obtain ⟨x,hx⟩:∃x,(setsAt bs f i)[q]? =some x:=⟨_,List.getElem?_eq_getElem (by rw [setsAt_len];exact hqn)⟩
        have hgd:(if q<i then (setsAt bs f i).getD q 0 else -1)=x:=by rw [if_pos hqn,List.getD_eq_getElem?_getD,hx];rfl
        have HGD:=Bas.hid hgd;rcases Row.owned_parts HO.out with ⟨_,h0,_⟩|⟨G,cp',hvG,hGb,hGl,hGc,hGm,hcl,-⟩
        ·omega
        cases hvG;have cG:=hcl q (.int .i64 x) (by rw [List.getElem?_map,hx];rfl)
        have hG5:G≠T5:=fun e=>hv5 (by rw [←e];rfl)
        have hG3:G≠w.heap.size+2:=fun e=>hv3 (by rw [←e];rfl)
        clear hcl hx hgd;go_wp2_with (fail);have hkeep:∀g',g'≠T5→g'≠w.heap.size+2→((((((wr.setCell ⟨T5,1,none⟩ (.bool true)).setCell ⟨T5,2,none⟩ (.int .i64 x)).setCell ⟨w.heap.size+2,0,none⟩ (.int .i64 ty)).setCell ⟨w.heap.size+2,1,none⟩ (.bool true)).setCell ⟨w.heap.size+2,2,none⟩ (.int .i64 x)).setCell ⟨w.heap.size+2,3,none⟩ (.slice (some ⟨G,0,none⟩) i cps)).heap[g']? =wr.heap[g']? :=fun g' h5 h3=>by simp only [Below.heap_setCell _ (⟨T5,1,none⟩:Addr) _ g' h5,Below.heap_setCell _ (⟨T5,2,none⟩:Addr) _ g' h5,Below.heap_setCell _ (⟨w.heap.size+2,0,none⟩:Addr) _ g' h3,Below.heap_setCell _ (⟨w.heap.size+2,1,none⟩:Addr) _ g' h3,Below.heap_setCell _ (⟨w.heap.size+2,2,none⟩:Addr) _ g' h3,Below.heap_setCell _ (⟨w.heap.size+2,3,none⟩:Addr) _ g' h3]
        refine bodyPost_ret (v:=.agg #[.int .i64 ty,.bool true,.int .i64 x,.slice (some ⟨G,0,none⟩) i cps]) (by simp [results,Tryz.results145,go_sem,c30,c31,c32,c33]) rfl ⟨(((((HB.out.setCell (p:=⟨T5,1,none⟩) hp5 (.bool true)).setCell (p:=⟨T5,2,none⟩) hp5 (.int .i64 x)).setCell (p:=⟨w.heap.size+2,0,none⟩) hp3 (.int .i64 ty)).setCell (p:=⟨w.heap.size+2,1,none⟩) hp3 (.bool true)).setCell (p:=⟨w.heap.size+2,2,none⟩) hp3 (.int .i64 x)).setCell (p:=⟨w.heap.size+2,3,none⟩) hp3 (.slice (some ⟨G,0,none⟩) i cps), ?_⟩
        rw [HP.out];refine ⟨_,by rw [HDE.out,HDF.out,HGD.out], ?_⟩
        rw [setsAt_len];exact Row.owned_keep HO.out fun g' hg'=>hkeep g' (fun e=>hv5 (by rw [hg',e])) (fun e=>hv3 (by rw [hg',e]))
       ·have hgd:(if q<i then (setsAt bs f i).getD q 0 else -1)=-1:=by rw [if_neg hqn]
        have HGD:=Bas.hid hgd;clear hgd;go_wp2_with (fail);have hkeep:∀g',g'≠T5→g'≠w.heap.size+2→(((((wr.setCell ⟨T5,1,none⟩ (.bool true)).setCell ⟨w.heap.size+2,0,none⟩ (.int .i64 ty)).setCell ⟨w.heap.size+2,1,none⟩ (.bool true)).setCell ⟨w.heap.size+2,2,none⟩ (.int .i64 (-1))).setCell ⟨w.heap.size+2,3,none⟩ (.slice ads i cps)).heap[g']? =wr.heap[g']? :=fun g' h5 h3=>by simp only [Below.heap_setCell _ (⟨T5,1,none⟩:Addr) _ g' h5,Below.heap_setCell _ (⟨w.heap.size+2,0,none⟩:Addr) _ g' h3,Below.heap_setCell _ (⟨w.heap.size+2,1,none⟩:Addr) _ g' h3,Below.heap_setCell _ (⟨w.heap.size+2,2,none⟩:Addr) _ g' h3,Below.heap_setCell _ (⟨w.heap.size+2,3,none⟩:Addr) _ g' h3]
        refine bodyPost_ret (v:=.agg #[.int .i64 ty,.bool true,.int .i64 (-1),.slice ads i cps]) (by simp [results,Tryz.results145,go_sem,c30,c31,c32,c33]) rfl ⟨((((HB.out.setCell (p:=⟨T5,1,none⟩) hp5 (.bool true)).setCell (p:=⟨w.heap.size+2,0,none⟩) hp3 (.int .i64 ty)).setCell (p:=⟨w.heap.size+2,1,none⟩) hp3 (.bool true)).setCell (p:=⟨w.heap.size+2,2,none⟩) hp3 (.int .i64 (-1))).setCell (p:=⟨w.heap.size+2,3,none⟩) hp3 (.slice ads i cps), ?_⟩
        rw [HP.out];refine ⟨_,by rw [HDE.out,HDF.out,HGD.out], ?_⟩
        rw [setsAt_len];exact Row.owned_keep HO.out fun g' hg'=>hkeep g' (fun e=>hv5 (by rw [hg',e])) (fun e=>hv3 (by rw [hg',e]))
      ·have b2:bits .and .i64 flags 16384=0:=by rw [B2];omega
       have hqv:q=0:=by rw [hq];unfold firstOf;rw [if_neg hsec]
       clear B2 B3 hq hsec;subst hqv;by_cases hqn:0<i
       ·obtain ⟨x,hx⟩:∃x,(setsAt bs f i)[0]? =some x:=⟨_,List.getElem?_eq_getElem (by rw [setsAt_len];exact hqn)⟩
        have hgd:(if 0<i then (setsAt bs f i).getD 0 0 else -1)=x:=by rw [if_pos hqn,List.getD_eq_getElem?_getD,hx];rfl
        have HGD:=Bas.hid hgd;rcases Row.owned_parts HO.out with ⟨_,h0,_⟩|⟨G,cp',hvG,hGb,hGl,hGc,hGm,hcl,-⟩
        ·omega
        cases hvG;have cG:=hcl 0 (.int .i64 x) (by rw [List.getElem?_map,hx];rfl)
        have hG5:G≠T5:=fun e=>hv5 (by rw [←e];rfl)
        have hG3:G≠w.heap.size+2:=fun e=>hv3 (by rw [←e];rfl)
        clear hcl hx hgd;go_wp2_with (fail);have hkeep:∀g',g'≠T5→g'≠w.heap.size+2→((((((wr.setCell ⟨T5,1,none⟩ (.bool true)).setCell ⟨T5,2,none⟩ (.int .i64 x)).setCell ⟨w.heap.size+2,0,none⟩ (.int .i64 ty)).setCell ⟨w.heap.size+2,1,none⟩ (.bool true)).setCell ⟨w.heap.size+2,2,none⟩ (.int .i64 x)).setCell ⟨w.heap.size+2,3,none⟩ (.slice (some ⟨G,0,none⟩) i cps)).heap[g']? =wr.heap[g']? :=fun g' h5 h3=>by simp only [Below.heap_setCell _ (⟨T5,1,none⟩:Addr) _ g' h5,Below.heap_setCell _ (⟨T5,2,none⟩:Addr) _ g' h5,Below.heap_setCell _ (⟨w.heap.size+2,0,none⟩:Addr) _ g' h3,Below.heap_setCell _ (⟨w.heap.size+2,1,none⟩:Addr) _ g' h3,Below.heap_setCell _ (⟨w.heap.size+2,2,none⟩:Addr) _ g' h3,Below.heap_setCell _ (⟨w.heap.size+2,3,none⟩:Addr) _ g' h3]
        refine bodyPost_ret (v:=.agg #[.int .i64 ty,.bool true,.int .i64 x,.slice (some ⟨G,0,none⟩) i cps]) (by simp [results,Tryz.results145,go_sem,c30,c31,c32,c33]) rfl ⟨(((((HB.out.setCell (p:=⟨T5,1,none⟩) hp5 (.bool true)).setCell (p:=⟨T5,2,none⟩) hp5 (.int .i64 x)).setCell (p:=⟨w.heap.size+2,0,none⟩) hp3 (.int .i64 ty)).setCell (p:=⟨w.heap.size+2,1,none⟩) hp3 (.bool true)).setCell (p:=⟨w.heap.size+2,2,none⟩) hp3 (.int .i64 x)).setCell (p:=⟨w.heap.size+2,3,none⟩) hp3 (.slice (some ⟨G,0,none⟩) i cps), ?_⟩
        rw [HP.out];refine ⟨_,by rw [HDE.out,HDF.out,HGD.out], ?_⟩
        rw [setsAt_len];exact Row.owned_keep HO.out fun g' hg'=>hkeep g' (fun e=>hv5 (by rw [hg',e])) (fun e=>hv3 (by rw [hg',e]))
       ·have hgd:(if 0<i then (setsAt bs f i).getD 0 0 else -1)=-1:=by rw [if_neg hqn]
        have HGD:=Bas.hid hgd;clear hgd;go_wp2_with (fail);have hkeep:∀g',g'≠T5→g'≠w.heap.size+2→(((((wr.setCell ⟨T5,1,none⟩ (.bool true)).setCell ⟨w.heap.size+2,0,none⟩ (.int .i64 ty)).setCell ⟨w.heap.size+2,1,none⟩ (.bool true)).setCell ⟨w.heap.size+2,2,none⟩ (.int .i64 (-1))).setCell ⟨w.heap.size+2,3,none⟩ (.slice ads i cps)).heap[g']? =wr.heap[g']? :=fun g' h5 h3=>by simp only [Below.heap_setCell _ (⟨T5,1,none⟩:Addr) _ g' h5,Below.heap_setCell _ (⟨w.heap.size+2,0,none⟩:Addr) _ g' h3,Below.heap_setCell _ (⟨w.heap.size+2,1,none⟩:Addr) _ g' h3,Below.heap_setCell _ (⟨w.heap.size+2,2,none⟩:Addr) _ g' h3,Below.heap_setCell _ (⟨w.heap.size+2,3,none⟩:Addr) _ g' h3]
        refine bodyPost_ret (v:=.agg #[.int .i64 ty,.bool true,.int .i64 (-1),.slice ads i cps]) (by simp [results,Tryz.results145,go_sem,c30,c31,c32,c33]) rfl ⟨((((HB.out.setCell (p:=⟨T5,1,none⟩) hp5 (.bool true)).setCell (p:=⟨w.heap.size+2,0,none⟩) hp3 (.int .i64 ty)).setCell (p:=⟨w.heap.size+2,1,none⟩) hp3 (.bool true)).setCell (p:=⟨w.heap.size+2,2,none⟩) hp3 (.int .i64 (-1))).setCell (p:=⟨w.heap.size+2,3,none⟩) hp3 (.slice ads i cps), ?_⟩
        rw [HP.out];refine ⟨_,by rw [HDE.out,HDF.out,HGD.out], ?_⟩
        rw [setsAt_len];exact Row.owned_keep HO.out fun g' hg'=>hkeep g' (fun e=>hv5 (by rw [hg',e])) (fun e=>hv3 (by rw [hg',e]))
     ·have b1:bits .and .i64 flags 32768=0:=by rw [B1];omega
      have hDF:dfltOf (setsAt bs f i) flags=-1:=by
       unfold dfltOf;rw [if_neg (by exact hex)]
      have hde:decide (flags≥32768)=false:=by simpa using hex
      have HDF:=Bas.hid hDF;have HDE:=Bas.hid hde;clear hDF hde B1 B2 B3;go_wp2_with (fail);have hkeep:∀g',g'≠T5→g'≠w.heap.size+2→(((((wr.setCell ⟨T5,1,none⟩ (.bool false)).setCell ⟨w.heap.size+2,0,none⟩ (.int .i64 ty)).setCell ⟨w.heap.size+2,1,none⟩ (.bool false)).setCell ⟨w.heap.size+2,2,none⟩ (.int .i64 (-1))).setCell ⟨w.heap.size+2,3,none⟩ (.slice ads i cps)).heap[g']? =wr.heap[g']? :=fun g' h5 h3=>by simp only [Below.heap_setCell _ (⟨T5,1,none⟩:Addr) _ g' h5,Below.heap_setCell _ (⟨w.heap.size+2,0,none⟩:Addr) _ g' h3,Below.heap_setCell _ (⟨w.heap.size+2,1,none⟩:Addr) _ g' h3,Below.heap_setCell _ (⟨w.heap.size+2,2,none⟩:Addr) _ g' h3,Below.heap_setCell _ (⟨w.heap.size+2,3,none⟩:Addr) _ g' h3]
      refine bodyPost_ret (v:=.agg #[.int .i64 ty,.bool false,.int .i64 (-1),.slice ads i cps]) (by simp [results,Tryz.results145,go_sem,c30,c31,c32,c33]) rfl ⟨((((HB.out.setCell (p:=⟨T5,1,none⟩) hp5 (.bool false)).setCell (p:=⟨w.heap.size+2,0,none⟩) hp3 (.int .i64 ty)).setCell (p:=⟨w.heap.size+2,1,none⟩) hp3 (.bool false)).setCell (p:=⟨w.heap.size+2,2,none⟩) hp3 (.int .i64 (-1))).setCell (p:=⟨w.heap.size+2,3,none⟩) hp3 (.slice ads i cps), ?_⟩
      rw [HP.out];refine ⟨_,by rw [HDE.out,HDF.out], ?_⟩
      rw [setsAt_len];exact Row.owned_keep HO.out fun g' hg'=>hkeep g' (fun e=>hv5 (by rw [hg',e])) (fun e=>hv3 (by rw [hg',e]))
def rowAt(bs:List Int)(i:Nat):List Int:=(bs.drop (12+12*i)).take 12
def risesB(prev:Option Int)(t:Int):Bool:=match prev with
 |none=>true
 |some p=>decide (p<t)
def featsAt(bs:List Int):Nat→Nat→Option Int→Option (List FeatD)
 |0,_,_=>some []
 |k+1,i,prev=>(parseF bs (rowAt bs i)).bind fun f=>if risesB prev f.type=true then (featsAt bs k (i+1) (some f.type)).map (f::·) else none
def parseFs(bs:List Int):Option (List FeatD):=
 if 12≤bs.length∧be bs 0 4=65536∧12+12*(be bs 4 2).toNat≤bs.length then featsAt bs (be bs 4 2).toNat 0 none else none
def lastT(fs:List FeatD):Option Int:=fs.getLast?.map FeatD.type
theorem lastT_snoc(fs:List FeatD)(f:FeatD):lastT (fs++[f])=some f.type:=by simp [lastT]
def fC(x:FeatD×Value):List Value:=[.int .i64 x.1.type,.bool x.1.excl,.int .i64 x.1.dflt,x.2]
theorem fC_len(x:FeatD×Value):(fC x).length=4:=rfl
structure FRow (w:World) (base:Nat) (v:Value) (fs:List FeatD) (ss:List Value):Prop where
 len:ss.length=fs.length
 own:w.ownsRow base 364 4 v fs.length ((fs.zip ss).flatMap fC)
 sets:∀(i:Nat) (f:FeatD) (s:Value),fs[i]? =some f→ss[i]? =some s→w.ownsRow base 3 1 s f.sets.length (f.sets.map (Value.int .i64))
theorem fRow_nil(w:World)(base:Nat):FRow w base (.slice none 0 0) [] []:=⟨rfl,Row.owned_nil _ _ _ _,fun i f s h=>by simp at h⟩
theorem fRow_snoc{w w':World}{base:Nat}{v v':Value}{fs:List FeatD}{ss:List Value}{f:FeatD}{s:Value}(h:FRow w base v fs ss)
  (hown:w'.ownsRow base 364 4 v' (fs.length+1) ((fs.zip ss).flatMap fC++[.int .i64 f.type,.bool f.excl,.int .i64 f.dflt,s]))
  (hk:∀(e:TypeId) (size n:Nat) (u:Value) (xs:List Value),e≠364→w.ownsRow base e size u n xs→w'.ownsRow base e size u n xs)
  (h1:w'.ownsRow base 3 1 s f.sets.length (f.sets.map (Value.int .i64))):FRow w' base v' (fs++[f]) (ss++[s]):=by
 refine ⟨by simp [h.len], ?_,fun i f' s' hf hs=> ?_⟩
 ·rw [List.length_append,List.zip_append h.len.symm,List.flatMap_append];simpa [fC] using hown
 ·by_cases hi:i<fs.length
  ·rw [List.getElem?_append_left hi] at hf;rw [List.getElem?_append_left (by rw [h.len];exact hi)] at hs
   exact hk _ _ _ _ _ (by decide) (h.sets i f' s' hf hs)
  ·have hi2:i=fs.length:=by
    have:=(List.getElem?_eq_some_iff.1 hf).1;simp at this;omega
   subst hi2;rw [List.getElem?_append_right (by omega)] at hf
   rw [List.getElem?_append_right (by have:=h.len;omega)] at hs
   simp [h.len] at hf hs;subst hf hs;exact h1
theorem fRow_below{w w':World}{base:Nat}{v:Value}{fs:List FeatD}{ss:List Value}(h:FRow w base v fs ss)(hb:Below w.heap.size w w'):FRow w' base v fs ss:=
 ⟨h.len,Row.owned_below h.own hb,fun i f s hf hs=>Row.owned_below (h.sets i f s hf hs) hb⟩
theorem fRow_keep{w w':World}{base:Nat}{v:Value}{fs:List FeatD}{ss:List Value}(h:FRow w base v fs ss)(hk:∀g,base≤g→g<w.heap.size→w'.heap[g]? =w.heap[g]?):FRow w' base v fs ss:=
 have k:∀{e:TypeId} {size n:Nat} {u:Value} {xs:List Value},w.ownsRow base e size u n xs→w'.ownsRow base e size u n xs:=fun h=>Row.owned_keep h fun g hg=>hk g (Row.own_block h hg).1 (Row.own_block h hg).2
 ⟨h.len,k h.own,fun i f s hf hs=>k (h.sets i f s hf hs)⟩
theorem fRow_base{w:World}{base base':Nat}{v:Value}{fs:List FeatD}{ss:List Value}(h:FRow w base v fs ss)(hb:base'≤base):FRow w base' v fs ss:=
 ⟨h.len,Row.owned_base h.own hb,fun i f s hf hs=>Row.owned_base (h.sets i f s hf hs) hb⟩
def FTakeP(w:World)(bs:List Int)(e:Ending)(w':World):Prop:=
 Below w.heap.size w w'∧match parseFs bs with
  |none=>e=.panicked short
  |some fs=>∃v ss,e=.returned v∧FRow w' w.heap.size v fs ss
theorem infoFt:(Tryz.prog.info? 364).map (fun i=>(i.zero,i.size,i.bytes))=some (some (.agg #[.int .i64 0,.bool false,.int .i64 0,.slice none 0 0]),4,48):=by kernel_rfl
theorem ftake_main(a:Option Addr)(len cap:Nat)(bs:List Int)(n:Nat)(w:World)(hl:len≤cap)(hc:cap≤maxLen)(hv:VB w a bs)(hbl:bs.length=len)(hsmall:len≤1000000000)
  (h12:12≤len) (hk:be bs 0 4=65536) (hn:be bs 4 2=n) (hrow:12+12*n≤len):
  Calls Tryz.prog 98 #[.agg #[.slice a len cap]] w (FTakeP w bs):=by
 have hrB:rowsB len 12 n 12:=⟨by omega,by omega,.inr (by omega),by omega,by omega⟩
 have U1:=fun (w':World) (hb:Below w.heap.size w w')=>u32_ok a len cap bs 0 w' hl hc (hv.below hb) hbl (by omega) (by omega)
 have U2:=fun (w':World) (hb:Below w.heap.size w w')=>u16_ok a len cap bs 4 w' hl hc (hv.below hb) hbl (by omega) (by omega)
 simp only [show Int.toNat 0=0 from rfl,show Int.toNat 4=4 from rfl] at U1 U2
 have hnb:=be2_bd bs hv.byte 4 (by omega)
 rw [hk] at U1;rw [hn] at U2 hnb;have HPA:Hid (parseFs bs=featsAt bs n 0 none):=by
  unfold Hid parseFs;rw [hn,Int.toNat_natCast,if_pos ⟨by omega,hk,by omega⟩]
 have HU1:=Bas.hid U1;have HU2:=Bas.hid U2;have HV:=Bas.hid hv;obtain ⟨n0,n1⟩:=hnb;clear U1 U2 hv hk hn;go_enter Tryz.func98,Tryz.ntmps98
 go_wp2_with (fail);have k1:=Bas.heap_new w (.cells #[.slice a len cap] 190);have HB1:=Bas.hid ((Below.refl w.heap.size w).alloc (Nat.le_refl _) (.cells #[.slice a len cap] 190));generalize w.alloc (.cells #[.slice a len cap] 190)=W1 at*;refine (HU1.out _ HB1.out).mono ?_;rintro e w2 ⟨rfl,hb2⟩;have k2:=(hb2.block _ (heap_lt k1)).trans k1;have HB2:=Bas.hid (HB1.out.trans (hb2.mono HB1.out.size));have c2:=cell_of_heap (i:=0) (v:=.slice a len cap) k2 rfl;clear hb2 k1 HB1 HU1;go_wp2_with (go_at_call 56;refine (need_yesb _ _ (by first|rfl|(simp;done)|(simp;omega))).mono ?_;rintro e w' ⟨rfl,rfl⟩)
 refine (HU2.out _ HB2.out).mono ?_;rintro e w3 ⟨rfl,hb3⟩;have k3:=(hb3.block _ (heap_lt k2)).trans k2;have HB3:=Bas.hid (HB2.out.trans (hb3.mono HB2.out.size));have c3:=cell_of_heap (i:=0) (v:=.slice a len cap) k3 rfl;have e12:((n:Int)*12).toNat=n*12:=by omega
 have R:=rows_ok a len cap 12 n 12 w3 hl hc hrB;simp only [show Int.toNat 12=12 from rfl,e12] at R
 have HR:=Bas.hid R;clear hb3 k2 c2 HB2 HU2 R e12;go_wp2_with (fail);refine HR.out.mono ?_;rintro e w4 ⟨rfl,hb4⟩;have k4:=(hb4.block _ (heap_lt k3)).trans k3;have HB4:=Bas.hid (HB3.out.trans (hb4.mono HB3.out.size));have hAl:((bs.drop 12).take (n*12)).length=n*12:=by rw [List.length_take,List.length_drop];omega
 have hVS:=fun w' (hb:Below w.heap.size w w')=>(HV.out.below hb).sub 12 (n*12) (by omega)
 have HVS:=Bas.hid hVS;have HAL:=Bas.hid hAl;generalize sub a 12 (n*12)=S at*;clear hb4 k3 c3 HB3 HR hVS hAl;go_wp2_with (fail);have k5:=(Below.heap_alloc w4 (.cells #[.slice S (n*12) (n*12)] 190) _ (heap_lt k4)).trans k4;have m5:=Bas.heap_new w4 (.cells #[.slice S (n*12) (n*12)] 190);have HB5:=Bas.hid (HB4.out.alloc HB4.out.size (.cells #[.slice S (n*12) (n*12)] 190));have hlt5:w.heap.size<w4.heap.size:=heap_lt k4;generalize w4.alloc (.cells #[.slice S (n*12) (n*12)] 190)=W5 at*;generalize w4.heap.size=T4 at m5 hlt5 ⊢;clear k4 HB4;go_loopw [5,6,7,18] (fun xo _ _ vi wr=>∃(i:Nat) (vo:Value) (fs:List FeatD) (ss:List Value),i≤n∧vi=.int .i64 i∧vo=xo∧fs.length=i∧featsAt bs n 0 none=(featsAt bs (n - i) i (lastT fs)).map (fun l=>fs++l)∧
  FRow wr w.heap.size vo fs ss∧Below w.heap.size w wr∧wr.heap[w.heap.size]? =some (.cells #[.slice a len cap] 190 (0,0))∧wr.heap[T4]? =some (.cells #[.slice S (n*12) (n*12)] 190 (0,0))) (fun _ _ _ vi _=>n - (intOf vi).toNat)
 case atStart=>exact ⟨0,_,[],[],Nat.zero_le _,rfl,rfl,rfl,by simp [lastT],fRow_nil _ _,HB5.out,k5,m5⟩
 case round=>
  obtain ⟨i,vo,fs,ss,hi,rfl,hvo,hfl,hsub,hrow,hb,o1,o4⟩:=hrel;rw [←hvo];clear hvo;obtain ⟨ado,cpo,rfl⟩:=own_slice hrow.own;have HSUB:=Bas.hid hsub;have HFL:=Bas.hid hfl;have HFR:=Bas.hid hrow;have HB:=Bas.hid hb;rw [hfl];clear hsub hfl hrow hb k5 m5;by_cases hin:i<n
  ·have hmn:n*12≤maxLen:=by unfold maxLen;omega
   have C:=fun w'=>cut_nat S (n*12) (n*12) (12*i) 12 w' (Nat.le_refl _) hmn (by omega)
   have e12:((12*i:Nat):Int)=(12:Int)*(i:Int):=by omega
   rw [e12] at C;have HC:=Bas.hid C;have hRV:=fun w' hb=>(HVS.out w' hb).sub (12*i) 12 (by rw [HAL.out];omega)
   have hrb:(((bs.drop 12).take (n*12)).drop (12*i)).take 12=rowAt bs i:=by
    unfold rowAt;rw [List.drop_take,List.take_take,List.drop_drop,Nat.min_eq_left (by omega)]
   simp only [hrb] at hRV;have hrbl:(rowAt bs i).length=12:=by unfold rowAt;rw [List.length_take,List.length_drop];omega
   have HRV:=Bas.hid hRV;have HRBL:=Bas.hid hrbl;generalize sub S (12*i) 12=A at*;have ONE:=fun (w':World) (hb:Below w.heap.size w w')=>(by
    have hr:=HRV.out w' hb;have h1:=be2_bd _ hr.byte 2 (by rw [HRBL.out];omega)
    have h2:=be4_bd _ hr.byte 4 (by rw [HRBL.out];omega)
    exact fone_any _ a len cap bs A (rowAt bs i) (be (rowAt bs i) 2 2).toNat (be (rowAt bs i) 4 4).toNat _ w' hl hc (HV.out.below hb) hbl hsmall hr HRBL.out (by omega) (by omega) rfl rfl:Calls Tryz.prog 145 #[.agg #[.slice a len cap],.agg #[.slice A 12 12]] w' (FOnePost w' bs (rowAt bs i)))
   have HONE:=Bas.hid ONE;clear C e12 hRV hrb hrbl ONE hmn;go_wp2_with (fail);cases hpf:parseF bs (rowAt bs i) with
   |none=>
    have HNO:Hid (parseFs bs=none):=by
     unfold Hid;rw [HPA.out,HSUB.out,show n - i=(n - i - 1)+1 by omega,featsAt,hpf]
     rfl
    have HPF:=Bas.hid hpf;clear hpf;refine' Pl.region_vh 47 [] [0,1,2,3,4] [(6,7)] 5 26 [7] _ (fun ch w'=>ch=short∧Below w.heap.size w w') (by kernel_rfl) (by kernel_rfl) (by kernel_rfl) (by simp) (fun _ _ _ _ e h=>⟨e▸h.1,h.2⟩) ?_ ?_ ?_ ?_
    rotate_left
    ·intro I F hI hF;simp only [Pl.selN,List.nil_append,List.drop_succ_cons,List.drop_zero];have x1:=fun q=>hF.cell (heap_lt o1) (cell_of_heap (i:=0) (v:=.slice a len cap) o1 rfl) q
     have x2:=fun q=>hF.cell (heap_lt o4) (cell_of_heap (i:=0) (v:=.slice S (n*12) (n*12)) o4 rfl) q
     repeat (go_big_quiet_step ((go_at_call 95;with_reducible exact hF.call (HC.out _))))
     refine wpQuiet_nil ?_;rfl
    ·simp only [Pl.selN,List.drop_succ_cons,List.drop_zero,List.mem_singleton,forall_eq];intro u hu
     go_simp
     simp only [Pl.valsAt];have hbu:=HB.out.trans (hu.mono HB.out.size);refine (HONE.out _ hbu).mono ?_;rintro e w'' ⟨hb,he⟩;rw [HPF.out] at he;exact .inr ⟨short,he,rfl,hbu.trans (hb.mono hbu.size)⟩
    ·intro x hx;simp only [List.mem_singleton] at hx;subst hx;simp only [Pl.selN,List.drop_succ_cons,List.drop_zero,List.mem_singleton,forall_eq];intro u hu
     go_simp
     simp only [Pl.valsAt];exact (Below.refl _ _).alloc (Nat.le_refl _) _
    ·rintro c a' u hd ⟨rfl,hb⟩;exact ⟨hd,hb,by rw [HNO.out]⟩
   |some f=>
    have HPF:=Bas.hid hpf;clear hpf;refine' Pl.region_v2 47 [] [0,1,2,3,4] 5 26 6 7 [7] _ (fun v u=>∃vs,v=.agg #[.int .i64 f.type,.bool f.excl,.int .i64 f.dflt,vs]∧u.ownsRow w.heap.size 3 1 vs f.sets.length (f.sets.map (Value.int .i64))) (fun v u=>∃g,v=.pointer (some ⟨g,0,none⟩)∧wr.heap.size≤g∧u.heap[g]? =some (.cells #[.int .i64 0,.bool false,.int .i64 0,.slice none 0 0] 364 (0,0)))
     (by kernel_rfl) (by decide) (by kernel_rfl) (by simp) (fun _ _ _ _ e h=>⟨e▸h.1,h.2⟩) ?_ ?_ ?_ ?_ ?_ ?_
    rotate_left
    ·intro I F hI hF;simp only [Pl.selN,List.nil_append,List.drop_succ_cons,List.drop_zero];have x1:=fun q=>hF.cell (heap_lt o1) (cell_of_heap (i:=0) (v:=.slice a len cap) o1 rfl) q
     have x2:=fun q=>hF.cell (heap_lt o4) (cell_of_heap (i:=0) (v:=.slice S (n*12) (n*12)) o4 rfl) q
     repeat (go_big_quiet_step ((go_at_call 95;with_reducible exact hF.call (HC.out _))))
     refine wpQuiet_nil ?_;rfl
    ·rintro v x x' ⟨vs,h1,h2⟩ hx hx';exact ⟨vs,h1,Row.owned_below h2 hx'⟩
    ·rintro v x x' ⟨g,h1,h2,h3⟩ hx hx';exact ⟨g,h1,h2,(hx'.block g (heap_lt h3)).trans h3⟩
    ·simp only [Pl.selN,List.drop_succ_cons,List.drop_zero,List.mem_singleton,forall_eq];intro u hu
     go_simp
     simp only [Pl.valsAt];have hbu:=HB.out.trans (hu.mono HB.out.size);refine (HONE.out _ hbu).mono ?_;rintro e w'' ⟨hb,he⟩;rw [HPF.out] at he;obtain ⟨vs,he,hown⟩:=he;exact .inl ⟨_,he,hb,vs,rfl,Row.owned_base hown hbu.size⟩
    ·simp only [Pl.selN,List.drop_succ_cons,List.drop_zero,List.mem_singleton,forall_eq];intro u hu
     go_simp
     simp only [Pl.valsAt];exact ⟨(Below.refl _ _).alloc (Nat.le_refl _) _,_,rfl,hu.size,Bas.heap_new _ _⟩
    ·intro v1 v2 u hu hv1 hv2;obtain ⟨vs,rfl,hs⟩:=hv1;obtain ⟨T7,rfl,hT7,m7⟩:=hv2;obtain ⟨ads,cps,rfl⟩:=own_slice hs;simp only [Pl.selN,List.drop_succ_cons,List.drop_zero,Act.put,List.setIfInBounds_toArray,List.set_cons_zero,List.set_cons_succ];have c70:=cell_of_heap (i:=0) (v:=.int .i64 0) m7 rfl;have c71:=cell_of_heap (i:=1) (v:=.bool false) m7 rfl;have c72:=cell_of_heap (i:=2) (v:=.int .i64 0) m7 rfl;have c73:=cell_of_heap (i:=3) (v:=.slice none 0 0) m7 rfl;have f70:=free_of_heap (i:=0) m7;have f71:=free_of_heap (i:=1) m7;have f72:=free_of_heap (i:=2) m7;have f73:=free_of_heap (i:=3) m7;go_wp2_with (fail);clear c70 c71 c72 c73 f70 f71 f72 f73;have q0:=heap_set (i:=0) m7 (.int .i64 f.type);have q1:=heap_set (i:=1) q0 (.bool f.excl);have q2:=heap_set (i:=2) q1 (.int .i64 f.dflt);have q3:=heap_set (i:=3) q2 (.slice ads f.sets.length cps);have hkp:∀g,g≠T7→((((u.setCell ⟨T7,0,none⟩ (.int .i64 f.type)).setCell ⟨T7,1,none⟩ (.bool f.excl)).setCell ⟨T7,2,none⟩ (.int .i64 f.dflt)).setCell ⟨T7,3,none⟩ (.slice ads f.sets.length cps)).heap[g]? =u.heap[g]? :=fun g hg=>(Below.heap_setCell _ _ _ _ hg).trans ((Below.heap_setCell _ _ _ _ hg).trans ((Below.heap_setCell _ _ _ _ hg).trans (Below.heap_setCell _ _ _ _ hg)))
     have hbw:=hu;have hwT:w.heap.size≤T7:=Nat.le_trans HB.out.size hT7;have HB6:=Bas.hid ((((( (HB.out.trans (hu.mono HB.out.size)).setCell (p:=⟨T7,0,none⟩) hwT (.int .i64 f.type)).setCell (p:=⟨T7,1,none⟩) hwT (.bool f.excl)).setCell (p:=⟨T7,2,none⟩) hwT (.int .i64 f.dflt)).setCell (p:=⟨T7,3,none⟩) hwT (.slice ads f.sets.length cps)));have FR6:=Bas.hid (fRow_keep HFR.out fun g _ hg=>(hkp g (by omega)).trans (hu.block g hg))
     have HS6:=Bas.hid (Row.owned_keep hs fun g' hg'=>hkp g' (fun e=>own_ty hs m7 (by decide) (by rw [hg',e])))
     have p1:=(hkp _ (by have:=heap_lt o1;omega)).trans ((hu.block _ (heap_lt o1)).trans o1)
     have p4:=(hkp _ (by have:=heap_lt o4;omega)).trans ((hu.block _ (heap_lt o4)).trans o4)
     generalize (((u.setCell ⟨T7,0,none⟩ (.int .i64 f.type)).setCell ⟨T7,1,none⟩ (.bool f.excl)).setCell ⟨T7,2,none⟩ (.int .i64 f.dflt)).setCell ⟨T7,3,none⟩ (.slice ads f.sets.length cps)=W6 at*;have m6:W6.heap[T7]? =some (.cells #[.int .i64 f.type,.bool f.excl,.int .i64 f.dflt,.slice ads f.sets.length cps] 364 (0,0)):=q3;have HSTEP:Hid (featsAt bs (n - i) i (lastT fs)=if risesB (lastT fs) f.type=true then (featsAt bs (n - (i+1)) (i+1) (some f.type)).map (f::·) else none):=by
      unfold Hid;rw [show n - i=(n - (i+1))+1 by omega,featsAt,HPF.out]
      rfl
     clear q0 q1 q2 q3 hkp hbw hu hs m7 o1 o4 HONE HC HRV;rcases Nat.eq_zero_or_pos i with hi0|hi0
     ·subst hi0;have hfs:fs=[]:=List.length_eq_zero_iff.1 HFL.out;have HR0:Hid (risesB (lastT fs) f.type=true):=by unfold Hid;rw [hfs];rfl
      clear hfs;have ei:(0:Int)=((0:Nat):Int):=rfl;clear ei;refine' Pl.region_v0 47 [] [0,1,2,3,4,5,6,7,8,9,10,11,12,13] [] _ (by kernel_rfl) (by kernel_rfl) (by simp) (fun _ _ _ _ e h=>⟨e▸h.1,h.2⟩) ?_ ?_
      rotate_left
      ·intro I F hI hF;simp only [Pl.selN,List.nil_append,List.drop_succ_cons,List.drop_zero];repeat (go_big_quiet_step ((go_at_call 56;exact hF.same (need_yesb _ _ (by first|rfl|(simp;done)|(simp;omega))))))
       refine wpQuiet_nil ?_;rfl
      intro u3 hu3;simp only [Pl.selN];have r1:=(hu3.block _ (heap_lt p1)).trans p1;have r4:=(hu3.block _ (heap_lt p4)).trans p4;have r7:=(hu3.block _ (heap_lt m6)).trans m6;have HB7:=Bas.hid (HB6.out.trans (hu3.mono HB6.out.size));have FR7:=Bas.hid (fRow_below FR6.out hu3);have HS7:=Bas.hid (Row.owned_below HS6.out hu3);have b0:=cell_of_heap (i:=0) (v:=.int .i64 f.type) r7 rfl;have b1:=cell_of_heap (i:=1) (v:=.bool f.excl) r7 rfl;have b2:=cell_of_heap (i:=2) (v:=.int .i64 f.dflt) r7 rfl;have b3:=cell_of_heap (i:=3) (v:=.slice ads f.sets.length cps) r7 rfl;clear hu3 p1 p4 m6 HB6 FR6 HS6;go_wp2_with (at_builtin;refine Row.fence ?_);refine Row.unfence ?_;have s1:=(Below.heap_alloc u3 (.cells #[.int .i64 f.type,.bool f.excl,.int .i64 f.dflt,.slice ads f.sets.length cps] 364) _ (heap_lt r1)).trans r1;have s4:=(Below.heap_alloc u3 (.cells #[.int .i64 f.type,.bool f.excl,.int .i64 f.dflt,.slice ads f.sets.length cps] 364) _ (heap_lt r4)).trans r4;have k9:=Bas.heap_new u3 (.cells #[.int .i64 f.type,.bool f.excl,.int .i64 f.dflt,.slice ads f.sets.length cps] 364);have hb9:=(Below.refl u3.heap.size u3).alloc (Nat.le_refl _) (.cells #[.int .i64 f.type,.bool f.excl,.int .i64 f.dflt,.slice ads f.sets.length cps] 364);have HB9:=Bas.hid (HB7.out.trans (hb9.mono HB7.out.size));have FR9:=Bas.hid (fRow_below FR7.out hb9);have HS9:=Bas.hid (Row.owned_below HS7.out hb9);generalize u3.alloc (.cells #[.int .i64 f.type,.bool f.excl,.int .i64 f.dflt,.slice ads f.sets.length cps] 364)=W9 at*;clear hb9 r1 r4 r7 b0 b1 b2 b3 HB7 FR7 HS7;have hkb:fs.length≤65535:=by rw [HFL.out];omega
      have hvo1:=own_ty FR9.out.own s1 (by decide)
      have hvo4:=own_ty FR9.out.own s4 (by decide)
      have hfo:=FR9.out.own;rw [HFL.out] at hfo;refine (Row.append_any rfl _ _ 198 364 rfl (.agg #[.int .i64 0,.bool false,.int .i64 0,.slice none 0 0]) 4 48 Tryz.underlying198 infoFt rfl (by decide) w.heap.size (.slice ado 0 cpo) 0 _ rfl hfo (.slice (some ⟨u3.heap.size,0,none⟩) 1 1) 1 [.int .i64 f.type,.bool f.excl,.int .i64 f.dflt,.slice ads f.sets.length cps] rfl (leads_heap k9) rfl (by simp;exact ⟨rfl,rfl,rfl,rfl⟩) (by unfold maxLen;omega) (by omega) HB9.out.size ?_)
      intro v' w10 hown10 hg10 _;obtain ⟨ad10,cp10,rfl⟩:=own_slice hown10;have HK:=Bas.hid fun (e:TypeId) (size n:Nat) (u:Value) (xs:List Value) (he:e≠364) (ho:W9.ownsRow w.heap.size e size u n xs)=>Row.owned_keep ho fun g' hg'=>hg10.block g' (Row.own_block ho hg').2 (fun e'=>own_rows_ne FR9.out.own ho (fun h=>he h.symm) (by rw [HFL.out];exact e'.symm) hg')
      have z1:=(hg10.block _ (heap_lt s1) (fun e=>hvo1 (by rw [HFL.out];exact e.symm))).trans s1
      have z4:=(hg10.block _ (heap_lt s4) (fun e=>hvo4 (by rw [HFL.out];exact e.symm))).trans s4
      have HCN:=Bas.hid (fRow_snoc (f:=f) FR9.out (by rw [HFL.out];exact hown10) HK.out (HK.out _ _ _ _ _ (by decide) HS9.out))
      have HB10:=Bas.hid (HB9.out.grown hg10 HB9.out.size (fun g' hg'=>(Row.own_block FR9.out.own (by rw [HFL.out];exact hg')).1))
      clear hown10 hg10 s1 s4 k9 hvo1 hvo4 hfo HB9 FR9 HS9 HK;go_wp2_with (fail);go_roundw
      case rel=>exact ⟨0+1,_,fs++[f],ss++[.slice ads f.sets.length cps],by omega,by go_num,rfl,by rw [List.length_append,HFL.out];rfl,by
       rw [HSUB.out,HSTEP.out,if_pos HR0.out,lastT_snoc];simp [Option.map_map,Function.comp_def],HCN.out,HB10.out,z1,z4⟩
      case measure=>simp [intOf];omega
     ·obtain ⟨j,hj⟩:∃j,i=j+1:=⟨i - 1,by omega⟩
      have e5:(i:Int) - 1=(j:Int):=by omega
      have hne:((i:Int)==0)=false:=by simp;omega
      have hji:j<i:=by omega
      obtain ⟨p,hp⟩:∃p,fs[j]? =some p:=⟨_,List.getElem?_eq_getElem (by rw [HFL.out];exact hji)⟩
      obtain ⟨sp,hsp⟩:∃sp,ss[j]? =some sp:=⟨_,List.getElem?_eq_getElem (by rw [FR6.out.len,HFL.out];exact hji)⟩
      have hz:(fs.zip ss)[j]? =some (p,sp):=List.getElem?_zip_eq_some.2 ⟨hp,hsp⟩;obtain ⟨G,C,hvG,-,hGl,-,hcl⟩:=Row.elem_cells fC_len FR6.out.own hz (by omega) (by rw [List.length_zip,FR6.out.len,Nat.min_self])
      have cG:W6.cell? ⟨G,j*4,none⟩=some (.int .i64 p.type):=hcl 0 _ rfl;rw [HFL.out] at hvG;cases hvG;have hlast:lastT fs=some p.type:=by
       unfold lastT;rw [List.getLast?_eq_getElem?,HFL.out,show i - 1=j by omega,hp];rfl
      have HLT:=Bas.hid hlast;have HJ:=Bas.hid hj;obtain ⟨pt,hpt⟩:∃pt,pt=p.type:=⟨_,rfl⟩;rw [←hpt] at cG HLT;clear hj hp hsp hz hcl hlast hpt;by_cases hlt:pt<f.type
      ·have dlt:decide (pt<f.type)=true:=by simpa using hlt
       have HR1:Hid (risesB (lastT fs) f.type=true):=by unfold Hid;rw [HLT.out];exact dlt
       refine' Pl.region_v0 47 [] [0,1,2,3,4,5,6,7,8,9,10,11,12,13] [] _ (by kernel_rfl) (by kernel_rfl) (by simp) (fun _ _ _ _ e h=>⟨e▸h.1,h.2⟩) ?_ ?_
       rotate_left
       ·intro I F hI hF;simp only [Pl.selN,List.nil_append,List.drop_succ_cons,List.drop_zero];have x1:=fun q=>hF.cell (heap_lt m6) (cell_of_heap (i:=0) (v:=.int .i64 f.type) m6 rfl) q
        have x2:=fun q=>hF.cell hGl cG q
        repeat (go_big_quiet_step ((go_at_call 56;exact hF.same (need_yesb _ _ (by first|rfl|(simp;done)|(simp;omega))))))
        refine wpQuiet_nil ?_;rfl
       intro u3 hu3;simp only [Pl.selN];have r1:=(hu3.block _ (heap_lt p1)).trans p1;have r4:=(hu3.block _ (heap_lt p4)).trans p4;have r7:=(hu3.block _ (heap_lt m6)).trans m6;have HB7:=Bas.hid (HB6.out.trans (hu3.mono HB6.out.size));have FR7:=Bas.hid (fRow_below FR6.out hu3);have HS7:=Bas.hid (Row.owned_below HS6.out hu3);have b0:=cell_of_heap (i:=0) (v:=.int .i64 f.type) r7 rfl;have b1:=cell_of_heap (i:=1) (v:=.bool f.excl) r7 rfl;have b2:=cell_of_heap (i:=2) (v:=.int .i64 f.dflt) r7 rfl;have b3:=cell_of_heap (i:=3) (v:=.slice ads f.sets.length cps) r7 rfl;clear hu3 p1 p4 m6 HB6 FR6 HS6;go_wp2_with (at_builtin;refine Row.fence ?_);refine Row.unfence ?_;have s1:=(Below.heap_alloc u3 (.cells #[.int .i64 f.type,.bool f.excl,.int .i64 f.dflt,.slice ads f.sets.length cps] 364) _ (heap_lt r1)).trans r1;have s4:=(Below.heap_alloc u3 (.cells #[.int .i64 f.type,.bool f.excl,.int .i64 f.dflt,.slice ads f.sets.length cps] 364) _ (heap_lt r4)).trans r4;have k9:=Bas.heap_new u3 (.cells #[.int .i64 f.type,.bool f.excl,.int .i64 f.dflt,.slice ads f.sets.length cps] 364);have hb9:=(Below.refl u3.heap.size u3).alloc (Nat.le_refl _) (.cells #[.int .i64 f.type,.bool f.excl,.int .i64 f.dflt,.slice ads f.sets.length cps] 364);have HB9:=Bas.hid (HB7.out.trans (hb9.mono HB7.out.size));have FR9:=Bas.hid (fRow_below FR7.out hb9);have HS9:=Bas.hid (Row.owned_below HS7.out hb9);generalize u3.alloc (.cells #[.int .i64 f.type,.bool f.excl,.int .i64 f.dflt,.slice ads f.sets.length cps] 364)=W9 at*;clear hb9 r1 r4 r7 b0 b1 b2 b3 HB7 FR7 HS7;have hkb:fs.length≤65535:=by rw [HFL.out];omega
       have hvo1:=own_ty FR9.out.own s1 (by decide)
       have hvo4:=own_ty FR9.out.own s4 (by decide)
       have hfo:=FR9.out.own;rw [HFL.out] at hfo;refine (Row.append_any rfl _ _ 198 364 rfl (.agg #[.int .i64 0,.bool false,.int .i64 0,.slice none 0 0]) 4 48 Tryz.underlying198 infoFt rfl (by decide) w.heap.size (.slice (some ⟨G,0,none⟩) i cpo) i _ rfl hfo (.slice (some ⟨u3.heap.size,0,none⟩) 1 1) 1 [.int .i64 f.type,.bool f.excl,.int .i64 f.dflt,.slice ads f.sets.length cps] rfl (leads_heap k9) rfl (by simp;exact ⟨rfl,rfl,rfl,rfl⟩) (by unfold maxLen;omega) (by omega) HB9.out.size ?_)
       intro v' w10 hown10 hg10 _;obtain ⟨ad10,cp10,rfl⟩:=own_slice hown10;have HK:=Bas.hid fun (e:TypeId) (size n:Nat) (u:Value) (xs:List Value) (he:e≠364) (ho:W9.ownsRow w.heap.size e size u n xs)=>Row.owned_keep ho fun g' hg'=>hg10.block g' (Row.own_block ho hg').2 (fun e'=>own_rows_ne FR9.out.own ho (fun h=>he h.symm) (by rw [HFL.out];exact e'.symm) hg')
       have z1:=(hg10.block _ (heap_lt s1) (fun e=>hvo1 (by rw [HFL.out];exact e.symm))).trans s1
       have z4:=(hg10.block _ (heap_lt s4) (fun e=>hvo4 (by rw [HFL.out];exact e.symm))).trans s4
       have HCN:=Bas.hid (fRow_snoc (f:=f) FR9.out (by rw [HFL.out];exact hown10) HK.out (HK.out _ _ _ _ _ (by decide) HS9.out))
       have HB10:=Bas.hid (HB9.out.grown hg10 HB9.out.size (fun g' hg'=>(Row.own_block FR9.out.own (by rw [HFL.out];exact hg')).1))
       clear hown10 hg10 s1 s4 k9 hvo1 hvo4 hfo HB9 FR9 HS9 HK;go_wp2_with (fail);go_roundw
       case rel=>exact ⟨i+1,_,fs++[f],ss++[.slice ads f.sets.length cps],by omega,by go_num,rfl,by rw [List.length_append,HFL.out];rfl,by
        rw [HSUB.out,HSTEP.out,if_pos HR1.out,lastT_snoc];simp [Option.map_map,Function.comp_def],HCN.out,HB10.out,z1,z4⟩
       case measure=>simp [intOf];omega
      ·have dlt:decide (pt<f.type)=false:=by simpa using hlt
       have HNO:Hid (parseFs bs=none):=by
        unfold Hid;rw [HPA.out,HSUB.out,HSTEP.out,HLT.out,if_neg (by show ¬(decide (pt<f.type)=true);rw [dlt];decide)]
        rfl
       refine' Pl.region_vh 47 [] [0,1,2,3,4,5,6,7,8,9,10,11,12] [] 13 40 [] _ (fun ch w'=>ch=short∧Below w.heap.size w w') (by kernel_rfl) (by kernel_rfl) (by kernel_rfl) (by simp) (fun _ _ _ _ e h=>⟨e▸h.1,h.2⟩) ?_ ?_ ?_ ?_
       rotate_left
       ·intro I F hI hF;simp only [Pl.selN,List.nil_append,List.drop_succ_cons,List.drop_zero];have x1:=fun q=>hF.cell (heap_lt m6) (cell_of_heap (i:=0) (v:=.int .i64 f.type) m6 rfl) q
        have x2:=fun q=>hF.cell hGl cG q
        repeat (go_big_quiet_step (fail))
        refine wpQuiet_nil ?_;rfl
       ·simp only [Pl.selN,List.drop_succ_cons,List.drop_zero,List.mem_singleton,forall_eq];intro u' hu'
        go_simp
        simp only [Pl.valsAt];have hbu:=HB6.out.trans (hu'.mono HB6.out.size);refine (need_nob _ u' (by first|rfl|(simp;done)|(simp;omega))).mono ?_
        rintro e w'' ⟨he,rfl⟩;exact .inr ⟨short,he,rfl,hbu⟩
       ·intro x hx;cases hx
       ·rintro c a' u' hd ⟨rfl,hb⟩;exact ⟨hd,hb,by rw [HNO.out]⟩
  ·have hdone:parseFs bs=some fs:=by
    rw [HPA.out,HSUB.out,show n - i=0 by omega,featsAt];simp
   have HD:=Bas.hid hdone;clear hdone;go_wp2_with (fail);refine bodyPost_ret (v:=.slice ado i cpo) (by simp [results,Tryz.results98,go_sem]) rfl ?_
   refine ⟨HB.out, ?_⟩;rw [HD.out];have h:=HFR.out;rw [HFL.out] at h;exact ⟨_,_,rfl,h⟩
theorem ftake_no(a:Option Addr)(len cap:Nat)(bs:List Int)(w:World)(hl:len≤cap)(hc:cap≤maxLen)(hv:VB w a bs)(hbl:bs.length=len)(hsmall:len≤1000000000)
  (hno:¬(12≤len∧be bs 0 4=65536∧12+12*(be bs 4 2).toNat≤len)):
  Calls Tryz.prog 98 #[.agg #[.slice a len cap]] w (FTakeP w bs):=by
 have hnone:parseFs bs=none:=by unfold parseFs;rw [hbl,if_neg hno]
 have POST:Hid (∀w',Below w.heap.size w w'→FTakeP w bs (.panicked short) w'):=fun w' hb=>⟨hb,by rw [hnone]⟩
 have HV:=Bas.hid hv;have k1:=Bas.heap_new w (.cells #[.slice a len cap] 190);have HB1:=Bas.hid ((Below.refl w.heap.size w).alloc (Nat.le_refl _) (.cells #[.slice a len cap] 190));clear hnone hv;by_cases h4:4≤len
 ·have U1:=fun (w':World) (hb:Below w.heap.size w w')=>u32_ok a len cap bs 0 w' hl hc (HV.out.below hb) hbl (by omega) (by omega)
  simp only [show Int.toNat 0=0 from rfl] at U1
  generalize be bs 0 4=kind at*;have HU1:=Bas.hid U1;clear U1;by_cases hk:kind=65536
  ·subst hk;by_cases h6:6≤len
   ·have U2:=fun (w':World) (hb:Below w.heap.size w w')=>u16_ok a len cap bs 4 w' hl hc (HV.out.below hb) hbl (by omega) (by omega)
    simp only [show Int.toNat 4=4 from rfl] at U2
    have hnb:=be2_bd bs HV.out.byte 4 (by omega)
    generalize be bs 4 2=n at*;obtain ⟨n0,n1⟩:=hnb;have hrn:¬rowsB len 12 n 12:=fun h=>by
     obtain ⟨r1,r2,r3,r4,r5⟩:=h;exact hno ⟨by omega,rfl,by omega⟩
    have HU2:=Bas.hid U2;clear U2 hno;go_enter Tryz.func98,Tryz.ntmps98
    go_wp2_with (fail);generalize w.alloc (.cells #[.slice a len cap] 190)=W1 at*;refine (HU1.out _ HB1.out).mono ?_;rintro e w2 ⟨rfl,hb2⟩;have k2:=(hb2.block _ (heap_lt k1)).trans k1;have HB2:=Bas.hid (HB1.out.trans (hb2.mono HB1.out.size));have c2:=cell_of_heap (i:=0) (v:=.slice a len cap) k2 rfl;clear hb2 k1 HB1 HU1;go_wp2_with (go_at_call 56;refine (need_yesb _ _ (by first|rfl|(simp;done)|(simp;omega))).mono ?_;rintro e w' ⟨rfl,rfl⟩)
    refine (HU2.out _ HB2.out).mono ?_;rintro e w3 ⟨rfl,hb3⟩;have k3:=(hb3.block _ (heap_lt k2)).trans k2;have HB3:=Bas.hid (HB2.out.trans (hb3.mono HB2.out.size));have c3:=cell_of_heap (i:=0) (v:=.slice a len cap) k3 rfl;clear hb3 k2 c2 HB2 HU2;go_wp2_with (fail);refine (rows_no a len cap _ _ _ w3 hl hc hrn).mono ?_;rintro e w4 ⟨rfl,hb4⟩;go_wp2_with (fail);exact ⟨rfl,POST.out _ (HB3.out.trans (hb4.mono HB3.out.size))⟩
   ·clear hno;go_enter Tryz.func98,Tryz.ntmps98
    go_wp2_with (fail);generalize w.alloc (.cells #[.slice a len cap] 190)=W1 at*;refine (HU1.out _ HB1.out).mono ?_;rintro e w2 ⟨rfl,hb2⟩;have k2:=(hb2.block _ (heap_lt k1)).trans k1;have HB2:=Bas.hid (HB1.out.trans (hb2.mono HB1.out.size));have c2:=cell_of_heap (i:=0) (v:=.slice a len cap) k2 rfl;clear hb2 k1 HB1 HU1;go_wp2_with (go_at_call 56;refine (need_yesb _ _ (by first|rfl|(simp;done)|(simp;omega))).mono ?_;rintro e w' ⟨rfl,rfl⟩)
    refine (u16_no a len cap _ w2 hl hc (by omega)).mono ?_
    rintro e w3 ⟨rfl,hb3⟩;go_wp2_with (fail);exact ⟨rfl,POST.out _ (HB2.out.trans (hb3.mono HB2.out.size))⟩
  ·have hk2:(kind==65536)=false:=by simpa using hk
   clear hno;go_enter Tryz.func98,Tryz.ntmps98
   go_wp2_with (fail);generalize w.alloc (.cells #[.slice a len cap] 190)=W1 at*;refine (HU1.out _ HB1.out).mono ?_;rintro e w2 ⟨rfl,hb2⟩;have HB2:=Bas.hid (HB1.out.trans (hb2.mono HB1.out.size));clear hb2 k1 HB1 HU1;go_wp2_with (go_at_call 56;refine (need_nob _ _ (by first|(simp;done)|(simp;omega))).mono ?_;rintro e w' ⟨rfl,rfl⟩)
   exact ⟨rfl,POST.out _ HB2.out⟩
 ·clear hno;go_enter Tryz.func98,Tryz.ntmps98
  go_wp2_with (fail);generalize w.alloc (.cells #[.slice a len cap] 190)=W1 at*;refine (u32_no a len cap _ W1 hl hc (by omega)).mono ?_
  rintro e w2 ⟨rfl,hb2⟩;go_wp2_with (fail);exact ⟨rfl,POST.out _ (HB1.out.trans (hb2.mono HB1.out.size))⟩
theorem ftake_any(a:Option Addr)(len cap:Nat)(bs:List Int)(w:World)(hl:len≤cap)(hc:cap≤maxLen)(hv:VB w a bs)(hbl:bs.length=len)(hsmall:len≤1000000000):
  Calls Tryz.prog 98 #[.agg #[.slice a len cap]] w (FTakeP w bs):=by
 by_cases h:12≤len∧be bs 0 4=65536∧12+12*(be bs 4 2).toNat≤len
 ·have h1:=be2_bd bs hv.byte 4 (by omega)
  exact ftake_main a len cap bs (be bs 4 2).toNat w hl hc hv hbl hsmall h.1 h.2.1 (by omega) h.2.2
 ·exact ftake_no a len cap bs w hl hc hv hbl hsmall h
def ReadR(W:World)(bo:Nat)(good:Bool)(Ok:World→Nat→Value→Prop)(ok:Bool)(w2:World):Prop:=
 W.grownBy w2 (some bo)∧ok=good∧w2.frozen? ⟨bo,0,none⟩=false∧∃v,w2.cell? ⟨bo,0,none⟩=some v∧(good=true→Ok w2 W.heap.size v)
def TakeG(good:Bool)(Ok:World→Nat→Value→Prop)(w:World)(e:Ending)(w':World):Prop:=
 Below w.heap.size w w'∧if good then ∃v,e=.returned v∧Ok w' w.heap.size v else e=.panicked short
structure Keeps (Ok:World→Nat→Value→Prop):Prop where
 keep:∀w w' base v,Ok w base v→(∀g,base≤g→g<w.heap.size→w'.heap[g]? =w.heap[g]?)→w.heap.size≤w'.heap.size→Ok w' base v
 base:∀w base base' v,Ok w base v→base'≤base→Ok w base' v
 form:∀w base v,Ok w base v→∃ad n cp,v=.slice ad n cp
theorem read1_any(a:Option Addr)(len cap:Nat)(bs:List Int)(good:Bool)(Ok:World→Nat→Value→Prop)(hK:Keeps Ok)(bb bo bt:Nat)(W:World)(hv:VB W a bs)
  (hT:∀w,VB w a bs→Calls Tryz.prog 98 #[.agg #[.slice a len cap]] w (TakeG good Ok w))
  (h1:W.cell? ⟨bb,0,none⟩=some (.slice a len cap)) (h5:W.cell? ⟨bo,0,none⟩=some (.slice none 0 0)) (h6:W.frozen? ⟨bo,0,none⟩=false) (hne:bt≠bo) (hk:W.heap[bt]? =some (.cells #[.bool false] 4 (0,0))):
  Calls Tryz.prog 97 #[.pointer (some ⟨bb,0,none⟩),.pointer (some ⟨bo,0,none⟩)] W (TryPost bt (ReadR W bo good Ok)):=by
 have l5:=World.block_lt_of_cell? _ _ h5;have lt:=(Array.getElem?_eq_some_iff.1 hk).1;have HT:=Bas.hid (fun w' (hb:Below W.heap.size W w')=>hT w' (hv.below hb))
 have HK:=Bas.hid hK;clear hT hv hK;go_enter Tryz.func97,Tryz.ntmps97
 go_wp2_with (fail);refine (of_any a len cap W).mono ?_;rintro e w1 ⟨rfl,hb1⟩;go_wp2_with (fail);refine (HT.out _ hb1).mono ?_;rintro e w2 ⟨hb2,he⟩;have hb:Below W.heap.size W w2:=hb1.trans (hb2.mono hb1.size);have s1:=hb1.size;cases good with
 |false=>
  simp only [Bool.false_eq_true,if_false] at he;subst he;have POST:TryPost bt (ReadR W bo false Ok) (.panicked short) w2:=⟨(hb.block bt lt).trans hk,.inr ⟨rfl,Bas.gbelow (Bas.grefl _ _) hb,rfl,(hb.frozen (p:=⟨bo,0,none⟩) l5).trans h6,_,(hb.cell (p:=⟨bo,0,none⟩) l5).trans h5,fun h=>by cases h⟩⟩
  have HP:=Bas.hid POST;clear POST HT HK hb hb1 hb2;go_wp2_with (fail);exact ⟨rfl,HP.out⟩
 |true=>
  simp only [if_true] at he;obtain ⟨v,rfl,hok⟩:=he;have c5:=(hb.cell (p:=⟨bo,0,none⟩) l5).trans h5;have f5:=(hb.frozen (p:=⟨bo,0,none⟩) l5).trans h6;have hs2:=hb.size;have lt2:bo<w2.heap.size:=by have:bo<W.heap.size:=l5;omega
  have POST:TryPost bt (ReadR W bo true Ok) (.returned (.tuple #[])) (w2.setCell ⟨bo,0,none⟩ v):=by
   refine ⟨(Below.heap_setCell _ _ _ _ hne).trans ((hb.block bt lt).trans hk),.inl ⟨rfl,Bas.gset (Bas.gbelow (Bas.grefl _ _) hb) 0 v,rfl,by simpa [go_sem] using f5,v,by simp [go_sem,c5],fun _=> ?_⟩⟩
   refine HK.out.base _ _ _ _ (HK.out.keep _ _ _ _ hok (fun g h _=>Below.heap_setCell _ _ _ _ (by have:bo<W.heap.size:=l5;show g≠bo;omega)) (by simp [World.setCell])) s1
  have HP:=Bas.hid POST;obtain HF:=HK.out.form _ _ _ hok;clear POST HT HK hb hb1 hb2 hok hk h1 h5 h6
  first|obtain ⟨ad,n,cp,rfl⟩:=HF|obtain ⟨pp,rfl⟩:=HF
  go_wp2_with (fail);exact bodyPost_ret (v:=.tuple #[]) (by simp [results,Tryz.results97,go_sem]) rfl HP.out
def ReadG(good:Bool)(Ok:World→Nat→Value→Prop)(w:World)(e:Ending)(w':World):Prop:=
 Below w.heap.size w w'∧if good then ∃v,e=.returned (.tuple #[v,.int .i64 0])∧Ok w' w.heap.size v else e=.returned (.tuple #[.slice none 0 0,.int .i64 2])
theorem read_any(a:Option Addr)(len cap:Nat)(bs:List Int)(good:Bool)(Ok:World→Nat→Value→Prop)(hK:Keeps Ok)(w:World)(hv:VB w a bs)
  (hT:∀w,VB w a bs→Calls Tryz.prog 98 #[.agg #[.slice a len cap]] w (TakeG good Ok w)):
  Calls Tryz.prog 55 #[.slice a len cap] w (ReadG good Ok w):=by
 have hmf:∀(fn:Fn) (first cap:Array Value) (w:World),(Instr.makeFunc fn first cap).run Tryz.prog w=.ok (.func fn first cap) w:=fun _ _ _ _=>rfl
 have hcf:∀(caps:Array Value) w,(callFunc 97 caps).run Tryz.prog w=.ok (.enter 97 caps) w:=fun caps w=>by simp [go_sem]
 have HCF:=Bas.hid hcf;have HH:=Bas.hid fun W bb bo bt h0=>read1_any a len cap bs good Ok hK bb bo bt W h0 hT
 have HV:=Bas.hid hv;have HK:=Bas.hid hK;clear hcf hv hT hK;go_enter Tryz.func55,Tryz.ntmps55
 go_wp2_with (fail);generalize hW:(w.alloc (.cells #[.slice a len cap] 47)).alloc (.cells #[.slice none 0 0] 198)=W;have hWs:W.heap.size=w.heap.size+2:=by rw [←hW];simp
 have HB:Below w.heap.size w W:=by rw [←hW];exact ((Below.refl w.heap.size w).alloc (Nat.le_refl _) _).alloc (by simp) _
 have cell:∀b o v,b<w.heap.size+2→W.cell? ⟨b,o,none⟩=some v→(W.alloc (.cells #[.bool false] 4)).cell? ⟨b,o,none⟩=some v:=fun b o v hb h=>by
  rw [World.cell?_alloc_lt _ _ _ (by show b<_;omega)];exact h
 have HC:=HH.out (W.alloc (.cells #[.bool false] 4)) w.heap.size (w.heap.size+1) W.heap.size ((HV.out.below HB).below ((Below.refl _ _).alloc (Nat.le_refl _) _))
  (cell _ _ _ (by omega) (by rw [←hW];simp [go_sem])) (cell _ _ _ (by omega) (by rw [←hW];simp [go_sem])) (by rw [frozen?_alloc_cells,←hW];simp [go_sem]) (by omega) (Bas.heap_new _ _)
 clear HH cell hW;refine (try_any 97 _ W _ (HCF.out _) HC).mono ?_;clear HC HCF;rintro e w5 ⟨ok,w2,rfl,⟨hg2,hok,hfz2,v,hcv,hm⟩,hlt2,hg5⟩;subst hok;have hs2:=hg2.size;simp only [World.size_alloc] at hs2;have hs5:=hg5.size;have hcv5:w5.cell? ⟨w.heap.size+1,0,none⟩=some v:=(Bas.gcell hg5 (by omega) (by simp;omega)).trans hcv
 have hfz5:w5.frozen? ⟨w.heap.size+1,0,none⟩=false:=by
  rw [Bas.gfrozen hg5 (by omega) (by simp;omega)]
  exact hfz2
 have HB5:Below w.heap.size w w5:=Bas.below_g (Bas.below_g (HB.alloc HB.size _) hg2 (by simp;omega) (by omega)) hg5 (by omega) (by omega)
 have hm5:ok=true→∀u,Ok (w5.setCell ⟨w.heap.size+1,0,none⟩ u) w.heap.size v:=fun h u=>by
  refine HK.out.base _ _ _ _ (HK.out.keep _ _ _ _ (hm h) (fun g h1 h2=> ?_) (by simp [World.setCell];omega)) (by simp;omega)
  simp only [World.size_alloc] at h1;exact (Below.heap_setCell _ _ _ _ (by show g≠w.heap.size+1;omega)).trans (hg5.block g h2 (by simp;omega))
 have HM:=Bas.hid hm5;have HMS:=Bas.hid (fun h=>HK.out.form _ _ _ (hm h))
 clear hcv hfz2 hm hm5 hg2 hg5 HK;cases ok with
 |false=>
  clear HMS HM;go_wp2_with (fail);exact bodyPost_ret (v:=.tuple #[.slice none 0 0,.int .i64 2]) (by simp [results,Tryz.results55,go_sem,hcv5]) rfl ⟨HB5.setCell (by simp) _,by simp⟩
 |true=>
  obtain ⟨ad,nn,cp,hv'⟩:=HMS.out rfl;subst hv';have HM2:=Bas.hid (HM.out rfl);clear HMS HM;go_wp2_with (fail);exact bodyPost_ret (v:=.tuple #[.slice ad nn cp,.int .i64 0]) (by simp [results,Tryz.results55,go_sem,hcv5]) rfl ⟨HB5.setCell (by simp) _,by simp only [if_true];exact ⟨_,rfl,HM2.out _⟩⟩
def okRow(fs:Option (List FeatD))(w:World)(base:Nat)(v:Value):Prop:=∃l ss,fs=some l∧FRow w base v l ss
theorem okRow_keeps(fs:Option (List FeatD)):Keeps (okRow fs):=
 ⟨fun _ _ _ _ ⟨l, ss, h1, h2⟩ hk _ => ⟨l, ss, h1, fRow_keep h2 hk⟩, fun _ _ _ _ ⟨l, ss, h1, h2⟩ hb => ⟨l, ss, h1, fRow_base h2 hb⟩, fun _ _ _ ⟨_, _, _, h2⟩ => by
  obtain ⟨ad,cp,h⟩:=own_slice h2.own;exact ⟨_,_,_,h⟩⟩
theorem takeG(a:Option Addr)(len cap:Nat)(bs:List Int)(hl:len≤cap)(hc:cap≤maxLen)(hbl:bs.length=len)(hsmall:len≤1000000000)(w:World)(hv:VB w a bs):
  Calls Tryz.prog 98 #[.agg #[.slice a len cap]] w (TakeG (parseFs bs).isSome (okRow (parseFs bs)) w):=by
 refine (ftake_any a len cap bs w hl hc hv hbl hsmall).mono ?_;rintro e w' ⟨hb,h⟩;refine ⟨hb, ?_⟩;cases hp:parseFs bs with
 |none=>rw [hp] at h;simpa using h
 |some cs=>
  rw [hp] at h;obtain ⟨v,rs,he,hr⟩:=h;simp only [Option.isSome_some,if_true];exact ⟨v,he,cs,rs,rfl,hr⟩
def FReadP(w:World)(bs:List Int)(e:Ending)(w':World):Prop:=
 Below w.heap.size w w'∧match parseFs bs with
  |none=>e=.returned (.tuple #[.slice none 0 0,.int .i64 2])
  |some fs=>∃v ss,e=.returned (.tuple #[v,.int .i64 0])∧FRow w' w.heap.size v fs ss
theorem fRead_any(a:Option Addr)(len cap:Nat)(bs:List Int)(w:World)(hl:len≤cap)(hc:cap≤maxLen)(hv:VB w a bs)(hbl:bs.length=len)(hsmall:len≤1000000000):
  Calls Tryz.prog 55 #[.slice a len cap] w (FReadP w bs):=by
 refine (read_any a len cap bs _ _ (okRow_keeps (parseFs bs)) w hv (takeG a len cap bs hl hc hbl hsmall)).mono ?_;rintro e w' ⟨hb,h⟩;refine ⟨hb, ?_⟩;cases hp:parseFs bs with
 |none=>rw [hp] at h;simpa using h
 |some cs=>
  rw [hp] at h;simp only [Option.isSome_some,if_true] at h;obtain ⟨v,he,l,rs,h1,h2⟩:=h;cases h1;exact ⟨v,rs,he,h2⟩
end Ft
namespace Ft
open Vw Wr Ch
structure WPlan where
 type:Int
 flags:Int
 sets:List Int
def wPC(x:WPlan×Value):List Value:=[.int .u16 x.1.type,.int .u16 x.1.flags,x.2]
def wS(x:Int):List Value:=[.int .u16 x]
theorem wPC_len(x:WPlan×Value):(wPC x).length=3:=rfl
theorem wS_len(x:Int):(wS x).length=1:=rfl
def WPlans(w:World)(v:Value)(l:List WPlan):Prop:=∃rs:List Value,rs.length=l.length∧Row.Leads w v l.length ((l.zip rs).flatMap wPC)∧
 ∀(i:Nat) (c:WPlan) (r:Value),l[i]? =some c→rs[i]? =some r→Row.Leads w r c.sets.length (c.sets.flatMap wS)
theorem WPlans.below{w w':World}{v:Value}{l:List WPlan}(h:WPlans w v l)(hb:Below w.heap.size w w'):WPlans w' v l:=by
 obtain ⟨rs,h1,h2,h3⟩:=h;exact ⟨rs,h1,Row.leads_below h2 hb,fun i c r hc hr=>Row.leads_below (h3 i c r hc hr) hb⟩
def rgPlan(p:WPlan):Prop:=(0≤p.type∧p.type≤65535)∧(0≤p.flags∧p.flags≤65535)∧∀s∈p.sets,0≤s∧s≤65535
def okPlan(p:WPlan):Prop:=rgPlan p∧p.sets.length≤60
def sB(s:Int):List Int:=putB s 2++putB 9 2
def setsW(l:List WPlan):List Int:=l.flatMap fun p=>p.sets.flatMap sB
def rowW(n off:Nat)(p:WPlan):List Int:=putB p.type 2++putB (p.sets.length:Int) 2++putB (12+12*(n:Int)+(off:Int)) 4++putB p.flags 2++putB 7 2
def rowsW(n:Nat):Nat→List WPlan→List Int
 |_,[]=>[]
 |off,p::l=>rowW n off p++rowsW n (off+4*p.sets.length) l
def headW(n:Nat):List Int:=putB 65536 4++putB (n:Int) 2++[0,0,0,0,0,0]
def featW(l:List WPlan):List Int:=headW l.length++rowsW l.length 0 l++setsW l
theorem headW_len(n:Nat):(headW n).length=12:=by simp [headW,putB_len]
theorem rowW_len(n off:Nat)(p:WPlan):(rowW n off p).length=12:=by simp [rowW,putB_len]
theorem sB_len(s:Int):(sB s).length=4:=by simp [sB,putB_len]
theorem setB_len(l:List Int):(l.flatMap sB).length=4*l.length:=by
 induction l with
 |nil=>rfl
 |cons x l ih=>rw [List.flatMap_cons,List.length_append,sB_len,ih,List.length_cons];omega
theorem rowsW_len(n:Nat):∀(l:List WPlan) (off:Nat),(rowsW n off l).length=12*l.length
 |[],_=>rfl
 |p::l,off=>by rw [rowsW,List.length_append,rowW_len,rowsW_len n l,List.length_cons];omega
theorem setsW_cons(p:WPlan)(l:List WPlan):(setsW (p::l)).length=4*p.sets.length+(setsW l).length:=by
 unfold setsW;rw [List.flatMap_cons,List.length_append,setB_len]
theorem rowsW_snoc(n:Nat)(p:WPlan):∀(l:List WPlan) (off:Nat),rowsW n off (l++[p])=rowsW n off l++rowW n (off+(setsW l).length) p
 |[],off=>by simp [rowsW,setsW]
 |q::l,off=>by
  rw [List.cons_append,rowsW,rowsW_snoc n p l,rowsW,setsW_cons,List.append_assoc,Nat.add_assoc]
theorem rowsW_take(n:Nat)(l:List WPlan)(k:Nat)(p:WPlan)(h:l[k]? =some p):rowsW n 0 (l.take (k+1))=rowsW n 0 (l.take k)++rowW n (setsW (l.take k)).length p:=by
 rw [List.take_add_one,h];have:=rowsW_snoc n p (l.take k) 0;rw [Nat.zero_add] at this;exact this
theorem setsW_take(l:List WPlan)(k:Nat)(p:WPlan)(h:l[k]? =some p):setsW (l.take (k+1))=setsW (l.take k)++p.sets.flatMap sB:=Row.take_flat _ l k p h
theorem setsW_le(l:List WPlan)(h:∀p∈l,okPlan p)(k:Nat)(hk:k≤l.length):(setsW (l.take k)).length≤240*k:=
 Row.take_len_le _ 240 l k (fun p hp=>by rw [setB_len];have:=(h p hp).2;omega) hk
theorem fwrite_any(v:Value)(l:List WPlan)(w:World)(hl:l.length≤30)(hok:∀c∈l,okPlan c)(hin:WPlans w v l):
  Calls Tryz.prog 14 #[v] w fun e w'=>∃v',e=.returned v'∧w'.ownsRow w.heap.size 5 1 v' (featW l).length ((featW l).map (Value.int .u8))∧Below w.heap.size w w':=by
 obtain ⟨rs,hrl,hlead,hel⟩:=hin;obtain ⟨ad,cap,rfl⟩:=Row.leads_slice hlead;obtain ⟨n,hn⟩:∃n,n=l.length:=⟨_,rfl⟩;rw [←hn];have hn30:n≤30:=by omega
 have HN:=Bas.hid hn;have HEL:=Bas.hid hel;have HLD:=Bas.hid hlead;have HOK:=Bas.hid hok;have HRL:=Bas.hid hrl;clear hrl hlead hel hok hn;have hemp:w.ownsRow w.heap.size 5 1 (.slice none 0 0) ([]:List Int).length (([]:List Int).map (Value.int .u8)):=Row.owned_nil _ _ _ _;have HE:=Bas.hid hemp;clear hemp;go_enter Tryz.func14,Tryz.ntmps14
 go_wp2_with (fail);refine (put_any 65536 4 w.heap.size _ [] w (by omega) (by omega) (by omega) (by simp) (Nat.le_refl _) HE.out).mono ?_
 rintro e w1 ⟨v1,rfl,hg1⟩;go_wp2_with (fail);refine (put_any (n:Int) 2 w.heap.size _ _ w1 (by omega) (by omega) (by omega) (by simp [putB_len]) hg1.grow.size hg1.own).mono ?_
 rintro e w2 ⟨v2,rfl,hg2⟩;have hg12:=hg1.trans hg2;have HG:=Bas.hid hg12;clear hg1 hg2 hg12;go_wp2_with (at_builtin;refine Row.fence ?_);refine Row.unfence ?_;have k6:=Bas.heap_new w2 (.cells #[.int .u8 0,.int .u8 0,.int .u8 0,.int .u8 0,.int .u8 0,.int .u8 0] 5);have hb6:=(Below.refl w2.heap.size w2).alloc (Nat.le_refl _) (.cells #[.int .u8 0,.int .u8 0,.int .u8 0,.int .u8 0,.int .u8 0,.int .u8 0] 5);have hO6:=Row.owned_below HG.out.own hb6;have hg6:=Bas.galloc (Bas.grefl w2 v2.ownBlock) (.cells #[.int .u8 0,.int .u8 0,.int .u8 0,.int .u8 0,.int .u8 0,.int .u8 0] 5);have hsz6:w2.heap.size≤(w2.alloc (.cells #[.int .u8 0,.int .u8 0,.int .u8 0,.int .u8 0,.int .u8 0,.int .u8 0] 5)).heap.size:=by simp
 have hpl:([]++putB 65536 4++putB (n:Int) 2).length=6:=by simp [putB_len]
 refine Row.append_at rfl _ _ 47 5 rfl (.int .u8 0) 1 1 Tryz.underlying47 info8 rfl (by decide) w.heap.size v2 _ _ rfl hO6 (.slice (some ⟨w2.heap.size,0,none⟩) 6 6) 6 [.int .u8 0,.int .u8 0,.int .u8 0,.int .u8 0,.int .u8 0,.int .u8 0] rfl (leads_heap k6) rfl (by simp;rfl) (by unfold maxLen;rw [hpl];omega) (by rw [hpl];omega) (Nat.le_trans HG.out.grow.size hsz6) ?_
 intro v3 w3 hown3 hgr3 _ hat3;have hg3:Grown w w.heap.size (.slice none 0 0) (headW n) v3 w3:=by
  have:=HG.out.trans (⟨by simpa [Nat.add_assoc] using hown3,Bas.gtrans hg6 hgr3,hat3.imp id fun h=>⟨_,h,hsz6⟩⟩:Grown w2 w.heap.size v2 ([]++putB 65536 4++putB (n:Int) 2++[0,0,0,0,0,0]) v3 w3)
  simpa [headW,List.append_assoc] using this
 have HB3:=Bas.hid (hg3.below (Below.refl w.heap.size w) (Nat.le_refl _) (fun g h=>by cases h))
 have HT3:Hid (TwoRows w3 w.heap.size v3 (headW n++rowsW n 0 (l.take 0)) (.slice none 0 0) (setsW (l.take 0))):=
  ⟨by simpa [rowsW] using hg3.own,Row.owned_nil _ _ _ _,fun g _ h=>by cases h⟩
 clear hown3 hgr3 hat3 hg3 k6 hb6 hO6 hg6 hsz6 hpl HG HE;go_wp2_with (fail);go_loopw [3,4,6,8,18] (fun xb xs _ _ vi wr=>∃(k:Nat) (vb vs:Value),k≤n∧vi=.int .i64 k∧vb=xb∧vs=xs∧TwoRows wr w.heap.size vb (headW n++rowsW n 0 (l.take k)) vs (setsW (l.take k))∧Below w.heap.size w wr) (fun _ _ _ _ vi _=>n - (intOf vi).toNat)
 case atStart=>exact ⟨0,_,_,Nat.zero_le _,rfl,rfl,rfl,HT3.out,HB3.out⟩
 case round=>
  obtain ⟨k,vb,vs,hk,rfl,hvb,hvs,htw,hb⟩:=hrel;rw [←hvb,←hvs];clear hvb hvs;have HT:=Bas.hid htw;have HB:=Bas.hid hb;by_cases hkn:k<n
  ·have hlen:=HN.out;obtain ⟨c,hc⟩:∃c,l[k]? =some c:=⟨_,List.getElem?_eq_getElem (by omega)⟩
   obtain ⟨r,hr⟩:∃r,rs[k]? =some r:=⟨_,List.getElem?_eq_getElem (by rw [HRL.out];omega)⟩
   have hse:=HEL.out k c r hc hr;obtain ⟨⟨⟨ot1,ot2⟩,⟨of1,of2⟩,hss⟩,hs60⟩:=HOK.out c (List.mem_of_getElem? hc);have hz:(l.zip rs)[k]? =some (c,r):=List.getElem?_zip_eq_some.2 ⟨hc,hr⟩;obtain ⟨B0,O0,cp0,hv0,hcl⟩:=Row.leads_elem wPC_len HLD.out hz (by omega)
   obtain ⟨as',cs',rfl⟩:=Row.leads_slice hse;cases hv0;have q0:=(hb.cell (p:=⟨B0,O0+k*3,none⟩) (World.block_lt_of_cell? _ _ (hcl 0 _ rfl))).trans (hcl 0 _ rfl);have q1:=(hb.cell (p:=⟨B0,O0+k*3+1,none⟩) (World.block_lt_of_cell? _ _ (hcl 1 _ rfl))).trans (hcl 1 _ rfl);have q2:=(hb.cell (p:=⟨B0,O0+k*3+2,none⟩) (World.block_lt_of_cell? _ _ (hcl 2 _ rfl))).trans (hcl 2 _ rfl);have HSE:=Bas.hid hse;have HSS:=Bas.hid hss;have HRW:=Bas.hid (rowsW_take n l k c hc);have HSW:=Bas.hid (setsW_take l k c hc);have hol:=setsW_le l HOK.out k (by omega)
   have hbl:(headW n++rowsW n 0 (l.take k)).length=12+12*k:=by rw [List.length_append,headW_len,rowsW_len,List.length_take,Nat.min_eq_left (by omega)]
   obtain ⟨ct,cf,cs⟩:=c;simp only at q0 q1 q2 HSE HSS HRW HSW ot1 ot2 of1 of2 hs60;obtain ⟨ns,hns⟩:∃ns,ns=cs.length:=⟨_,rfl⟩;have HNS:=Bas.hid hns;rw [←hns] at q2 HSE hs60;obtain ⟨bb,hbb⟩:∃bb,bb=headW n++rowsW n 0 (l.take k):=⟨_,rfl⟩;have HBBX:=Bas.hid hbb.symm;rw [←hbb] at HT hbl;clear hbb;generalize setsW (l.take k)=sw at*;obtain ⟨sl,hsl⟩:∃sl,sl=sw.length:=⟨_,rfl⟩;have HSLN:=Bas.hid hsl;rw [←hsl] at hol;clear hcl hse hss hb htw hr hz hlen hc hns hsl HT3 HB3;go_wp2_with (fail);have k8:=Bas.heap_new wr (.cells #[.int .u16 ct,.int .u16 cf,.slice as' ns cs'] 87);have hbW:=(Below.refl wr.heap.size wr).alloc (Nat.le_refl _) (.cells #[.int .u16 ct,.int .u16 cf,.slice as' ns cs'] 87);have HT8:=Bas.hid (HT.out.below hbW);have HB8:=Bas.hid (HB.out.trans (hbW.mono HB.out.size));have hnl:vb.ownBlock≠some wr.heap.size:=fun e=>Nat.lt_irrefl _ (Row.own_block HT.out.l e).2
   have hnr:vs.ownBlock≠some wr.heap.size:=fun e=>Nat.lt_irrefl _ (Row.own_block HT.out.r e).2
   generalize wr.alloc (.cells #[.int .u16 ct,.int .u16 cf,.slice as' ns cs'] 87)=W8 at*;generalize wr.heap.size=T8 at k8 hnl hnr ⊢;have hO8:=HT8.out.l;have Abase:w.heap.size≤W8.drew.heap.size:=HB8.out.size;clear q0 q1 q2 hbW HT HB;have Ad:=Row.owned_keep hO8 (w':=W8.drew) (fun _ _=>rfl)
   obtain ⟨AI,AF,Ai,AF0,AFg,AFw,AFb⟩:=Pl.fam_g W8 (vb).ownBlock;have Ac0:=fun i=>(Bas.gcell (AFb i) (b:=T8) (o:=0) (heap_lt k8) hnl).trans (cell_of_heap (i:=0) (v:=.int .u16 ct) k8 rfl)
   have Ac1:=fun i=>(Bas.gcell (AFb i) (b:=T8) (o:=2) (heap_lt k8) hnl).trans (cell_of_heap (i:=2) (v:=.slice as' ns cs') k8 rfl)
   have AFH:=Bas.hid AF0;have AhI:Nonempty AI:=⟨Ai⟩;have AFW:=Bas.hid AFw;clear AF0 AFw AFg AFb;refine Pl.region_plan0 Ai [(true,0),(true,1),(true,2),(true,3),(true,5),(true,6),(true,7),(false,4),(false,8),(false,9)] [8,9] (by kernel_rfl) (by kernel_rfl) (fun _ _ _ _ e h=>⟨e▸h.1,h.2⟩) AFH.out ?_
   refine Pl.head_sel0 [(true,0),(true,1),(true,2),(true,3),(true,5),(true,6),(true,7)] (by kernel_rfl) (by kernel_rfl) ?_
   simp only [Pl.sel,List.drop_succ_cons,List.drop_zero];repeat (go_big_quiet_step (fail))
   refine wpQuiet_nil ?_;rw [←AFH.out];clear Ac0 Ac1 AFH;refine Pl.one_sel (by kernel_rfl) ?_
   intro Q' hQ' hP';simp only [Pl.sel,List.drop_succ_cons,List.drop_zero];go_wp2_with (fail);refine (put_any ct 2 w.heap.size _ _ W8.drew (by omega) (by omega) (by omega) (by first|omega|(simp only [List.length_append,putB_len];omega)) Abase Ad).mono ?_
   rintro e Aw1 ⟨Av1,rfl,Ag1⟩;have Agg:=Bas.gtrans (Bas.gdrew (Bas.grefl W8 _)) Ag1.grow;go_wp2_with (fail);refine hQ' _ _ (fun _ _=>AFW.out _ Agg) ?_
   clear hQ' hP' Q' Agg AFW;refine Pl.tail_sel [(false,8),(false,9)] (by kernel_rfl) (by kernel_rfl) ?_
   simp only [Pl.sel,List.drop_succ_cons,List.drop_zero];go_wp2_with (fail);refine (put_any (ns:Int) 2 w.heap.size _ _ Aw1 (by omega) (by omega) (by omega) (by first|omega|(simp only [List.length_append,putB_len];omega)) (Nat.le_trans Abase Ag1.grow.size) Ag1.own).mono ?_
   rintro e Aw ⟨Av,rfl,Ag2⟩;have Ag:=Ag1.trans Ag2;clear Ag1 Ag2;have HTA:=Bas.hid ((TwoRows.below HT8.out (show Below W8.heap.size W8 W8.drew from (Below.refl _ _).drew)).growL Ag)
   have HBA:=Bas.hid (Ag.below (HB8.out.drew) (by exact HB8.out.size) (fun g hg=>(Row.own_block hO8 hg).1))
   have kA:=(Ag.grow.block T8 (heap_lt k8) (fun e=>hnl e.symm)).trans k8
   have hnlA:Av.ownBlock≠some T8:=by
    intro e;rcases Ag.at' with h|⟨g,h,h2⟩
    ·exact hnl (h▸e)
    ·rw [h] at e;cases e;exact absurd (heap_lt k8) (Nat.not_lt.2 h2)
   obtain ⟨ads,cps,hvs⟩:=row_slice HTA.out.r;have hsl2:=HSLN.out;rw [←hsl2] at hvs;clear Ag k8 hnl hO8 HT8 HB8 Abase Ad hsl2;rw [hvs];go_wp2_with (fail);refine (put_any (12+12*(n:Int)+(sl:Int)) 4 w.heap.size _ _ Aw (by omega) (by omega) (by omega) (by simp only [List.length_append,putB_len];omega) HBA.out.size HTA.out.l).mono ?_
   rintro e wC ⟨vC,rfl,gC⟩;have HTC:=Bas.hid (HTA.out.growL gC);have HBC:=Bas.hid (gC.below HBA.out HBA.out.size (fun g hg=>(Row.own_block HTA.out.l hg).1))
   have kC:=(gC.grow.block T8 (heap_lt kA) (fun e=>hnlA e.symm)).trans kA
   have hnlC:vC.ownBlock≠some T8:=by
    intro e;rcases gC.at' with h|⟨g,h,h2⟩
    ·exact hnlA (h▸e)
    ·rw [h] at e;cases e;exact absurd (heap_lt kA) (Nat.not_lt.2 h2)
   have cC:=cell_of_heap (i:=1) (v:=.int .u16 cf) kC rfl;clear gC kA hnlA HTA HBA;go_wp2_with (fail);refine (put_any cf 2 w.heap.size _ _ wC (by omega) (by omega) (by omega) (by simp only [List.length_append,putB_len];omega) HBC.out.size HTC.out.l).mono ?_
   rintro e wD ⟨vD,rfl,gD⟩;have HTD:=Bas.hid (HTC.out.growL gD);have HBD:=Bas.hid (gD.below HBC.out HBC.out.size (fun g hg=>(Row.own_block HTC.out.l hg).1))
   have kD:=(gD.grow.block T8 (heap_lt kC) (fun e=>hnlC e.symm)).trans kC
   have hnlD:vD.ownBlock≠some T8:=by
    intro e;rcases gD.at' with h|⟨g,h,h2⟩
    ·exact hnlC (h▸e)
    ·rw [h] at e;cases e;exact absurd (heap_lt kC) (Nat.not_lt.2 h2)
   clear gD kC cC hnlC HTC HBC;go_wp2_with (fail);refine (put_any 7 2 w.heap.size _ _ wD (by omega) (by omega) (by omega) (by simp only [List.length_append,putB_len];omega) HBD.out.size HTD.out.l).mono ?_
   rintro e wE ⟨vE,rfl,gE⟩;have HTE:=Bas.hid (HTD.out.growL gE);have HBE:=Bas.hid (gE.below HBD.out HBD.out.size (fun g hg=>(Row.own_block HTD.out.l hg).1))
   have kE:=(gE.grow.block T8 (heap_lt kD) (fun e=>hnlD e.symm)).trans kD
   have cE:=cell_of_heap (i:=2) (v:=.slice as' ns cs') kE rfl;clear gE kD hnlD HTD HBD;rw [←hvs];clear hvs;go_wp2_with (fail);clear cE kE;have HTE2:Hid (TwoRows wE w.heap.size vE (bb++rowW n sw.length ⟨ct,cf,cs⟩) vs (sw++(cs.take 0).flatMap sB)):=by
    have h:=HTE.out;have e1:bb++putB ct 2++putB (ns:Int) 2++putB (12+12*(n:Int)+(sl:Int)) 4++putB cf 2++putB 7 2=bb++rowW n sw.length ⟨ct,cf,cs⟩:=by
     unfold rowW;rw [←HSLN.out,←HNS.out];simp only [List.append_assoc]
    rw [e1] at h;have e0:sw++(cs.take 0).flatMap sB=sw:=by simp
    rw [e0];exact h
   have HRWX:Hid (headW n++rowsW n 0 (l.take (k+1))=bb++rowW n sw.length ⟨ct,cf,cs⟩):=by
    unfold Hid;rw [HRW.out,←List.append_assoc,HBBX.out]
   generalize bb++rowW n sw.length ⟨ct,cf,cs⟩=bb2 at*;have hsb:wE.heap.size≤wE.heap.size:=Nat.le_refl _;clear HTE hsb;go_loopw [4,8,49] (fun xs _ vi wr=>∃(j:Nat) (vt:Value),j≤ns∧vi=.int .i64 j∧vt=xs∧TwoRows wr w.heap.size vE bb2 vt (sw++(cs.take j).flatMap sB)∧Below w.heap.size w wr) (fun _ _ vi _=>ns - (intOf vi).toNat)
   case atStart=>exact ⟨0,_,Nat.zero_le _,rfl,rfl,HTE2.out,HBE.out⟩
   case round=>
    obtain ⟨j,vt,hj,rfl,hvt,htw,hb⟩:=hrel;rw [←hvt];clear hvt;have HT:=Bas.hid htw;have HB:=Bas.hid hb;by_cases hjn:j<ns
    ·have hlen:=HNS.out;obtain ⟨s,hs⟩:∃s,cs[j]? =some s:=⟨_,List.getElem?_eq_getElem (by omega)⟩
     obtain ⟨B1,O1,cp1,hv1,hcl⟩:=Row.leads_elem wS_len HSE.out hs (by omega)
     cases hv1;have hc0:w.cell? ⟨B1,O1+j,none⟩=some (.int .u16 s):=by
      have h:=hcl 0 (.int .u16 s) rfl;simpa using h
     have q0:=(hb.cell (p:=⟨B1,O1+j,none⟩) (World.block_lt_of_cell? _ _ hc0)).trans hc0;obtain ⟨os1,os2⟩:=HSS.out s (List.mem_of_getElem? hs);have HTK:Hid (sw++(cs.take (j+1)).flatMap sB=sw++(cs.take j).flatMap sB++(putB s 2++putB 9 2)):=by
      unfold Hid;rw [Row.take_flat sB cs j s hs,←List.append_assoc];rfl
     have hyl:(sw++(cs.take j).flatMap sB).length≤7200+240:=by
      rw [List.length_append,setB_len,List.length_take,←HSLN.out];omega
     generalize sw++(cs.take j).flatMap sB=ys at*;clear hcl hs hlen htw hb hc0;go_wp2_with (fail);refine (put_any s 2 w.heap.size _ _ wr (by omega) (by omega) (by omega) (by omega) HB.out.size HT.out.r).mono ?_
     rintro e wF ⟨vF,rfl,gF⟩;have HTF:=Bas.hid (HT.out.growR gF);have HBF:=Bas.hid (gF.below HB.out HB.out.size (fun g hg=>(Row.own_block HT.out.r hg).1))
     clear gF HT HB;go_wp2_with (fail);refine (put_any 9 2 w.heap.size _ _ wF (by omega) (by omega) (by omega) (by simp only [List.length_append,putB_len];omega) HBF.out.size HTF.out.r).mono ?_
     rintro e wG ⟨vG,rfl,gG⟩;have HTG:=Bas.hid (HTF.out.growR gG);have HBG:=Bas.hid (gG.below HBF.out HBF.out.size (fun g hg=>(Row.own_block HTF.out.r hg).1))
     clear gG HTF HBF q0;go_wp2_with (fail);go_roundw
     case rel=>exact ⟨j+1,_,by omega,by go_num,rfl,by rw [HTK.out,←List.append_assoc];exact HTG.out,HBG.out⟩
     case measure=>simp [intOf];omega
    ·have hjn2:j=ns:=by omega
     have hfl:sw++(cs.take j).flatMap sB=setsW (l.take (k+1)):=by rw [HSW.out,hjn2,HNS.out,List.take_length]
     rw [hfl] at htw;have HTF:=Bas.hid htw;have HBF:=Bas.hid hb;clear htw hb hfl;go_wp2_with (fail);go_roundw
     case rel=>exact ⟨k+1,_,_,by omega,by go_num,rfl,rfl,by rw [HRWX.out];exact HTF.out,HBF.out⟩
     case measure=>simp [intOf];omega
  ·have hkn2:k=n:=by omega
   have h:=HT.out;rw [hkn2,HN.out,List.take_length] at h;have HF:=Bas.hid h;obtain ⟨ad8,cp8,rfl⟩:=row_slice h.r;have hbl:(headW l.length++rowsW l.length 0 l).length≤12+360:=by rw [List.length_append,headW_len,rowsW_len];omega
   have hsl:(setsW l).length≤7200:=by
    have:=setsW_le l HOK.out l.length (Nat.le_refl _);rw [List.take_length] at this;omega
   obtain ⟨sl,hsl2⟩:∃sl,sl=(setsW l).length:=⟨_,rfl⟩;have HSL:=Bas.hid hsl2;rw [←hsl2] at hsl ⊢;clear hb htw h hsl2 HT;go_wp2_with (at_builtin;refine Row.fence ?_);refine Row.unfence ?_;refine Row.append_at rfl _ _ 47 5 rfl (.int .u8 0) 1 1 Tryz.underlying47 info8 rfl (by decide) w.heap.size vb _ _ rfl HF.out.l (.slice ad8 sl cp8) sl _ rfl (by rw [HSL.out];exact Row.leads_owned HF.out.r) (by simp [HSL.out]) (by simp;intros;rfl) (by unfold maxLen;omega) (by omega) HB.out.size ?_
   intro v9 w9 h91 h92 _ h93;have h91':w9.ownsRow w.heap.size 5 1 v9 (featW l).length ((featW l).map (Value.int .u8)):=by
    unfold featW;simpa only [List.map_append,List.length_append,HSL.out,Nat.add_assoc,List.append_assoc] using h91
   have HB9:=Bas.hid (HB.out.grown h92 HB.out.size (fun g hg=>(Row.own_block HF.out.l hg).1))
   have HO9:=Bas.hid h91';obtain ⟨ad9,cp9,rfl⟩:=row_slice h91';clear h91 h92 h93 h91' HF;go_wp2_with (fail);go_ret;exact ⟨_,rfl,HO9.out,HB9.out⟩
end Ft
namespace Vw
theorem VB_apart{w w':World}{a:Option Addr}{D:List Int}{r:Option Nat}(h:VB w a D)(hg:w.grownBy w' r)(hr:∀g,r=some g→∀x,a=some x→D≠[]→x.block≠g):VB w' a D:=
 ⟨h.len, h.byte, fun i hi => by
  obtain ⟨b,o,h1,h2⟩:=h.cell i hi;refine ⟨b,o,h1,(Bas.gcell hg (World.block_lt_of_cell? _ _ h2) (fun e=> ?_)).trans h2⟩
  exact hr _ e _ h1 (by intro e0;rw [e0] at hi;simp at hi) rfl⟩
end Vw
namespace Ch
open Vw Wr
structure WSub where
 cover:Int
 flags:Int
 data:List Int
structure WChain where
 first:Int
 rules:List RuleD
 subs:List WSub
 more:Int
def wRuleC(r:RuleD):List Value:=[.int .u16 r.type,.int .u16 r.value,.int .u32 r.enable,.int .u32 r.disable]
def wSubC(x:WSub×Value):List Value:=[.int .u32 x.1.cover,.int .u32 x.1.flags,x.2]
def wChainC(x:WChain×(Value×Value)):List Value:=[.int .u32 x.1.first,x.2.1,x.2.2,.int .u8 x.1.more]
def okRule(r:RuleD):Prop:=(0≤r.type∧r.type≤65535)∧(0≤r.value∧r.value≤65535)∧(0≤r.enable∧r.enable≤4294967295)∧(0≤r.disable∧r.disable≤4294967295)
def okSub(s:WSub):Prop:=(0≤s.cover∧s.cover≤4294967295)∧(0≤s.flags∧s.flags≤4294967295)∧(∀x∈s.data,0≤x∧x≤255)∧s.data.length≤400
def okChain(c:WChain):Prop:=(0≤c.first∧c.first≤4294967295)∧(0≤c.more∧c.more≤255)∧(∀r∈c.rules,okRule r)∧(∀s∈c.subs,okSub s)∧c.rules.length≤40∧c.subs.length≤10
def WData(w:World)(v:Value)(D:List Int):Prop:=∃a cap,v=.slice a D.length cap∧VB w a D∧D.length≤cap∧cap≤maxLen∧(a=none→cap=0)
def WSubs(w:World)(v:Value)(l:List WSub):Prop:=∃ds:List Value,ds.length=l.length∧Row.Leads w v l.length ((l.zip ds).flatMap wSubC)∧∀(j:Nat) (s:WSub) (d:Value),l[j]? =some s→ds[j]? =some d→WData w d s.data
def WChains(w:World)(v:Value)(l:List WChain):Prop:=∃rs:List (Value×Value),rs.length=l.length∧Row.Leads w v l.length ((l.zip rs).flatMap wChainC)∧
 ∀(i:Nat) (c:WChain) (r:Value×Value),l[i]? =some c→rs[i]? =some r→Row.Leads w r.1 c.rules.length (c.rules.flatMap wRuleC)∧WSubs w r.2 c.subs
theorem vb_leads{w:World}{a:Option Addr}{D:List Int}(h:VB w a D)(cap:Nat)(hn:a=none→cap=0):Row.Leads w (.slice a D.length cap) D.length (D.map (Value.int .u8)):=by
 cases a with
 |none=>
  have h0:D=[]:=by
   cases D with
   |nil=>rfl
   |cons x D=>obtain ⟨b,o,h1,_⟩:=h.cell 0 (by simp);cases h1
  subst h0;rw [hn rfl];exact .inl ⟨rfl,rfl,rfl⟩
 |some x=>
  refine .inr ⟨x,cap,rfl,fun j u hu=> ?_⟩
  have hj:j<D.length:=by have:=(List.getElem?_eq_some_iff.1 hu).1;simpa using this
  obtain ⟨b,o,h1,h2⟩:=h.cell j hj;cases h1;rw [Addr.add_lit,h2];rw [List.getElem?_map,List.getElem?_eq_getElem hj] at hu;rw [←hu];simp [hj]
theorem WData.below{w w':World}{v:Value}{D:List Int}(h:WData w v D)(hb:Below w.heap.size w w'):WData w' v D:=by
 obtain ⟨a,cap,h1,h2,h3⟩:=h;exact ⟨a,cap,h1,h2.below hb,h3⟩
theorem WSubs.below{w w':World}{v:Value}{l:List WSub}(h:WSubs w v l)(hb:Below w.heap.size w w'):WSubs w' v l:=by
 obtain ⟨ds,h1,h2,h3⟩:=h;exact ⟨ds,h1,Row.leads_below h2 hb,fun j s d hs hd=>(h3 j s d hs hd).below hb⟩
theorem WChains.below{w w':World}{v:Value}{l:List WChain}(h:WChains w v l)(hb:Below w.heap.size w w'):WChains w' v l:=by
 obtain ⟨rs,h1,h2,h3⟩:=h;exact ⟨rs,h1,Row.leads_below h2 hb,fun i c r hc hr=>⟨Row.leads_below (h3 i c r hc hr).1 hb,(h3 i c r hc hr).2.below hb⟩⟩
def ruleB(r:RuleD):List Int:=putB r.type 2++putB r.value 2++putB r.enable 4++putB r.disable 4
def subB(s:WSub):List Int:=putB (12+(s.data.length:Int)) 4++putB s.cover 4++putB s.flags 4++s.data
def inB(c:WChain):List Int:=c.rules.flatMap ruleB++c.subs.flatMap subB++List.replicate (c.more%8).toNat 0
def chainB(c:WChain):List Int:=putB c.first 4++putB (16+((inB c).length:Int)) 4++putB (c.rules.length:Int) 4++putB (c.subs.length:Int) 4++inB c
def headB(n:Nat):List Int:=putB 2 2++putB 0 2++putB (n:Int) 4
def writeB(l:List WChain):List Int:=headB l.length++l.flatMap chainB
theorem ruleB_len(r:RuleD):(ruleB r).length=12:=by simp [ruleB,putB_len]
theorem subB_len(s:WSub):(subB s).length=12+s.data.length:=by simp [subB,putB_len];omega
theorem headB_len(n:Nat):(headB n).length=8:=by simp [headB,putB_len]
theorem inB_len_le(c:WChain)(h:okChain c):(inB c).length≤4607:=by
 obtain ⟨_,h2,_,h4,h5,h6⟩:=h;have a1:=Row.flat_len_le ruleB 12 c.rules (fun r _=>by rw [ruleB_len];exact Nat.le_refl _)
 have a2:=Row.flat_len_le subB 412 c.subs (fun s hs=>by rw [subB_len];have:=(h4 s hs).2.2.2;omega)
 simp only [inB,List.length_append,List.length_replicate];omega
theorem chainB_len_le(c:WChain)(h:okChain c):(chainB c).length≤4623:=by
 have:=inB_len_le c h;simp only [chainB,List.length_append,putB_len];omega
theorem wRuleC_len(r:RuleD):(wRuleC r).length=4:=rfl
theorem wSubC_len(x:WSub×Value):(wSubC x).length=3:=rfl
theorem wChainC_len(x:WChain×(Value×Value)):(wChainC x).length=4:=rfl
end Ch
end Go.Proofs.YtceihjjjmcgmaaaGreat
