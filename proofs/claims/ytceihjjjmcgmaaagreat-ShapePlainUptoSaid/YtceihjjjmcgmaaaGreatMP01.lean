/- Parts of a proof: texts Base, Plan, RegV, Row, RowB, Ord, View, ViewB, Try, VArg, Own, RowC, Put, PlanG, FontD, FontLeast, Zeros, TwoRows, NumB, FontMkD. -/
import Derived.Test.YtceihjjjmcgmaaaGreatRows
import Derived.WalkKit
import Derived.WalkSpells
import Derived.WalkLawsBesides
import Derived.Deep.QuietTactic
import Derived.BigQuiet
import Derived.OrdersHeld
import Derived.StillTail
import Derived.Laws.AppendOwnNone
import Derived.Maps.AppendAt
import Derived.Lib.AppendZerosOnto
import Derived.Lib.ConvBytes
set_option maxHeartbeats 16000000
set_option maxRecDepth 100000
namespace Go.Proofs.YtceihjjjmcgmaaaGreat
open Go.RowKit
namespace Bas
theorem hid{p:Prop}(h:p):Hid p:=h
theorem fam(B:Nat)(W:World):∃(I:Type) (F:I→World),Nonempty I∧(∀w,Below B W w→∃i,w=F i)∧∀i,Below B W (F i):=
 ⟨{ w:World // Below B W w },fun i=>i.1,⟨⟨W,Below.refl _ _⟩⟩,fun w h=>⟨⟨w,h⟩,rfl⟩,fun i=>i.2⟩
theorem region_fam{P:Program}{id:Nat}{Q:Exit→Act→World→Prop}{a:Act}{w:World}{l:List Oper}{I:Type}{F:I→World}
  (hm:P.follows .mixedOrders=true) (hB:Region.lexB .any l.toArray=true) (h0:∃i,w.drew=F i)
  (h:wpQuiet P l.toArray (fun w'=>∃i,w'=F i) (fun a'=>∀i,Q .normal a' (F i)) l a):(Code.region id l.toArray true).wp P Q a w:=
 wp_region_quiet (C:=fun w'=>∃i,w'=F i) hm hB h0 (by
  have e:(fun a':Act=>∀w',(∃i,w'=F i)→Q .normal a' w')=fun a'=>∀i,Q .normal a' (F i):=by
   funext a'
   apply propext;exact ⟨fun h i=>h _ ⟨i,rfl⟩,fun h w' ⟨i,e⟩=>e▸h i⟩
  rw [e];simpa using h)
theorem call_fam{P:Program}{f:FuncId}{args:Array Value}{B:Nat}{W:World}{I:Type}{F:I→World}{i:I}{v:Value}
  (hF:(∀w,Below B W w→∃i,w=F i)∧∀i,Below B W (F i)) (hB:B≤W.heap.size)
  (h:Calls P f args (F i) fun e w'=>e=.returned v∧Below (F i).heap.size (F i) w'):Calls P f args (F i) fun e w''=>e=.returned v∧∃j,w''=F j:=
 h.mono fun _ w' ⟨he,hb⟩=>⟨he,hF.1 w' ((hF.2 i).trans (hb.mono (Nat.le_trans hB (hF.2 i).size)))⟩
theorem cell_fam{B:Nat}{W:World}{I:Type}{F:I→World}(hF:(∀w,Below B W w→∃i,w=F i)∧∀i,Below B W (F i)){b o:Nat}{v:Value}(hb:b<B)
  (h:W.cell? ⟨b,o,none⟩=some v) (i:I):(F i).cell? ⟨b,o,none⟩=some v:=
 ((hF.2 i).cell (p:=⟨b,o,none⟩) hb).trans h
theorem below_drewN{B:Nat}{a w:World}(h:Below B a w)(n:Nat):Below B a (w.drewN n):=⟨h.os,h.tape,h.output,h.size,h.block⟩
theorem bcell{W w1:World}(hb:Below W.heap.size W w1):(∀b o,b<W.heap.size→w1.cell? ⟨b,o,none⟩=W.cell? ⟨b,o,none⟩)∧(∀b o,b<W.heap.size→w1.frozen? ⟨b,o,none⟩=W.frozen? ⟨b,o,none⟩):=
 ⟨fun b o h=>hb.cell (p:=⟨b,o,none⟩) h,fun b o h=>hb.frozen (p:=⟨b,o,none⟩) h⟩
theorem on{W0 w w':World}(HB:Below W0.heap.size W0 w)(hb:Below w.heap.size w w'):Below W0.heap.size W0 w':=HB.trans (hb.mono HB.size)
theorem wf_u8{x:Int}(h:(Lit.int .u8 x).wf=true):0≤x∧x≤255:=by
 simpa [Lit.wf,IntKind.min,IntKind.max,IntKind.bits,IntKind.signed] using h
theorem wf_u16{x:Int}(h:(Lit.int .u16 x).wf=true):0≤x∧x≤65535:=by
 simpa [Lit.wf,IntKind.min,IntKind.max,IntKind.bits,IntKind.signed] using h
theorem wf_u32{x:Int}(h:(Lit.int .u32 x).wf=true):0≤x∧x≤4294967295:=by
 simpa [Lit.wf,IntKind.min,IntKind.max,IntKind.bits,IntKind.signed] using h
theorem wf_i16{x:Int}(h:(Lit.int .i16 x).wf=true):-32768≤x∧x≤32767:=by
 simpa [Lit.wf,IntKind.min,IntKind.max,IntKind.bits,IntKind.signed] using h
theorem wf_i32{x:Int}(h:(Lit.int .i32 x).wf=true):-2147483648≤x∧x≤2147483647:=by
 simpa [Lit.wf,IntKind.min,IntKind.max,IntKind.bits,IntKind.signed] using h
def IsRow(k:IntKind)(w:World)(a:Option Addr)(len cap:Nat)(zs:List Int):Prop:=
 (a=none∧len=0∧cap=0∧zs=[])∨
 ∃x,a=some x∧len≤cap∧cap≤maxLen∧zs.length=cap∧(∀i,i<zs.length→w.cell? (x.add i)=some (.int k (zs.getD i 0)))∧∀n∈zs,(Lit.int k n).wf=true
theorem heap_new(w:World)(o:Obj):(w.alloc o).heap[w.heap.size]? =some o:=(MapKept.heap_alloc w o).1
theorem heap_new2(w:World)(o o2:Obj):((w.alloc o).alloc o2).heap[w.heap.size+1]? =some o2:=by
 have h:=heap_new (w.alloc o) o2;rw [World.size_alloc] at h;exact h
theorem gcell{w w':World}{r:Option Nat}(h:w.grownBy w' r){b o:Nat}(hb:b<w.heap.size)(hr:r≠some b):w'.cell? ⟨b,o,none⟩=w.cell? ⟨b,o,none⟩:=
 World.cell?_of_block (w:=w) (h.block b hb (fun e=>hr e.symm))
theorem gfrozen{w w':World}{r:Option Nat}(h:w.grownBy w' r){b o:Nat}(hb:b<w.heap.size)(hr:r≠some b):w'.frozen? ⟨b,o,none⟩=w.frozen? ⟨b,o,none⟩:=
 World.frozen?_of_block (w:=w) (h.block b hb (fun e=>hr e.symm))
theorem gtrans{a b c:World}{r:Option Nat}(h:a.grownBy b r)(k:b.grownBy c r):a.grownBy c r:=
 ⟨k.os.trans h.os,k.tape.trans h.tape,k.output.trans h.output,Nat.le_trans h.size k.size,fun i hi hr=>(k.block i (Nat.lt_of_lt_of_le hi h.size) hr).trans (h.block i hi hr)⟩
theorem grefl(w:World)(r:Option Nat):w.grownBy w r:=⟨rfl,rfl,rfl,Nat.le_refl _,fun _ _ _=>rfl⟩
theorem gset{a w:World}{b:Nat}(h:a.grownBy w (some b))(o:Nat)(v:Value):a.grownBy (w.setCell ⟨b,o,none⟩ v) (some b):=
 gtrans h ⟨rfl,rfl,rfl,by simp [World.setCell],fun k _ hk=>Below.heap_setCell _ _ _ _ (fun e=>hk (by rw [e]))⟩
theorem galloc{a w:World}{r:Option Nat}(h:a.grownBy w r)(o:Obj):a.grownBy (w.alloc o) r:=
 gtrans h ⟨rfl,rfl,rfl,by simp,fun k hk _=>Below.heap_alloc _ _ _ hk⟩
theorem gdrew{a w:World}{r:Option Nat}(h:a.grownBy w r):a.grownBy w.drew r:=⟨h.os,h.tape,h.output,h.size,h.block⟩
theorem gbelow{a w w':World}{r:Option Nat}(h:a.grownBy w r)(hb:Below w.heap.size w w'):a.grownBy w' r:=
 gtrans h ⟨hb.os,hb.tape,hb.output,hb.size,fun k hk _=>hb.block k hk⟩
theorem below_g{B b:Nat}{a w w':World}(h:Below B a w)(hg:w.grownBy w' (some b))(hB:B≤w.heap.size)(hb:B≤b):Below B a w':=
 h.grown hg hB (fun k hk=>by cases hk;exact hb)
theorem spot_add{w:World}{x:Addr}{i:Nat}{v:Value}(h0:∃u,w.cell? (x.add 0)=some u)(h:w.cell? (x.add i)=some v):x=⟨x.block,x.off,none⟩∧w.cell? ⟨x.block,x.off+i,none⟩=some v:=by
 obtain ⟨u,hu⟩:=h0;have hs:=World.cell?_spot hu;obtain ⟨b,o,s⟩:=x;have:s=none:=by simpa [Addr.add] using hs
 subst this;rw [Addr.add_lit] at h;exact ⟨rfl,h⟩
end Bas
namespace Pl
section
variable {P:Program} {ops:Array Oper} {md:Region.Mode} {Q:Exit→Act→World→Prop} {S:World→Prop} {late:List Nat}
def waitsT(md:Region.Mode)(ops:Array Oper):Nat→Nat→Nat→Bool
 |0,_,_=>false
 |n+1,j,i=>match ops[j]? with
  |none=>false
  |some oj=>oj.after.any fun e=>Region.binds md e&&(e.on==i||waitsT md ops n e.on i)
def valueOp(o:Oper):Bool:=match o.op with
 |.call c=>match c.callee with
  |.builtin .len|.builtin .cap|.builtin .min|.builtin .max=>true
  |_=>false
 |.pick _ _ _=>true
 |.move _|.assign _|.load _ _|.binOp _ _ _ _ _|.unOp _ _ _|.convert _ _ _|.fieldAddr _ _ _|.field _ _ _|.indexAddr _ _ _|.index _ _ _|.slice _ _ _ _ _|.extract _ _|.build _ _|.makeFunc _ _ _|.makeInterface _ _|.nilCheck _=>true
 |_=>false
def callOp(o:Oper):Bool:=match o.op with
 |.call c=>match c.callee with
  |.builtin _=>false
  |_=>true
 |_=>false
def pureOp(o:Oper):Bool:=match o.op with
 |.move _|.assign _=>true
 |_=>false
theorem sem_value{s:Sem Value}{w w':World}{n:Next}(h:(do pure (Next.value (←s)):Sem Next).run P w=.ok n w'):∃v,n=.value v:=by
 revert h
 show ((bind s fun v=>pure (Next.value v):Sem Next).run P w=.ok n w')→_
 intro h;have h2:(bind s fun v=>pure (Next.value v):Sem Next).run P w=match s.run P w with
  |.ok v w1=>.ok (.value v) w1
  |.halt x w1=>.halt x w1:=by
   rw [Sem.run_bind];cases s.run P w<;>rfl
 rw [h2] at h;cases hs:s.run P w with
 |ok v w1=>rw [hs] at h;cases h;exact ⟨_,rfl⟩
 |halt x w1=>rw [hs] at h;cases h
theorem pick_value{s:Sem Bool}{x y:Value}{w w':World}{n:Next}(h:(do pure (Next.value (if ←s then x else y)):Sem Next).run P w=.ok n w'):∃v,n=.value v:=by
 revert h
 show ((bind s fun v=>pure (Next.value (if v then x else y)):Sem Next).run P w=.ok n w')→_
 intro h;rw [Sem.run_bind] at h;cases hs:s.run P w with
 |ok v w1=>rw [hs] at h;cases h;exact ⟨_,rfl⟩
 |halt x w1=>rw [hs] at h;cases h
theorem builtin_value{ρ:Operand→Value}{c:Call}{ty:TypeId}{w w':World}{n:Next}(hc:(match c.callee with
  |.builtin .len|.builtin .cap|.builtin .min|.builtin .max=>true
  |_=>false)=true) (h:(do let d ←resolve ρ c ty;invoke d.target d.args:Sem Next).run P w=.ok n w'):∃v,n=.value v:=by
 revert h
 show ((bind (resolve ρ c ty) fun d=>invoke d.target d.args:Sem Next).run P w=.ok n w')→_
 intro h;rw [Sem.run_bind] at h;unfold resolve at h;split at hc<;>rename_i hcc<;>simp only [hcc] at h
 all_goals first
  |exact sem_value h
  |cases hc
theorem nil_value{P:Program}{ρ:Operand→Value}{o:Oper}{x:Operand}{w w':World}{n:Next}(ho:o.op=.nilCheck x)(h:(execOp ρ o).run P w=.ok n w'):∃v,n=.value v:=by
 unfold execOp at h;simp only [ho] at h;split at h
 ·simp [go_sem] at h
 ·simp [go_sem] at h
 ·simp [go_sem] at h
 ·split at h
  ·simp [go_sem] at h
  ·simp only [Sem.run_bind] at h;generalize Sem.run P _ w=r at h;cases r with
   |ok a w1=>
    simp only [Result.andThen] at h;generalize Sem.run P (nilAhead _ _ _ _) w1=r2 at h;cases r2 with
    |ok b w2=>
     simp only at h;split at h
     ·simp [go_sem] at h
     ·cases h;exact ⟨_,rfl⟩
    |halt _ _=>simp at h
   |halt _ _=>simp [Result.andThen] at h
  ·cases h;exact ⟨_,rfl⟩
 ·cases h;exact ⟨_,rfl⟩
theorem value_run{ρ:Operand→Value}{o:Oper}{w w':World}{n:Next}(hv:valueOp o=true)(h:(execOp ρ o).run P w=.ok n w'):∃v,n=.value v:=by
 have h0:=h;unfold valueOp at hv;unfold execOp at h;split at hv<;>rename_i ho<;>simp only [ho] at h
 all_goals first
  |exact nil_value ho h0
  |exact builtin_value hv h
  |exact sem_value h
  |exact pick_value h
  |(cases h;exact ⟨_,rfl⟩)
  |cases hv
def Closed(md:Region.Mode)(ops:Array Oper)(listed:Array Bool):Prop:=
 listed.size=ops.size∧∀j oj,ops[j]? =some oj→listed.getD j false=true→∀e∈oj.after,Region.binds md e=true→listed.getD e.on false=true
theorem Closed.set{i:Nat}{listed:Array Bool}(inv:Closed md ops listed)(hi:i∈Region.ready md ops listed):Closed md ops (listed.setIfInBounds i true):=by
 obtain ⟨_,oi,hoi,hall⟩:=mem_ready.1 hi;refine ⟨by simp [inv.1],fun j oj hj hl e he hb=> ?_⟩
 by_cases hij:i=j
 ·subst hij;have:oj=oi:=Option.some.inj (hj.symm.trans hoi);subst this;exact getD_set_true (hall e he hb)
 ·rw [getD_set_ne false hij] at hl;exact getD_set_true (inv.2 j oj hj hl e he hb)
theorem waitsT_listed{i:Nat}{listed:Array Bool}(inv:Closed md ops listed):∀n j,listed.getD j false=true→waitsT md ops n j i=true→listed.getD i false=true:=by
 intro n;induction n with
 |zero=>intro j _ h;cases h
 |succ n ih=>
  intro j hl h;unfold waitsT at h;split at h
  ·cases h
  ·rename_i oj hj
   obtain ⟨e,he,hb⟩:=Array.any_eq_true'.1 h;simp only [Bool.and_eq_true,Bool.or_eq_true,beq_iff_eq] at hb;have h1:=inv.2 j oj hj hl e he hb.1;rcases hb.2 with h2|h2
   ·rw [←h2];exact h1
   ·exact ih _ h1 h2
theorem waitsT_ready{i j:Nat}{listed:Array Bool}(inv:Closed md ops listed){n:Nat}(hj:j∈Region.ready md ops listed)(h:waitsT md ops n j i=true):listed.getD i false=true:=by
 cases n with
 |zero=>cases h
 |succ n=>
  obtain ⟨_,oj,hoj,hall⟩:=mem_ready.1 hj;unfold waitsT at h;rw [hoj] at h;obtain ⟨e,he,hb⟩:=Array.any_eq_true'.1 h;simp only [Bool.and_eq_true,Bool.or_eq_true,beq_iff_eq] at hb;have h1:=hall e he hb.1;rcases hb.2 with h2|h2
  ·rw [←h2];exact h1
  ·exact waitsT_listed inv n _ h1 h2
theorem not_both{listed:Array Bool}{i:Nat}(h:listed.getD i true=false)(h':listed.getD i false=true):False:=by
 rw [getD_both h] at h';cases h'
def sameAt(P:Program)(w:World)(v:Value):Result Next→Prop
 |.ok (.value u) w'=>w'=w∧u=v
 |.ok .skip w'=>w'=w∧undef=v
 |.ok (.enter f args) w'=>Calls P f args w' (fun e w''=>e=.returned v∧w''=w)
 |.ok (.row row args) w'=>Rows P row args w' (fun u w''=>u=v∧w''=w)
 |_=>False
def YieldsC(P:Program)(ops:Array Oper)(S:World→Prop)(o:Oper)(v:Value)(a:Act):Prop:=
 (Region.wanted o (yielded ops a.tmps)=true∧∀w,S w→sameAt P w v ((execOp a.eval o).run P w))∨
 (Region.wanted o (yielded ops a.tmps)=false∧v=undef)
theorem YieldsC.wpOp{i:Nat}{o:Oper}{v:Value}{a:Act}(hi:ops[i]? =some o)(hy:YieldsC P ops S o v a)
  {K:Act→World→Prop} {w:World} (hS:S w) (h:K (a.put o.dst v) w):wpOp P ops Q i K a w:=by
 unfold Go.wpOp;simp only [hi];rcases hy with ⟨hw,hv⟩|⟨hw,rfl⟩
 ·simp only [hw,if_true];refine .inl ?_;have h1:=hv w hS;unfold Oper.wp;generalize (execOp a.eval o).run P w=r at*;cases r with
  |ok n w'=>
   cases n<;>simp only [sameAt] at h1<;>simp only [Oper.upon]
   case value u=>obtain ⟨rfl,rfl⟩:=h1;exact h
   case skip=>obtain ⟨rfl,rfl⟩:=h1;exact h
   case enter f args=>exact h1.mono fun e w'' ⟨he,hw''⟩=>by subst he;subst hw'';exact h
   case row row args=>exact Rows.mono h1 fun u w'' ⟨he,hw''⟩=>by subst he;subst hw'';exact h
  |halt x w'=>exact h1.elim
 ·simp only [hw,Bool.false_eq_true,if_false];exact h
theorem YieldsC.of_same{o:Oper}{v:Value}{a a':Act}(hy:YieldsC P ops S o v a)(he:execOp a'.eval o=execOp a.eval o)
  (hw:Region.wanted o (yielded ops a'.tmps)=Region.wanted o (yielded ops a.tmps)):YieldsC P ops S o v a':=by
 unfold YieldsC at*;rw [he,hw];exact hy
theorem upon_put{oi oj:Oper}{v:Value}{a:Act}{X:Act→Prop}(h2:∀d,oi.dst=some d→oj.dst≠some d)(hQ:∀c w,Q (.panic c) (a.put oi.dst v) w→Q (.panic c) a w)
  (hX:∀u,X (a.put oj.dst u)) (hXd:∀d u,X (Act.put { a with defers:=d::a.defers } oj.dst u)) {K:Act→World→Prop} (r:Result Next) (h:oj.upon P (a.put oi.dst v) K Q r):
  oj.upon P a (fun a' w'=>X a'∧K (a'.put oi.dst v) w') Q r:=by
 cases r with
 |ok n w'=>
  cases n<;>simp only [Oper.upon] at h ⊢
  case value u=>exact ⟨hX u,by rw [←Act.put_comm a v u h2];exact h⟩
  case skip=>exact ⟨hX _,by rw [←Act.put_comm a v undef h2];exact h⟩
  case defer d=>
   refine ⟨hXd d _, ?_⟩;rw [←Act.put_comm _ v undef h2,←Act.put_defers];exact h
  case enter f args=>
   refine Calls.mono h fun e w'' he=> ?_
   cases e with
   |returned u=>exact ⟨hX u,by rw [←Act.put_comm a v u h2];exact he⟩
   |panicked c=>exact hQ _ _ he
   |outgrown=>exact he
  case row row args=>exact Rows.mono h fun u w'' he=>⟨hX u,by rw [←Act.put_comm a v u h2];exact he⟩
 |halt x w'=>
  cases x<;>simp only [Oper.upon] at h ⊢
  case panic u=>exact hQ _ _ h
theorem wpOp_putC{j:Nat}{oi oj:Oper}{v:Value}(hj:ops[j]? =some oj)(hap:oi.apart ops oj=true)
  (hsi:∀cs b,oi.op≠.select cs b) (hsj:∀cs b,oj.op≠.select cs b)
  (hQ:∀c a w,Q (.panic c) (a.put oi.dst v) w→Q (.panic c) a w) {K:Act→World→Prop} {a:Act} {w:World}
  (hy:YieldsC P ops S oi v a) (h:wpOp P ops Q j K (a.put oi.dst v) w):
  wpOp P ops Q j (fun a' w'=>YieldsC P ops S oi v a'∧K (a'.put oi.dst v) w') a w:=by
 obtain ⟨h1,h2,h3⟩:=Oper.apart_spec hap;have keep:∀(a:Act),YieldsC P ops S oi v a→∀u,YieldsC P ops S oi v (a.put oj.dst u):=fun a hy u=>
  hy.of_same (execOp_put oi hsi a oj.dst u h3) (wanted_put oi a oj.dst u h3)
 unfold wpOp at*;simp only [hj] at*;rw [wanted_put oj a oi.dst v h1] at h;by_cases hw:Region.wanted oj (yielded ops a.tmps)=true
 ·rw [if_pos hw] at h ⊢;rcases h with h|⟨hasks,hlets⟩
  ·refine .inl ?_;unfold Oper.wp at*;rw [execOp_put oj hsj a oi.dst v h1] at h;exact upon_put h2 (fun c w=>hQ c a w) (keep a hy) (fun d=>keep _ (hy.of_same rfl rfl)) _ h
  ·exact .inr ⟨by unfold Oper.asks at*;rw [execOp_put oj hsj a oi.dst v h1] at hasks;exact hasks,hlets⟩
 ·rw [if_neg hw] at h ⊢;exact ⟨keep a hy _,by rw [←Act.put_comm a v undef h2];exact h⟩
def wpAnyF(P:Program)(md:Region.Mode)(ops:Array Oper)(Q:Exit→Act→World→Prop)(S:World→Prop)(late:List Nat):Nat→Array Bool→Act→World→Prop
 |0,listed,a,w=>Region.ready md ops listed=[]∧Q .normal a w
 |fuel+1,listed,a,w=>
  (Region.ready md ops listed=[]→Q .normal a w)∧
  ∀i∈Region.ready md ops listed,wpOp P ops Q i (fun a' w'=>(i∉late→S w→S w')∧wpAnyF P md ops Q S late fuel (listed.setIfInBounds i true) a' w') a w
theorem wpAny_of_F:∀(fuel:Nat) (listed:Array Bool) (a:Act) (w:World),wpAnyF P md ops Q S late fuel listed a w→wpAny P md ops Q fuel listed a w
 |0,_,_,_,h=>h
 |fuel+1,_,_,_,h=>⟨h.1,fun i hi=>wpOp_mono (fun a' w' h'=>wpAny_of_F fuel _ a' w' h'.2) (h.2 i hi)⟩
def Early(md:Region.Mode)(ops:Array Oper)(S:World→Prop)(late:List Nat)(i:Nat)(S':World→Prop)(w:World):Prop:=
 (∀w,S' w)∨(S'=S∧S w∧∀j∈late,waitsT md ops ops.size j i=true)
theorem wpAnyF_first{S':World→Prop}{i:Nat}{oi:Oper}{v:Value}(hi:ops[i]? =some oi)(hsel:∀(j:Nat) (o:Oper) cs b,ops[j]? =some o→o.op≠.select cs b)
  (hQ:∀c a d v w,Q (.panic c) (Act.put a d v) w→Q (.panic c) a w):
  ∀(fuel:Nat) (listed:Array Bool) (a:Act) (w:World),Closed md ops listed→
   (∀j oj,ops[j]? =some oj→j≠i→listed.getD j true=false→(∀e∈oj.after,Region.binds md e=true→e.on≠i)→oi.apart ops oj=true)→
   i∈Region.ready md ops listed→YieldsC P ops S' oi v a→Early md ops S late i S' w→
   wpAnyF P md ops Q S late fuel (listed.setIfInBounds i true) (a.put oi.dst v) w→wpAnyF P md ops Q S late (fuel+1) listed a w:=by
 have hSw:∀{w},Early md ops S late i S' w→S' w:=fun h=>by
  rcases h with h|⟨rfl,h,_⟩
  ·exact h _
  ·exact h
 intro fuel;induction fuel with
 |zero=>
  intro listed a w _ _ hr hy hS H;refine ⟨fun h=>(by rw [h] at hr;cases hr),fun j hj=> ?_⟩
  by_cases hji:j=i
  ·subst hji;exact hy.wpOp hi (hSw hS) ⟨fun _ h=>h,H⟩
  ·have:=ready_mono hj hji;rw [H.1] at this;cases this
 |succ fuel ih=>
  intro listed a w inv hfree hr hy hS H;refine ⟨fun h=>(by rw [h] at hr;cases hr),fun j hj=> ?_⟩
  by_cases hji:j=i
  ·subst hji;exact hy.wpOp hi (hSw hS) ⟨fun _ h=>h,H⟩
  ·have h1:=H.2 j (ready_mono hj hji);obtain ⟨hjun,oj,hoj,hall⟩:=mem_ready.1 hj;have hiun:=(mem_ready.1 hr).1;have hnot:∀e∈oj.after,Region.binds md e=true→e.on≠i:=fun e he hb heq=>by
    have h1:=hall e he hb;rw [heq] at h1;exact not_both hiun h1
   have h2:=wpOp_putC hoj (hfree j oj hoj hji hjun hnot) (fun cs b=>hsel i oi cs b hi) (fun cs b=>hsel j oj cs b hoj) (fun c a w=>hQ c a _ _ w) hy h1
   have hfree':∀k ok,ops[k]? =some ok→k≠i→(listed.setIfInBounds j true).getD k true=false→
     (∀e∈ok.after,Region.binds md e=true→e.on≠i)→oi.apart ops ok=true:=fun k ok hk hki hun hno=>by
    refine hfree k ok hk hki ?_ hno;by_cases hjk:j=k
    ·subst hjk;exact hjun
    ·rw [getD_set_ne true hjk] at hun;exact hun
   refine wpOp_mono (fun a' w' h3=>⟨h3.2.1, ?_⟩) h2
   have hS2:Early md ops S late i S' w':=by
    rcases hS with h|⟨rfl,h,hm⟩
    ·exact .inl h
    ·exact .inr ⟨rfl,h3.2.1 (fun hl=>not_both hiun (waitsT_ready inv hj (hm j hl))) h,hm⟩
   refine ih (listed.setIfInBounds j true) a' w' (inv.set hj) hfree' (ready_mono hr (Ne.symm hji)) h3.1 hS2 ?_;rw [Array.setIfInBounds_comm _ _ hji];exact h3.2.2
def planB(md:Region.Mode)(ops:Array Oper)(late:List Nat):List (Bool×Nat)→Array Bool→Bool
 |[],listed=>(Region.ready md ops listed).isEmpty
 |(true,i)::r,listed=>(Region.ready md ops listed).contains i&&Region.free md ops listed i&&
  (match ops[i]? with
   |none=>false
   |some o=>(valueOp o||callOp o)&&(pureOp o||late.all fun j=>waitsT md ops ops.size j i))&&planB md ops late r (listed.setIfInBounds i true)
 |(false,i)::r,listed=>decide (Region.ready md ops listed=[i])&&planB md ops late r (listed.setIfInBounds i true)
def walkM(P:Program)(ops:Array Oper)(Q:Exit→Act→World→Prop)(S:World→Prop)(late:List Nat):List (Bool×Nat)→Act→World→Prop
 |[],a,w=>Q .normal a w
 |(true,i)::r,a,w=>∃oi v,ops[i]? =some oi∧YieldsC P ops S oi v a∧walkM P ops Q S late r (a.put oi.dst v) w
 |(false,i)::r,a,w=>wpOp P ops Q i (fun a' w'=>(i∉late→S w→S w')∧walkM P ops Q S late r a' w') a w
theorem yields_pure{o:Oper}{v:Value}{a:Act}(hp:pureOp o=true)(hne:∃w,S w)(h:YieldsC P ops S o v a):YieldsC P ops (fun _=>True) o v a:=by
 rcases h with ⟨h1,h2⟩|h
 ·refine .inl ⟨h1,fun w _=> ?_⟩
  obtain ⟨w0,h0⟩:=hne;have h3:=h2 w0 h0;unfold pureOp at hp;unfold execOp at h3 ⊢;split at hp<;>rename_i ho<;>simp only [ho] at h3 ⊢
  ·obtain ⟨_,h4⟩:=h3;exact ⟨rfl,h4⟩
  ·obtain ⟨_,h4⟩:=h3;exact ⟨rfl,h4⟩
  ·cases hp
 ·exact .inr h
theorem wpAnyF_of_plan(hsel:Region.noSelect ops=true)(hQ:∀c a d v w,Q (.panic c) (Act.put a d v) w→Q (.panic c) a w)(hne:∃w,S w):
  ∀(plan:List (Bool×Nat)) (listed:Array Bool) (a:Act) (w:World),Closed md ops listed→planB md ops late plan listed=true→
   ((∀j∈late,listed.getD j true=false)→S w)→walkM P ops Q S late plan a w→wpAnyF P md ops Q S late plan.length listed a w
 |[],listed,a,w,_,hB,_,h=>⟨by simpa [planB] using hB,h⟩
 |(true,i)::r,listed,a,w,inv,hB,hS,h=>by
  obtain ⟨oi,v,ho,hy,hr⟩:=h;simp only [planB,ho,Bool.and_eq_true,Bool.or_eq_true] at hB;obtain ⟨⟨⟨h1,h2⟩,h3,h4⟩,h5⟩:=hB;have hri:i∈Region.ready md ops listed:=by simpa using h1
  have hiun:=(mem_ready.1 hri).1;have key:=wpAnyF_of_plan hsel hQ hne r (listed.setIfInBounds i true) (a.put oi.dst v) w (inv.set hri) h5 (fun hl=>hS (fun j hj=>by
   by_cases hji:i=j
   ·subst hji;exact hiun
   ·have:=hl j hj;rwa [getD_set_ne true hji] at this)) hr
  rcases h4 with h4|h4
  ·exact wpAnyF_first ho (Region.noSelect_spec hsel) hQ _ _ _ _ inv (Region.free_spec ho h2) hri (yields_pure h4 hne hy) (.inl fun _=>trivial) key
  ·have h6:∀j∈late,waitsT md ops ops.size j i=true:=by simpa [List.all_eq_true] using h4
   have hSw:S w:=hS fun j hj=>by
    cases hl:listed.getD j true with
    |false=>rfl
    |true=>
     exfalso;have hjs:j<listed.size:=by
      rw [inv.1];rcases Nat.lt_or_ge j ops.size with h|h
      ·exact h
      ·exfalso;have:=h6 j hj;cases hz:ops.size with
       |zero=>rw [hz] at this;cases this
       |succ m=>
        rw [hz] at this;unfold waitsT at this;rw [Array.getElem?_eq_none h] at this;cases this
     have hl':listed.getD j false=true:=by simp [hjs] at hl ⊢;exact hl
     exact not_both hiun (waitsT_listed inv _ j hl' (h6 j hj))
   exact wpAnyF_first ho (Region.noSelect_spec hsel) hQ _ _ _ _ inv (Region.free_spec ho h2) hri hy (.inr ⟨rfl,hSw,h6⟩) key
 |(false,i)::r,listed,a,w,inv,hB,hS,h=>by
  simp only [planB,Bool.and_eq_true,decide_eq_true_eq] at hB;obtain ⟨h1,h5⟩:=hB;refine ⟨fun h=>(by rw [h] at h1;cases h1),fun j hj=> ?_⟩
  have hj':=hj;rw [h1] at hj';have hji:j=i:=by simpa using hj'
  subst hji;refine wpOp_mono (fun a' w' h'=>⟨h'.1, ?_⟩) h
  refine wpAnyF_of_plan hsel hQ hne r _ a' w' (inv.set hj) h5 (fun hl=> ?_) h'.2
  have hjl:j∉late:=fun hjl=>by
   have:=hl j hjl;have hs:j<listed.size:=by
    rw [inv.1];obtain ⟨_,oj,hoj,_⟩:=mem_ready.1 hj;exact (Array.getElem?_eq_some_iff.1 hoj).1
   simp [hs] at this
  exact h'.1 hjl (hS fun k hk=>by
   have hkj:j≠k:=fun e=>hjl (e▸hk)
   have:=hl k hk
   rwa [getD_set_ne true hkj] at this)
theorem put_defers(a:Act)(d:Option Tmp)(v:Value):(a.put d v).defers=a.defers:=by cases d<;>rfl
def fits(ops:Array Oper):List (Bool×Nat)→List Oper→Prop
 |[],[]=>True
 |x::c,o::l=>ops[x.2]? =some o∧fits ops c l
 |_,_=>False
def valuesB:List (Bool×Nat)→List Oper→Bool
 |x::c,o::l=>(!x.1||valueOp o)&&valuesB c l
 |_,_=>true
theorem walk_one{i:Nat}(o:Oper){a:Act}{w:World}{rest:List (Bool×Nat)}(ho:ops[i]? =some o)
  (h:∀Q':Exit→Act→World→Prop,(∀a' w',(i∉late→S w→S w')→walkM P ops Q S late rest a' w'→Q' .normal a' w')→(∀c a' w',Q (.panic c) a' w'→Q' (.panic c) a' w')→wpList P ops Q' [o] a w):
  walkM P ops Q S late ((false,i)::rest) a w:=by
 have h1:=h (fun e a' w'=>match e with
  |.normal=>(i∉late→S w→S w')∧walkM P ops Q S late rest a' w'
  |e=>Q e a' w') (fun _ _ h1 h2=>⟨h1,h2⟩) (fun _ _ _ h=>h)
 unfold walkM wpOp;simp only [ho];unfold wpList at h1;by_cases hw:Region.wanted o (yielded ops a.tmps)=true
 ·rw [if_pos hw] at h1 ⊢;refine h1.imp (fun h2=> ?_) (fun ⟨h2,b,w',h3⟩=>⟨h2,b,w',h3⟩)
  unfold Oper.wp at*;generalize (execOp a.eval o).run P w=r at*;cases r with
  |ok n w'=>
   cases n<;>simp only [Oper.upon] at h2 ⊢<;>first
    |exact h2
    |exact Calls.mono h2 (fun e w'' he=>by cases e<;>exact he)
    |exact Rows.mono h2 (fun _ _ he=>he)
  |halt x w'=>cases x<;>simp only [Oper.upon] at h2 ⊢<;>exact h2
 ·rw [if_neg hw] at h1 ⊢;exact h1
theorem walk_tail(c:List (Bool×Nat))(l:List Oper){a:Act}{w:World}(hl:fits ops c l)(hv:(c.all fun x=> !x.1&&late.contains x.2)=true)(h:wpList P ops Q l a w):walkM P ops Q S late c a w:=by
 induction c generalizing l a w with
 |nil=>
  cases l with
  |nil=>exact h
  |cons o l=>exact hl.elim
 |cons x c ih=>
  cases l with
  |nil=>exact hl.elim
  |cons o l=>
   obtain ⟨ho,hl⟩:=hl;simp only [List.all_cons,Bool.and_eq_true,Bool.not_eq_true'] at hv;obtain ⟨⟨hb,hn⟩,hv⟩:=hv;obtain ⟨b,n⟩:=x;obtain rfl:b=false:=hb;have h1:wpOp P ops Q n (wpList P ops Q l) a w:=by unfold wpOp;simp only [ho];exact h
   exact wpOp_mono (fun a' w' h'=>⟨fun hn'=>absurd (by simpa using hn) hn',ih l hl hv h'⟩) h1
def sel(l:List Oper):List (Bool×Nat)→List Oper
 |[]=>[]
 |x::c=>match l.drop x.2 with
  |[]=>sel l c
  |o::_=>o::sel l c
def okB(l:List Oper)(c:List (Bool×Nat)):Bool:=c.all fun x=>match l.drop x.2 with
 |[]=>false
 |o::_=> !x.1||valueOp o
theorem fits_sel{l:List Oper}{c:List (Bool×Nat)}(h:okB l c=true):fits l.toArray c (sel l c)∧valuesB c (sel l c)=true:=by
 induction c with
 |nil=>exact ⟨trivial,rfl⟩
 |cons x c ih=>
  simp only [okB,List.all_cons,Bool.and_eq_true] at h;have ih':=ih h.2;have h1:=h.1;unfold sel;cases hd:l.drop x.2 with
  |nil=>rw [hd] at h1;cases h1
  |cons o r=>
   rw [hd] at h1;refine ⟨⟨?_,ih'.1⟩, ?_⟩
   ·have:(l.drop x.2)[0]? =some o:=by rw [hd];rfl
    rw [List.getElem?_drop] at this;simpa using this
   ·simp only [valuesB,Bool.and_eq_true];exact ⟨h1,ih'.2⟩
theorem tail_sel{l:List Oper}{a:Act}{w:World}(c:List (Bool×Nat))(hB:okB l c=true)(hv:(c.all fun x=> !x.1&&late.contains x.2)=true)(h:wpList P l.toArray Q (sel l c) a w):walkM P l.toArray Q S late c a w:=
 walk_tail c _ (fits_sel hB).1 hv h
theorem one_sel{i:Nat}{l:List Oper}{a:Act}{w:World}{rest:List (Bool×Nat)}(hB:okB l [(false,i)]=true)
  (h:∀Q':Exit→Act→World→Prop,(∀a' w',(i∉late→S w→S w')→walkM P l.toArray Q S late rest a' w'→Q' .normal a' w')→(∀c a' w',Q (.panic c) a' w'→Q' (.panic c) a' w')→wpList P l.toArray Q' (sel l [(false,i)]) a w):
  walkM P l.toArray Q S late ((false,i)::rest) a w:=by
 have hf:=(fits_sel hB).1;cases hs:sel l [(false,i)] with
 |nil=>rw [hs] at hf;exact hf.elim
 |cons o r=>
  rw [hs] at hf h;cases r with
  |nil=>exact walk_one o hf.1 h
  |cons _ _=>exact hf.2.elim
end
section
variable {P:Program} {ops:Array Oper} {Q:Exit→Act→World→Prop} {B:Nat} {W:World}
def growAt(P:Program)(w:World)(v:Value):Result Next→Prop
 |.ok (.value u) w'=>w'=w∧u=v
 |.ok .skip w'=>w'=w∧undef=v
 |.ok (.enter f args) w'=>w'=w∧Calls P f args w (fun e w''=>e=.returned v∧Below w.heap.size w w'')
 |_=>False
def YG(P:Program)(ops:Array Oper)(B:Nat)(W:World)(o:Oper)(v:Value)(A:Act):Prop:=
 (Region.wanted o (yielded ops A.tmps)=true∧∀w,Below B W w→growAt P w v ((execOp A.eval o).run P w))∨
 (Region.wanted o (yielded ops A.tmps)=false∧v=undef)
def valsAt(P:Program)(R:Value→World→Prop)(Z:List PanicEntry→World→Prop):Result Next→Prop
 |.ok (.value u) w'=>R u w'
 |.ok (.enter f args) w'=>Calls P f args w' (fun e w''=>(∃u,e=.returned u∧R u w'')∨∃c,e=.panicked c∧Z c w'')
 |.halt (.panic v) w'=>Z [{ v,recovered:=false }] w'
 |_=>False
abbrev VP:=Value→World→Prop
def dstOf(ops:Array Oper)(i:Nat):Option Tmp:=(ops[i]?).bind (·.dst)
def looksOf(ops:Array Oper)(i:Nat):List Tmp:=match ops[i]? with
 |some o=>o.looksAt ops
 |none=>[]
def valOf(ops:Array Oper)(A:Act)(i:Nat):Value:=match dstOf ops i with
 |some d=>A.tmps.getD d undef
 |none=>undef
def fillF(ops:Array Oper)(A1:Act)(a:Act)(p:List Nat):Act:=p.foldl (fun a i=>a.put (dstOf ops i) (valOf ops A1 i)) a
def fillV(ops:Array Oper)(A:Act)(q:List (Nat×Value)):Act:=q.foldl (fun a x=>a.put (dstOf ops x.1) x.2) A
def blind(ops:Array Oper)(i j:Nat):Bool:=match dstOf ops j with
 |some d=> !(looksOf ops i).contains d
 |none=>true
theorem blind_spec{i j:Nat}{o:Oper}(hi:ops[i]? =some o)(h:blind ops i j=true):∀d,dstOf ops j=some d→d∉o.looksAt ops:=by
 intro d hd;unfold blind at h;rw [hd] at h;simpa [looksOf,hi] using h
theorem eval_fillF{A1:Act}{i:Nat}{o:Oper}(hi:ops[i]? =some o)(hsel:∀cs b,o.op≠.select cs b):∀(p:List Nat) (a:Act),(∀j∈p,blind ops i j=true)→
  execOp (fillF ops A1 a p).eval o=execOp a.eval o∧Region.wanted o (yielded ops (fillF ops A1 a p).tmps)=Region.wanted o (yielded ops a.tmps)
 |[],a,_=>⟨rfl,rfl⟩
 |j::p,a,h=>by
  have h1:=eval_fillF (A1:=A1) hi hsel p (a.put (dstOf ops j) (valOf ops A1 j)) (fun k hk=>h k (by simp [hk]))
  have hb:=blind_spec hi (h j (by simp))
  exact ⟨h1.1.trans (execOp_put o hsel a _ _ hb),h1.2.trans (wanted_put o a _ _ hb)⟩
theorem eval_fillV{i:Nat}{o:Oper}(hi:ops[i]? =some o)(hsel:∀cs b,o.op≠.select cs b):∀(q:List (Nat×Value)) (a:Act),(∀x∈q,blind ops i x.1=true)→
  execOp (fillV ops a q).eval o=execOp a.eval o∧Region.wanted o (yielded ops (fillV ops a q).tmps)=Region.wanted o (yielded ops a.tmps)
 |[],a,_=>⟨rfl,rfl⟩
 |x::q,a,h=>by
  have h1:=eval_fillV hi hsel q (a.put (dstOf ops x.1) x.2) (fun k hk=>h k (by simp [hk]))
  have hb:=blind_spec hi (h x (by simp))
  exact ⟨h1.1.trans (execOp_put o hsel a _ _ hb),h1.2.trans (wanted_put o a _ _ hb)⟩
theorem fillF_put{A1:Act}{d:Option Tmp}{v:Value}:∀(p:List Nat) (a:Act),(∀j∈p,∀t,d=some t→dstOf ops j≠some t)→fillF ops A1 (a.put d v) p=(fillF ops A1 a p).put d v
 |[],a,_=>rfl
 |j::p,a,h=>by
  show fillF ops A1 ((a.put d v).put (dstOf ops j) (valOf ops A1 j)) p=(fillF ops A1 (a.put (dstOf ops j) (valOf ops A1 j)) p).put d v
  rw [Act.put_comm a v (valOf ops A1 j) (h j (by simp))]
  exact fillF_put p _ (fun k hk=>h k (by simp [hk]))
theorem fillV_put{d:Option Tmp}{v:Value}(q:List (Nat×Value))(a:Act){i:Nat}(hi:dstOf ops i=d):(fillV ops a q).put d v=fillV ops a (q++[(i,v)]):=by
 unfold fillV;rw [List.foldl_append];simp [hi]
theorem fillF_perm{A1:Act}{p p':List Nat}(h:p.Perm p')(hd:∀i∈p,∀j∈p,i≠j→∀t,dstOf ops i=some t→dstOf ops j≠some t)(a:Act):fillF ops A1 a p=fillF ops A1 a p':=by
 unfold fillF;refine h.foldl_eq' (fun i hi j hj z=> ?_) a
 by_cases hij:i=j
 ·subst hij;rfl
 ·exact Act.put_comm z _ _ (hd i hi j hj hij)
theorem fillV_perm{q q':List (Nat×Value)}(h:q.Perm q')(hd:∀x∈q,∀y∈q,x≠y→∀t,dstOf ops x.1=some t→dstOf ops y.1≠some t)(a:Act):fillV ops a q=fillV ops a q':=by
 unfold fillV;refine h.foldl_eq' (fun i hi j hj z=> ?_) a
 by_cases hij:i=j
 ·subst hij;rfl
 ·exact Act.put_comm z _ _ (hd i hi j hj hij)
def fitsN(ops:Array Oper):List Nat→List Oper→Prop
 |[],[]=>True
 |i::c,o::l=>ops[i]? =some o∧fitsN ops c l
 |_,_=>False
theorem walk_eval{C:World→Prop}{A1:Act}{i:Nat}{oi:Oper}(hi:ops[i]? =some oi)(hsel:∀cs b,oi.op≠.select cs b):∀(c:List Nat) (l:List Oper) (a:Act),fitsN ops c l→wpQuiet P ops C (fun a'=>a'=A1) l a→
  (∀j∈c,blind ops i j=true)→execOp A1.eval oi=execOp a.eval oi∧Region.wanted oi (yielded ops A1.tmps)=Region.wanted oi (yielded ops a.tmps)
 |[],[],a,_,h,_=>by
  have h':a=A1:=h;subst h';exact ⟨rfl,rfl⟩
 |[],_::_,_,hl,_,_=>hl.elim
 |_::_,[],_,hl,_,_=>hl.elim
 |j::c,o::l,a,hl,h,hb=>by
  have hq:qOp P ops C j (wpQuiet P ops C (fun a'=>a'=A1) l) a:=by unfold qOp;simp only [hl.1];exact h
  obtain ⟨v,_,hk⟩:=yieldsIn_of_qOp hl.1 hq;have h1:=walk_eval hi hsel c l (a.put o.dst v) hl.2 hk (fun k hk=>hb k (by simp [hk]))
  have hd:=blind_spec hi (hb j (by simp))
  have hdo:dstOf ops j=o.dst:=by simp [dstOf,hl.1]
  rw [hdo] at hd;exact ⟨h1.1.trans (execOp_put oi hsel a _ _ hd),h1.2.trans (wanted_put oi a _ _ hd)⟩
theorem walk_slot{C:World→Prop}{A1:Act}(d:Tmp):∀(c:List Nat) (l:List Oper) (a:Act),fitsN ops c l→wpQuiet P ops C (fun a'=>a'=A1) l a→
  (∀j∈c,dstOf ops j≠some d)→A1.tmps[d]? =a.tmps[d]? ∧A1.tmps.size=a.tmps.size∧A1.defers=a.defers
 |[],[],a,_,h,_=>by
  have h':a=A1:=h;subst h';exact ⟨rfl,rfl,rfl⟩
 |[],_::_,_,hl,_,_=>hl.elim
 |_::_,[],_,hl,_,_=>hl.elim
 |j::c,o::l,a,hl,h,hb=>by
  have hq:qOp P ops C j (wpQuiet P ops C (fun a'=>a'=A1) l) a:=by unfold qOp;simp only [hl.1];exact h
  obtain ⟨v,_,hk⟩:=yieldsIn_of_qOp hl.1 hq;have h1:=walk_slot d c l (a.put o.dst v) hl.2 hk (fun k hk=>hb k (by simp [hk]))
  have hdo:dstOf ops j=o.dst:=by simp [dstOf,hl.1]
  have hne:=hb j (by simp)
  rw [hdo] at hne;have h2:(a.put o.dst v).tmps[d]? =a.tmps[d]? ∧(a.put o.dst v).tmps.size=a.tmps.size:=by
   cases ho:o.dst with
   |none=>exact ⟨rfl,rfl⟩
   |some e=>
    rw [ho] at hne;have:e≠d:=fun h=>hne (by rw [h])
    simp [Act.put,this]
  exact ⟨h1.1.trans h2.1,h1.2.1.trans h2.2,h1.2.2.trans (put_defers _ _ _)⟩
theorem fixed_of_walk{C:World→Prop}{A1:Act}(hsel:∀(j:Nat) (o:Oper) cs b,ops[j]? =some o→o.op≠.select cs b):∀(c:List Nat) (l:List Oper) (a:Act),fitsN ops c l→wpQuiet P ops C (fun a'=>a'=A1) l a→
  c.Pairwise (fun i j=>blind ops i j=true∧∀t,dstOf ops i=some t→dstOf ops j≠some t)→(∀i∈c,blind ops i i=true∧∃d,dstOf ops i=some d∧d<a.tmps.size)→
  ∀i∈c,∃o,ops[i]? =some o∧((Region.wanted o (yielded ops A1.tmps)=true∧∀w,C w→Oper.quietUpon P C w (valOf ops A1 i) ((execOp A1.eval o).run P w))∨(Region.wanted o (yielded ops A1.tmps)=false∧valOf ops A1 i=undef))
 |[],_,_,_,_,_,_,i,hi=>by cases hi
 |_::_,[],_,hl,_,_,_,_,_=>hl.elim
 |j::c,o::l,a,hl,h,hp,hd,i,hi=>by
  have hq:qOp P ops C j (wpQuiet P ops C (fun a'=>a'=A1) l) a:=by unfold qOp;simp only [hl.1];exact h
  obtain ⟨v,hy,hk⟩:=yieldsIn_of_qOp hl.1 hq;have hdo:dstOf ops j=o.dst:=by simp [dstOf,hl.1]
  obtain ⟨hp1,hp2⟩:=List.pairwise_cons.1 hp;by_cases hij:i=j
  ·subst hij;obtain ⟨hb,d,hdd,hds⟩:=hd i (by simp)
   have h1:=walk_eval hl.1 (fun cs b=>hsel i o cs b hl.1) c l (a.put o.dst v) hl.2 hk (fun k hk=>(hp1 k hk).1)
   have h2:=walk_slot d c l (a.put o.dst v) hl.2 hk (fun k hk=>(hp1 k hk).2 d hdd)
   have hbb:=blind_spec hl.1 hb;rw [hdo] at hbb hdd;have e1:=h1.1.trans (execOp_put o (fun cs b=>hsel i o cs b hl.1) a _ _ hbb)
   have e2:=h1.2.trans (wanted_put o a _ _ hbb);have hval:valOf ops A1 i=v:=by
    unfold valOf;rw [hdo,hdd];have h3:=h2.1;rw [hdd] at h3;simp only [Array.getD_eq_getD_getElem?,h3];simp [Act.put,hds]
   refine ⟨o,hl.1, ?_⟩;rw [e1,e2,hval];exact hy
  ·have hi':i∈c:=by simpa [hij] using hi
   refine fixed_of_walk hsel c l (a.put o.dst v) hl.2 hk hp2 (fun k hk=> ?_) i hi'
   obtain ⟨h1,d,h2,h3⟩:=hd k (by simp [hk])
   exact ⟨h1,d,h2,by cases o.dst<;>simpa [Act.put] using h3⟩
theorem fixed_all{A1:Act}(hsel:∀(j:Nat) (o:Oper) cs b,ops[j]? =some o→o.op≠.select cs b)(c:List Nat)(l:List Oper)(a:Act)(hl:fitsN ops c l)
  (h:∀(I:Type) (F:I→World),Nonempty I→((∀i w,Below (F i).heap.size (F i) w→∃j,w=F j)∧∀i,Below B W (F i))→wpQuiet P ops (fun w=>∃i,w=F i) (fun a'=>a'=A1) l a)
  (hp:c.Pairwise (fun i j=>blind ops i j=true∧∀t,dstOf ops i=some t→dstOf ops j≠some t)) (hd:∀i∈c,blind ops i i=true∧∃d,dstOf ops i=some d∧d<a.tmps.size) (hB:B≤W.heap.size):
  ∀i∈c,∃o,ops[i]? =some o∧YG P ops B W o (valOf ops A1 i) A1:=by
 intro i hi;have key:∀w,Below B W w→∃o,ops[i]? =some o∧((Region.wanted o (yielded ops A1.tmps)=true∧growAt P w (valOf ops A1 i) ((execOp A1.eval o).run P w))∨(Region.wanted o (yielded ops A1.tmps)=false∧valOf ops A1 i=undef)):=by
  intro w hw;have h1:=fixed_of_walk hsel c l a hl (h { u:World // Below w.heap.size w u } (fun x=>x.1) ⟨⟨w,Below.refl _ _⟩⟩ ⟨fun x u hu=>⟨⟨u,x.2.trans (hu.mono x.2.size)⟩,rfl⟩,fun x=>hw.trans (x.2.mono (Nat.le_trans hB hw.size))⟩) hp hd i hi
  obtain ⟨o,ho,h2⟩:=h1;refine ⟨o,ho,h2.imp (fun ⟨h3,h4⟩=>⟨h3, ?_⟩) id⟩
  have h5:=h4 w ⟨⟨w,Below.refl _ _⟩,rfl⟩;generalize (execOp A1.eval o).run P w=r at*;cases r with
  |ok n w'=>
   cases n<;>simp only [Oper.quietUpon] at h5<;>simp only [growAt]
   case value u=>exact h5
   case skip=>exact ⟨h5.1,h5.2.symm⟩
   case enter f args=>exact ⟨h5.1,h5.2.mono fun e w'' ⟨he,x,hx⟩=>⟨he,hx▸x.2⟩⟩
  |halt x w'=>exact h5.elim
 obtain ⟨o,ho,_⟩:=key W (Below.refl _ _);refine ⟨o,ho, ?_⟩;cases hw:Region.wanted o (yielded ops A1.tmps) with
 |true=>
  refine .inl ⟨hw,fun w hb=> ?_⟩
  obtain ⟨o',ho',h1⟩:=key w hb;rw [ho] at ho';cases ho';rcases h1 with h1|h1
  ·exact h1.2
  ·rw [hw] at h1;cases h1.1
 |false=>
  obtain ⟨o',ho',h1⟩:=key W (Below.refl _ _);rw [ho] at ho';cases ho';rcases h1 with h1|h1
  ·rw [hw] at h1;cases h1.1
  ·exact .inr ⟨hw,h1.2⟩
theorem wpOp_YG{A1 a':Act}{i:Nat}{o:Oper}{v:Value}{w:World}{K:Act→World→Prop}(hi:ops[i]? =some o)(e1:execOp a'.eval o=execOp A1.eval o)(e2:Region.wanted o (yielded ops a'.tmps)=Region.wanted o (yielded ops A1.tmps))
  (hy:YG P ops B W o v A1) (hw:Below B W w) (h:∀w',Below w.heap.size w w'→K (a'.put o.dst v) w'):wpOp P ops Q i K a' w:=by
 unfold wpOp;simp only [hi];rcases hy with ⟨h1,h2⟩|⟨h1,rfl⟩
 ·rw [e2,if_pos h1];refine .inl ?_;have h3:=h2 w hw;unfold Oper.wp;rw [e1];generalize (execOp A1.eval o).run P w=r at*;cases r with
  |ok n w'=>
   cases n<;>simp only [growAt] at h3<;>simp only [Oper.upon]
   case value u=>obtain ⟨rfl,rfl⟩:=h3;exact h _ (Below.refl _ _)
   case skip=>obtain ⟨rfl,rfl⟩:=h3;exact h _ (Below.refl _ _)
   case enter f args=>obtain ⟨rfl,h4⟩:=h3;exact h4.mono fun e w'' ⟨he,hb⟩=>by subst he;exact h _ hb
  |halt x w'=>exact h3.elim
 ·rw [e2,h1];simp only [Bool.false_eq_true,if_false];exact h _ (Below.refl _ _)
theorem wpOp_vals{A1 a':Act}{i:Nat}{o:Oper}{w:World}{K:Act→World→Prop}{R:VP}{Z:List PanicEntry→World→Prop}(hi:ops[i]? =some o)(hg:o.guard=none)(e1:execOp a'.eval o=execOp A1.eval o)
  (hr:valsAt P R Z ((execOp A1.eval o).run P w)) (hZ:∀c w',Z c w'→Q (.panic c) a' w') (h:∀u w',R u w'→K (a'.put o.dst u) w'):wpOp P ops Q i K a' w:=by
 unfold wpOp;simp only [hi,Region.wanted,hg,if_true];refine .inl ?_;unfold Oper.wp;rw [e1];generalize (execOp A1.eval o).run P w=r at*;cases r with
 |ok n w'=>
  cases n<;>simp only [valsAt] at hr<;>simp only [Oper.upon]
  case value u=>exact h _ _ hr
  case enter f args=>
   refine hr.mono fun e w'' he=> ?_
   rcases he with ⟨u,rfl,he⟩|⟨c,rfl,he⟩
   ·exact h _ _ he
   ·exact hZ _ _ he
 |halt x w'=>
  cases x<;>simp only [valsAt] at hr
  exact hZ _ _ hr
def seqT(ops:Array Oper):List Nat→Array Bool→Bool
 |[],listed=>(Region.ready .any ops listed).isEmpty
 |t::r,listed=>decide (Region.ready .any ops listed=[t])&&seqT ops r (listed.setIfInBounds t true)
theorem wpAnyF_seq{S:World→Prop}{late:List Nat}:∀(tl:List Nat) (l:List Oper) (listed:Array Bool) (a:Act) (w:World),fitsN ops tl l→(∀t∈tl,t∈late)→seqT ops tl listed=true→wpList P ops Q l a w→wpAnyF P .any ops Q S late tl.length listed a w
 |[],[],_,_,_,_,_,hB,h=>⟨by simpa [seqT] using hB,h⟩
 |[],_::_,_,_,_,hl,_,_,_=>hl.elim
 |_::_,[],_,_,_,hl,_,_,_=>hl.elim
 |t::r,o::l,listed,a,w,hl,hm,hB,h=>by
  simp only [seqT,Bool.and_eq_true,decide_eq_true_eq] at hB;refine ⟨fun h1=>(by rw [hB.1] at h1;cases h1),fun i hi=> ?_⟩
  rw [hB.1] at hi;have hik:i=t:=by simpa using hi
  subst hik;have hw:wpOp P ops Q i (wpList P ops Q l) a w:=by unfold wpOp;simp only [hl.1];exact h
  exact wpOp_mono (fun a' w' h'=>⟨fun hn=>absurd (hm i (by simp)) hn,wpAnyF_seq r l _ a' w' hl.2 (fun x hx=>hm x (by simp [hx])) hB.2 h'⟩) hw
structure Shape (ops:Array Oper) (fx vsI tl:List Nat):Prop where
 nodup:(fx++vsI++tl).Nodup
 all:∀i,(i∈fx∨i∈vsI∨i∈tl)→i<ops.size
 edges:∀i o,ops[i]? =some o→∀e∈o.after,Region.binds .any e=true→e.on<i
 bl1:∀i∈fx++vsI,∀j∈fx,blind ops i j=true∨∃m,waitsT .any ops m i j=true
 bl2:∀i∈fx++vsI,∀j∈vsI,blind ops i j=true
 dst:∀i∈fx++vsI,∀j∈fx++vsI,i≠j→∀t,dstOf ops i=some t→dstOf ops j≠some t
 guard:∀i∈vsI,∀o,ops[i]? =some o→o.guard=none
theorem ready_ne{listed:Array Bool}{fx vsI tl:List Nat}(sh:Shape ops fx vsI tl)(hs:listed.size=ops.size):∀i,i<ops.size→listed.getD i true=false→Region.ready .any ops listed≠[]:=by
 intro i;induction i using Nat.strongRecOn with
 |_ i ih=>
  intro hi hl;by_cases hr:i∈Region.ready .any ops listed
  ·intro h;rw [h] at hr;cases hr
  ·obtain ⟨o,ho⟩:∃o,ops[i]? =some o:=⟨_,Array.getElem?_eq_getElem hi⟩;have:¬∀e∈o.after,Region.binds .any e=true→listed.getD e.on false=true:=fun h=>hr (mem_ready.2 ⟨hl,o,ho,h⟩)
   simp only [Classical.not_forall] at this;obtain ⟨e,he,hb,hne⟩:=this;have hlt:=sh.edges i o ho e he hb;refine ih e.on hlt (by omega) ?_
   have h1:e.on<listed.size:=by omega
   simp [h1] at hne ⊢;exact hne
structure St (P:Program) (ops:Array Oper) (B:Nat) (W:World) (A1:Act) (V:Nat→VP) (fx vsI tl:List Nat) (listed:Array Bool) (a:Act) (w:World) (p pv:List Nat) (q:List (Nat×Value)):Prop where
 closed:Closed .any ops listed
 un:∀i,listed.getD i true=false↔i∈p∨i∈pv∨i∈tl
 pn:p.Nodup
 ps:∀i∈p,i∈fx
 vn:(pv++q.map Prod.fst).Perm vsI
 eqA:fillF ops A1 a p=fillV ops A1 q
 qok:∀x∈q,V x.1 x.2 w
 bel:Below B W w
 dfr:a.defers=A1.defers
theorem core{A1:Act}{V:Nat→VP}{Z:List PanicEntry→World→Prop}{fx vsI tl:List Nat}(hsel:∀(j:Nat) (o:Oper) cs b,ops[j]? =some o→o.op≠.select cs b)(hB0:B≤W.heap.size)(sh:Shape ops fx vsI tl)(hvn:vsI.Nodup)
  (hZ:∀c (a':Act) w,a'.defers=A1.defers→Z c w→Q (.panic c) a' w)
  (hfx:∀i∈fx,∃o,ops[i]? =some o∧YG P ops B W o (valOf ops A1 i) A1)
  (hst:∀i∈vsI,∀v w w',V i v w→Below B W w→Below w.heap.size w w'→V i v w')
  (hvs:∀i∈vsI,∃o,ops[i]? =some o∧∀w,Below B W w→valsAt P (fun u w'=>Below w.heap.size w w'∧V i u w') Z ((execOp A1.eval o).run P w))
  (htl:∀t∈tl,(∀h∈fx++vsI,∃m,waitsT .any ops m t h=true)∨∃k∈vsI,(∃m,waitsT .any ops m t k=true)∧∀v w,¬V k v w)
  (hend:∀(listed:Array Bool) (q:List (Nat×Value)) (w:World),Below B W w→(q.map Prod.fst).Perm vsI→(∀x∈q,V x.1 x.2 w)→listed.size=ops.size→(∀i,listed.getD i true=false↔i∈tl)→wpAnyF P .any ops Q (Below B W) tl tl.length listed (fillV ops A1 q) w):
  ∀(k:Nat) (listed:Array Bool) (a:Act) (w:World) (p pv:List Nat) (q:List (Nat×Value)),k=p.length+pv.length→St P ops B W A1 V fx vsI tl listed a w p pv q→wpAnyF P .any ops Q (Below B W) tl (k+tl.length) listed a w:=by
 intro k;induction k with
 |zero=>
  intro listed a w p pv q hk st;have hp:p=[]:=List.length_eq_zero_iff.1 (by omega)
  have hpv:pv=[]:=List.length_eq_zero_iff.1 (by omega)
  subst hp hpv;have hA:a=fillV ops A1 q:=st.eqA;rw [Nat.zero_add,hA];exact hend listed q w st.bel (by simpa using st.vn) st.qok st.closed.1 (fun i=>by simpa using st.un i)
 |succ k ih=>
  intro listed a w p pv q hk st;rw [show k+1+tl.length=(k+tl.length)+1 by omega]
  have hqv:∀x∈q,x.1∈vsI:=fun x hx=>st.vn.mem_iff.1 (by simp;exact .inr ⟨x.2,hx⟩)
  have hvi:∀i∈pv,i∈vsI:=fun i hi=>st.vn.mem_iff.1 (by simp [hi])
  have hlt:∀i,i∈p∨i∈pv→i<ops.size:=fun i hi=>sh.all i (hi.elim (fun h=>.inl (st.ps i h)) (fun h=>.inr (.inl (hvi i h))))
  have hex:∃i,i∈p∨i∈pv:=by
   cases p with
   |cons i p=>exact ⟨i,.inl (by simp)⟩
   |nil=>
    cases pv with
    |cons i pv=>exact ⟨i,.inr (by simp)⟩
    |nil=>simp at hk
  have hne:Region.ready .any ops listed≠[]:=by
   obtain ⟨i,hi⟩:=hex;exact ready_ne sh st.closed.1 i (hlt i hi) ((st.un i).2 (hi.elim .inl (fun h=>.inr (.inl h))))
  refine ⟨fun h=>absurd h hne,fun i hi=> ?_⟩
  obtain ⟨hun,oi,hoi,hall⟩:=mem_ready.1 hi;have hdo:dstOf ops i=oi.dst:=by simp [dstOf,hoi]
  have evals:(i∈fx++vsI)→execOp a.eval oi=execOp A1.eval oi∧Region.wanted oi (yielded ops a.tmps)=Region.wanted oi (yielded ops A1.tmps):=by
   intro hh;have h1:=eval_fillF (A1:=A1) hoi (fun cs b=>hsel i oi cs b hoi) p a (fun j hj=>by
    rcases sh.bl1 i hh j (st.ps j hj) with h|⟨m,h⟩
    ·exact h
    ·exact absurd (waitsT_ready st.closed hi h) (fun h2=>not_both ((st.un j).2 (.inl hj)) h2))
   have h2:=eval_fillV hoi (fun cs b=>hsel i oi cs b hoi) q A1 (fun x hx=>sh.bl2 i hh x.1 (hqv x hx))
   rw [st.eqA] at h1;exact ⟨h1.1.symm.trans h2.1,h1.2.symm.trans h2.2⟩
  rcases (st.un i).1 hun with hip|hipv|hitl
  · -- a fixed one
   have hh:i∈fx++vsI:=by simp [st.ps i hip]
   obtain ⟨e1,e2⟩:=evals hh;obtain ⟨o',ho',hy⟩:=hfx i (st.ps i hip);rw [hoi] at ho';cases ho';refine wpOp_YG hoi e1 e2 hy st.bel fun w' hw'=>⟨fun _ hb=>hb.trans (hw'.mono (Nat.le_trans hB0 hb.size)), ?_⟩
   have hperm:p.Perm (i::p.erase i):=List.perm_cons_erase hip;refine ih _ _ w' (p.erase i) pv q (by have:=hperm.length_eq;simp at this;omega) ⟨st.closed.set hi,fun j=> ?_,st.pn.erase i,fun j hj=>st.ps j (List.mem_of_mem_erase hj),st.vn, ?_,fun x hx=>hst x.1 (hqv x hx) _ _ _ (st.qok x hx) st.bel hw',st.bel.trans (hw'.mono (Nat.le_trans hB0 st.bel.size)),(put_defers _ _ _).trans st.dfr⟩
   ·by_cases hij:i=j
    ·subst hij;have h1:i<listed.size:=by rw [st.closed.1];exact hlt i (.inl hip)
     have h2:i∉p.erase i:=fun h=>((List.Nodup.mem_erase_iff st.pn).1 h).1 rfl
     have h3:=sh.nodup;have h4:i∉vsI∧i∉tl:=by
      have h5:=st.ps i hip;simp only [List.nodup_append,List.mem_append] at h3;exact ⟨fun h=>h3.1.2.2 i h5 i h rfl,fun h=>h3.2.2 i (.inl h5) i h rfl⟩
     have h6:i∉pv:=fun h=>h4.1 (hvi i h)
     simp [h1,h2,h6,h4.2]
    ·rw [getD_set_ne true hij,st.un j];have:j∈p.erase i↔j∈p:=by rw [List.Nodup.mem_erase_iff st.pn];simp [Ne.symm hij]
     rw [this]
   ·have h1:=fillF_perm (A1:=A1) hperm (fun x hx y hy hxy=>sh.dst x (by simp [st.ps x hx]) y (by simp [st.ps y hy]) hxy) a
    rw [←st.eqA,h1,←hdo];rfl
  · -- one that is known by a predicate
   have hiv:=hvi i hipv;have hh:i∈fx++vsI:=by simp [hiv]
   obtain ⟨e1,e2⟩:=evals hh;obtain ⟨o',ho',hy⟩:=hvs i hiv;rw [hoi] at ho';cases ho';refine wpOp_vals hoi (sh.guard i hiv oi hoi) e1 (hy w st.bel) (fun c w' hz=>hZ c a w' st.dfr hz) fun u w' ⟨hw',hV⟩=>⟨fun _ hb=>hb.trans (hw'.mono (Nat.le_trans hB0 hb.size)), ?_⟩
   have hperm:pv.Perm (i::pv.erase i):=List.perm_cons_erase hipv;have hvn2:(pv.erase i++(q++[(i,u)]).map Prod.fst).Perm vsI:=by
    refine List.Perm.trans ?_ st.vn;rw [List.map_append,←List.append_assoc];refine List.Perm.trans List.perm_append_comm ?_;exact (List.Perm.append_right (q.map Prod.fst) hperm).symm
   have hpvn:pv.Nodup:=by
    have:=(st.vn.nodup_iff).2 hvn;exact (List.nodup_append.1 this).1
   refine ih _ _ w' p (pv.erase i) (q++[(i,u)]) (by have:=hperm.length_eq;simp at this;omega) ⟨st.closed.set hi,fun j=> ?_,st.pn,st.ps,hvn2, ?_,fun x hx=> ?_,st.bel.trans (hw'.mono (Nat.le_trans hB0 st.bel.size)),(put_defers _ _ _).trans st.dfr⟩
   ·by_cases hij:i=j
    ·subst hij;have h1:i<listed.size:=by rw [st.closed.1];exact hlt i (.inr hipv)
     have h2:i∉pv.erase i:=fun h=>((List.Nodup.mem_erase_iff hpvn).1 h).1 rfl
     have h3:=sh.nodup;simp only [List.nodup_append,List.mem_append] at h3;have h4:i∉p:=fun h=>h3.1.2.2 i (st.ps i h) i hiv rfl
     have h5:i∉tl:=fun h=>h3.2.2 i (.inr hiv) i h rfl
     simp [h1,h2,h4,h5]
    ·rw [getD_set_ne true hij,st.un j];have:j∈pv.erase i↔j∈pv:=by rw [List.Nodup.mem_erase_iff hpvn];simp [Ne.symm hij]
     rw [this]
   ·have h1:=fillF_put (A1:=A1) (ops:=ops) (d:=oi.dst) (v:=u) p a (fun j hj t ht=>by
     have h3:=sh.nodup;simp only [List.nodup_append,List.mem_append] at h3;have hne:i≠j:=fun h=>h3.1.2.2 j (st.ps j hj) i hiv h.symm
     exact sh.dst i hh j (by simp [st.ps j hj]) hne t (by rw [hdo];exact ht))
    rw [h1,st.eqA];exact fillV_put q A1 hdo
   ·rcases List.mem_append.1 hx with hx|hx
    ·exact hst x.1 (hqv x hx) _ _ _ (st.qok x hx) st.bel hw'
    ·have:x=(i,u):=by simpa using hx
     subst this;exact hV
  · -- the tail waits
   exfalso;obtain ⟨j,hj⟩:=hex;have hjh:j∈fx++vsI:=by
    rcases hj with h|h
    ·simp [st.ps j h]
    ·simp [hvi j h]
   have hju:listed.getD j true=false:=(st.un j).2 (hj.elim .inl (fun h=>.inr (.inl h)))
   rcases htl i hitl with h|⟨k',hk',⟨m,hm⟩,hV⟩
   ·obtain ⟨m,hm⟩:=h j hjh;exact not_both hju (waitsT_ready st.closed hi hm)
   ·have h1:=waitsT_ready st.closed hi hm;have h2:k'∈pv++q.map Prod.fst:=st.vn.mem_iff.2 hk';rcases List.mem_append.1 h2 with h2|h2
    ·exact not_both ((st.un k').2 (.inr (.inl h2))) h1
    ·obtain ⟨x,hx,rfl⟩:=List.mem_map.1 h2;exact hV _ _ (st.qok x hx)
theorem act_of_walk{C:World→Prop}{A1:Act}(hsel:∀(j:Nat) (o:Oper) cs b,ops[j]? =some o→o.op≠.select cs b):∀(c:List Nat) (l:List Oper) (a:Act),fitsN ops c l→wpQuiet P ops C (fun a'=>a'=A1) l a→
  c.Pairwise (fun i j=>blind ops i j=true∧∀t,dstOf ops i=some t→dstOf ops j≠some t)→(∀i∈c,blind ops i i=true∧∃d,dstOf ops i=some d∧d<a.tmps.size)→
  A1=fillF ops A1 a c
 |[],[],a,_,h,_,_=>by
  have h':a=A1:=h;subst h';rfl
 |[],_::_,_,hl,_,_,_=>hl.elim
 |_::_,[],_,hl,_,_,_=>hl.elim
 |j::c,o::l,a,hl,h,hp,hd=>by
  have hq:qOp P ops C j (wpQuiet P ops C (fun a'=>a'=A1) l) a:=by unfold qOp;simp only [hl.1];exact h
  obtain ⟨v,hy,hk⟩:=yieldsIn_of_qOp hl.1 hq;have hdo:dstOf ops j=o.dst:=by simp [dstOf,hl.1]
  obtain ⟨hp1,hp2⟩:=List.pairwise_cons.1 hp;obtain ⟨hb,d,hdd,hds⟩:=hd j (by simp)
  have h2:=walk_slot d c l (a.put o.dst v) hl.2 hk (fun k hk=>(hp1 k hk).2 d hdd)
  have hval:valOf ops A1 j=v:=by
   unfold valOf;rw [hdd];have h3:=h2.1;rw [←hdo,hdd] at h3;simp only [Array.getD_eq_getD_getElem?,h3];simp [Act.put,hds]
  have ih:=act_of_walk hsel c l (a.put o.dst v) hl.2 hk hp2 (fun k hk=>by
   obtain ⟨h1,d,h2,h3⟩:=hd k (by simp [hk])
   exact ⟨h1,d,h2,by cases o.dst<;>simpa [Act.put] using h3⟩)
  show A1=fillF ops A1 (a.put (dstOf ops j) (valOf ops A1 j)) c
  rw [hval,hdo];exact ih
def pairsB(ops:Array Oper):List Nat→Bool
 |[]=>true
 |i::c=>(c.all fun j=>blind ops i j&&(match dstOf ops i with
  |some t=>dstOf ops j !=some t
  |none=>true))&&pairsB ops c
def floatB(ops:Array Oper):List Nat→Array Bool→Bool
 |[],_=>true
 |i::r,listed=>(Region.ready .any ops listed).contains i&&Region.free .any ops listed i&&(match ops[i]? with
  |some o=>pureOp o
  |none=>false)&&floatB ops r (listed.setIfInBounds i true)
def regB(ops:Array Oper)(ntmps:Nat)(fl fx:List Nat)(vs:List (Nat×Tmp))(tl:List Nat)(halt:Option Nat):Bool:=
 Region.noSelect ops&&
 decide ((fl++(fx++vs.map Prod.fst++tl)).Nodup)&&(List.range ops.size).all (fun i=>(fl++(fx++vs.map Prod.fst++tl)).contains i)&&(fl++(fx++vs.map Prod.fst++tl)).all (fun i=>decide (i<ops.size))&&
 (List.range ops.size).all (fun i=>match ops[i]? with
  |some o=>o.after.all fun e=> !Region.binds .any e||decide (e.on<i)
  |none=>true)&&
 (fx++vs.map Prod.fst).all (fun i=>fx.all fun j=>blind ops i j||waitsT .any ops ops.size i j)&&
 (fx++vs.map Prod.fst).all (fun i=>(vs.map Prod.fst).all fun j=>blind ops i j)&&
 (fx++vs.map Prod.fst).all (fun i=>(fx++vs.map Prod.fst).all fun j=>i==j||match dstOf ops i with
  |some t=>dstOf ops j !=some t
  |none=>true)&&
 vs.all (fun x=>(match ops[x.1]? with
  |some o=>o.guard.isNone
  |none=>false)&&dstOf ops x.1==some x.2)&&
 (match halt with
  |none=>(tl.all fun t=>(fx++vs.map Prod.fst).all fun h=>waitsT .any ops ops.size t h)&&seqT ops tl ((Array.range ops.size).map fun i=> !tl.contains i)
  |some k=>(vs.map Prod.fst).contains k&&tl.all fun t=>waitsT .any ops ops.size t k)&&
 (fl++fx).all (fun i=>blind ops i i&&match dstOf ops i with
  |some d=>decide (d<ntmps)
  |none=>false)&&
 pairsB ops (fl++fx)&&floatB ops fl (Array.replicate ops.size false)&&fl.all (fun i=>(fl++fx).all fun j=>blind ops i j)
theorem pairsB_spec:∀c:List Nat,pairsB ops c=true→c.Pairwise (fun i j=>blind ops i j=true∧∀t,dstOf ops i=some t→dstOf ops j≠some t)
 |[],_=>List.Pairwise.nil
 |i::c,h=>by
  simp only [pairsB,Bool.and_eq_true,List.all_eq_true] at h;refine List.pairwise_cons.2 ⟨fun j hj=>⟨(h.1 j hj).1,fun t ht=> ?_⟩,pairsB_spec c h.2⟩
  have:=(h.1 j hj).2;rw [ht] at this;simpa using this
theorem pure_yields{o:Oper}{v:Value}{A a:Act}(hp:pureOp o=true)(hy:YG P ops B W o v A)(e1:execOp a.eval o=execOp A.eval o)(e2:Region.wanted o (yielded ops a.tmps)=Region.wanted o (yielded ops A.tmps)):
  YieldsC P ops (fun _=>True) o v a:=by
 rcases hy with ⟨h1,h2⟩|h
 ·refine .inl ⟨e2.trans h1,fun w _=> ?_⟩
  have h3:=h2 W (Below.refl _ _);rw [e1];unfold pureOp at hp;unfold execOp at h3 ⊢;split at hp<;>rename_i ho<;>simp only [ho] at h3 ⊢
  ·obtain ⟨_,h4⟩:=h3;exact ⟨rfl,h4⟩
  ·obtain ⟨_,h4⟩:=h3;exact ⟨rfl,h4⟩
  ·cases hp
 ·exact .inr ⟨e2.trans h.1,h.2⟩
theorem float_first{A1:Act}{S:World→Prop}{tl:List Nat}(hsel:Region.noSelect ops=true)(hQ:∀c a a' w,Act.defers a=Act.defers a'→Q (.panic c) a w→Q (.panic c) a' w):
  ∀(fl:List Nat) (k:Nat) (listed:Array Bool) (a:Act) (w:World),Closed .any ops listed→floatB ops fl listed=true→
   (∀i∈fl,∃o,ops[i]? =some o∧YG P ops B W o (valOf ops A1 i) A1∧execOp a.eval o=execOp A1.eval o∧Region.wanted o (yielded ops a.tmps)=Region.wanted o (yielded ops A1.tmps))→(∀i∈fl,∀j∈fl,blind ops i j=true)→
   (∀listed',Closed .any ops listed'→listed'=fl.foldl (fun s i=>s.setIfInBounds i true) listed→wpAnyF P .any ops Q S tl k listed' (fillF ops A1 a fl) w)→wpAnyF P .any ops Q S tl (fl.length+k) listed a w
 |[],k,listed,a,w,inv,_,_,_,h=>by rw [List.length_nil,Nat.zero_add];exact h listed inv rfl
 |i::fl,k,listed,a,w,inv,hB,hy,hb,h=>by
  obtain ⟨o,ho,hyi,e1,e2⟩:=hy i (by simp)
  simp only [floatB,ho,Bool.and_eq_true] at hB;obtain ⟨⟨⟨h1,h2⟩,h3⟩,h4⟩:=hB;have hri:i∈Region.ready .any ops listed:=by simpa using h1
  have hdo:dstOf ops i=o.dst:=by simp [dstOf,ho]
  rw [show (i::fl).length+k=(fl.length+k)+1 by simp;omega]
  refine wpAnyF_first ho (Region.noSelect_spec hsel) (fun c a d v w=>hQ c _ _ w (put_defers a d v)) _ _ _ _ inv (Region.free_spec ho h2) hri (pure_yields h3 hyi e1 e2) (.inl fun _=>trivial) ?_
  refine float_first (A1:=A1) hsel hQ fl k _ _ w (inv.set hri) h4 (fun j hj=> ?_) (fun x hx y hy=>hb x (by simp [hx]) y (by simp [hy])) (fun listed' hc he=> ?_)
  ·obtain ⟨o',ho',hy',f1,f2⟩:=hy j (by simp [hj])
   have hbl:=blind_spec ho' (hb j (by simp [hj]) i (by simp))
   rw [hdo] at hbl;exact ⟨o',ho',hy',(execOp_put o' (fun cs b=>Region.noSelect_spec hsel j o' cs b ho') a _ _ hbl).trans f1,(wanted_put o' a _ _ hbl).trans f2⟩
  ·have h5:=h listed' hc he;have h6:fillF ops A1 a (i::fl)=fillF ops A1 (a.put o.dst (valOf ops A1 i)) fl:=by
    show fillF ops A1 (a.put (dstOf ops i) (valOf ops A1 i)) fl=_
    rw [hdo]
   rw [h6] at h5;exact h5
def selN(l:List Oper):List Nat→List Oper
 |[]=>[]
 |i::c=>match l.drop i with
  |[]=>selN l c
  |o::_=>o::selN l c
theorem fits_selN{l:List Oper}:∀c:List Nat,(∀i∈c,i<l.length)→fitsN l.toArray c (selN l c)
 |[],_=>trivial
 |i::c,h=>by
  have ih:=fits_selN c (fun j hj=>h j (by simp [hj]))
  have hi:=h i (by simp)
  unfold selN;cases hd:l.drop i with
  |nil=>simp at hd;omega
  |cons o r=>
   refine ⟨?_,ih⟩;have:(l.drop i)[0]? =some o:=by rw [hd];rfl
   rw [List.getElem?_drop] at this;simpa using this
theorem set_fold:∀(fl:List Nat) (listed:Array Bool) (i:Nat),(fl.foldl (fun s i=>s.setIfInBounds i true) listed).getD i true=(if i∈fl then true else listed.getD i true)∧(fl.foldl (fun s i=>s.setIfInBounds i true) listed).size=listed.size
 |[],_,_=>by simp
 |j::fl,listed,i=>by
  obtain ⟨h1,h2⟩:=set_fold fl (listed.setIfInBounds j true) i;refine ⟨?_,by rw [List.foldl_cons,h2];simp⟩
  rw [List.foldl_cons,h1];by_cases hi:i∈fl
  ·simp [hi]
  ·by_cases hij:j=i
   ·subst hij;rcases Nat.lt_or_ge j listed.size with h|h
    ·simp [h]
    ·simp [hi]
   ·rw [if_neg hi,getD_set_ne true hij];simp [hi,Ne.symm hij]
theorem region_reg{id:Nat}{a:Act}{w:World}{l:List Oper}(ntmps:Nat)(fl fx:List Nat)(vs:List (Nat×Tmp))(tl:List Nat)(halt:Option Nat)(A1:Act)(V:Nat→VP)(Z:List PanicEntry→World→Prop)
  (hm:P.follows .mixedOrders=true) (hB:regB l.toArray ntmps fl fx vs tl halt=true) (hnt:ntmps≤a.tmps.size)
  (hQ:∀c a a' w,Act.defers a=Act.defers a'→Q (.panic c) a w→Q (.panic c) a' w)
  (h1:∀(I:Type) (F:I→World),Nonempty I→((∀i u,Below (F i).heap.size (F i) u→∃j,u=F j)∧∀i,Below w.heap.size w (F i))→wpQuiet P l.toArray (fun u=>∃i,u=F i) (fun a'=>a'=A1) (selN l (fl++fx)) a)
  (hst:∀x∈vs,∀v u u',V x.1 v u→Below w.heap.size w u→Below u.heap.size u u'→V x.1 v u')
  (hvs:∀x∈vs,∀o∈selN l [x.1],∀u,Below w.heap.size w u→valsAt P (fun v u'=>Below u.heap.size u u'∧V x.1 v u') Z ((execOp A1.eval o).run P u))
  (hZ:∀c (a':Act) u,a'.defers=a.defers→Z c u→Q (.panic c) a' u)
  (hhalt:∀k,halt=some k→∀v u,¬V k v u)
  (hend:halt=none→∀(f:Nat→Value) u,Below w.heap.size w u→(∀x∈vs,V x.1 (f x.1) u)→wpList P l.toArray Q (selN l tl) (vs.foldl (fun a x=>a.put (some x.2) (f x.1)) A1) u):(Code.region id l.toArray true).wp P Q a w:=by
 simp only [regB,Bool.and_eq_true,List.all_eq_true,decide_eq_true_eq,List.mem_range,Bool.or_eq_true] at hB;obtain ⟨⟨⟨⟨⟨⟨⟨⟨⟨⟨⟨⟨⟨c1,c2⟩,c3⟩,c4⟩,c5⟩,c6⟩,c7⟩,c8⟩,c9⟩,c10⟩,c11⟩,c12⟩,c13⟩,c14⟩:=hB;have hsel:=Region.noSelect_spec c1;have hlen:l.toArray.size=l.length:=by simp
 have c4':∀i∈fl++(fx++vs.map Prod.fst++tl),i<l.length:=fun i hi=>by have:=c4 i hi;omega
 have hfits:∀c:List Nat,(∀i∈c,i∈fl++(fx++vs.map Prod.fst++tl))→fitsN l.toArray c (selN l c):=fun c hc=>fits_selN c (fun i hi=>c4' i (hc i hi))
 have hff:=hfits (fl++fx) (fun i hi=>by simp at hi ⊢;rcases hi with h|h<;>simp [h])
 have hpair:=pairsB_spec _ c12;have hdd:∀i∈fl++fx,blind l.toArray i i=true∧∃d,dstOf l.toArray i=some d∧d<a.tmps.size:=fun i hi=>by
  have:=c11 i hi;refine ⟨this.1, ?_⟩;cases hd:dstOf l.toArray i with
  |none=>rw [hd] at this;cases this.2
  |some d=>
   rw [hd] at this;have h2:d<ntmps:=by simpa using this.2
   exact ⟨d,rfl,Nat.lt_of_lt_of_le h2 hnt⟩
 have hfixed:=fixed_all (P:=P) (B:=w.heap.size) (W:=w) hsel (fl++fx) _ a hff h1 hpair hdd (Nat.le_refl _);have hA0:=act_of_walk hsel (fl++fx) _ a hff (h1 { u:World // Below w.heap.size w u } (fun x=>x.1) ⟨⟨w,Below.refl _ _⟩⟩ ⟨fun x u hu=>⟨⟨u,x.2.trans (hu.mono x.2.size)⟩,rfl⟩,fun x=>x.2⟩) hpair hdd
 have hslot:=walk_slot (A1:=A1) ntmps [] [] A1 trivial (C:=fun _=>True) (P:=P) (ops:=l.toArray) rfl (by simp)
 have hdefA:A1.defers=a.defers:=by
  have key:∀(c:List Nat) (b:Act),(fillF l.toArray A1 b c).defers=b.defers:=by
   intro c;induction c with
   |nil=>intro b;rfl
   |cons i c ih=>intro b;show (fillF l.toArray A1 (b.put _ _) c).defers=b.defers;rw [ih,put_defers]
  rw [hA0];exact key _ _
 -- the shape of what is left behind the floaters
 have hnd:=List.nodup_append.1 c2;have sh:Shape l.toArray fx (vs.map Prod.fst) tl:=by
  refine ⟨hnd.2.1,fun i hi=>c4 i (by simp at hi ⊢;rcases hi with h|h|h<;>simp [h]),fun i o ho e he hb=> ?_,fun i hi j hj=> ?_,fun i hi j hj=>c7 i hi j hj,fun i hi j hj hne t ht=> ?_,fun i hi o ho=> ?_⟩
  ·have hi:i<l.toArray.size:=(Array.getElem?_eq_some_iff.1 ho).1;have h2:=c5 i hi;rw [ho] at h2;have h3:=Array.all_eq_true'.1 h2 e he;simp [hb] at h3;exact h3
  ·rcases c6 i hi j hj with h|h
   ·exact .inl h
   ·exact .inr ⟨_,h⟩
  ·have h2:=c8 i hi j hj;rw [ht] at h2;simpa [hne] using h2
  ·obtain ⟨x,hx,rfl⟩:=List.mem_map.1 hi;have h2:=(c9 x hx).1;rw [ho] at h2;simpa using h2
 have hvn:(vs.map Prod.fst).Nodup:=(List.nodup_append.1 (List.nodup_append.1 hnd.2.1).1).2.1;have hfx:∀i∈fx,∃o,l.toArray[i]? =some o∧YG P l.toArray w.heap.size w o (valOf l.toArray A1 i) A1:=fun i hi=>hfixed i (by simp [hi])
 have hopAt:∀i,i<l.length→∃o,l.toArray[i]? =some o∧selN l [i]=[o]:=fun i hi=>by
  have h2:=fits_selN (l:=l) [i] (by simpa using hi)
  unfold selN at h2 ⊢;cases hd:l.drop i with
  |nil=>simp at hd;omega
  |cons o r=>rw [hd] at h2;exact ⟨o,h2.1,rfl⟩
 have hvs':∀i∈vs.map Prod.fst,∃o,l.toArray[i]? =some o∧∀u,Below w.heap.size w u→valsAt P (fun v u'=>Below u.heap.size u u'∧V i v u') Z ((execOp A1.eval o).run P u):=fun i hi=>by
  obtain ⟨x,hx,rfl⟩:=List.mem_map.1 hi;obtain ⟨o,ho,hs⟩:=hopAt x.1 (c4' _ (by simp;exact .inr (.inr (.inl ⟨x.2,hx⟩))))
  exact ⟨o,ho,hvs x hx o (by rw [hs];simp)⟩
 have hst':∀i∈vs.map Prod.fst,∀v u u',V i v u→Below w.heap.size w u→Below u.heap.size u u'→V i v u':=fun i hi=>by
  obtain ⟨x,hx,rfl⟩:=List.mem_map.1 hi;exact hst x hx
 have htl:∀t∈tl,(∀h∈fx++vs.map Prod.fst,∃m,waitsT .any l.toArray m t h=true)∨∃k∈vs.map Prod.fst,(∃m,waitsT .any l.toArray m t k=true)∧∀v u,¬V k v u:=fun t ht=>by
  cases hh:halt with
  |none=>
   rw [hh] at c10;simp only [Bool.and_eq_true,List.all_eq_true] at c10;exact .inl fun h hm=>⟨_,c10.1 t ht h hm⟩
  |some k=>
   rw [hh] at c10;simp only [Bool.and_eq_true,List.all_eq_true] at c10;exact .inr ⟨k,by simpa using c10.1,⟨_,c10.2 t ht⟩,hhalt k hh⟩
 have hfin:∀(listed:Array Bool) (q:List (Nat×Value)) (u:World),Below w.heap.size w u→(q.map Prod.fst).Perm (vs.map Prod.fst)→(∀x∈q,V x.1 x.2 u)→listed.size=l.toArray.size→(∀i,listed.getD i true=false↔i∈tl)→
   wpAnyF P .any l.toArray Q (Below w.heap.size w) tl tl.length listed (fillV l.toArray A1 q) u:=by
  intro listed q u hu hq hqv hls hun;cases hh:halt with
  |some k=>
   exfalso;rw [hh] at c10;simp only [Bool.and_eq_true,List.all_eq_true] at c10;have hk:k∈q.map Prod.fst:=hq.mem_iff.2 (by simpa using c10.1)
   obtain ⟨x,hx,rfl⟩:=List.mem_map.1 hk;exact hhalt _ hh _ _ (hqv x hx)
  |none=>
   rw [hh] at c10;simp only [Bool.and_eq_true,List.all_eq_true] at c10;have hL:listed=(Array.range l.toArray.size).map fun i=> !tl.contains i:=by
    refine Array.ext (by simpa using hls) (fun i hi1 hi2=> ?_)
    have h2:=hun i;simp [hi1] at h2;simp;by_cases hi:i∈tl
    ·simp [hi,h2.2 hi]
    ·have h3:¬listed[i]=false:=fun h=>hi (h2.1 h)
     simp [hi];simpa using h3
   refine wpAnyF_seq tl (selN l tl) listed _ u (hfits tl (fun i hi=>by simp [hi])) (fun t ht=>ht) (by rw [hL];exact c10.2) ?_
   -- the values by number
   have hqn:(q.map Prod.fst).Nodup:=(hq.nodup_iff).2 hvn;obtain ⟨f,hf⟩:∃f:Nat→Value,∀x∈q,f x.1=x.2:=by
    refine ⟨fun i=>((q.find? fun x=>x.1==i).map Prod.snd).getD undef,fun x hx=> ?_⟩
    have:q.find? (fun y=>y.1==x.1)=some x:=by
     clear hq hqv;induction q with
     |nil=>cases hx
     |cons y q ih=>
      simp only [List.map_cons,List.nodup_cons] at hqn;by_cases hyx:y.1=x.1
      ·rcases List.mem_cons.1 hx with h|h
       ·subst h;simp
       ·exact absurd (List.mem_map.2 ⟨x,h,hyx.symm⟩) hqn.1
      ·have hx':x∈q:=by
        rcases List.mem_cons.1 hx with h|h
        ·subst h;exact absurd rfl hyx
        ·exact h
       rw [List.find?_cons_of_neg (by simpa using hyx)]
       exact ih hqn.2 hx'
    simp [this]
   have hq2:q=(q.map Prod.fst).map fun i=>(i,f i):=by
    rw [List.map_map]
    conv=>lhs;rw [←List.map_id q]
    exact List.map_congr_left fun x hx=>by simp [hf x hx]
   have hperm:q.Perm ((vs.map Prod.fst).map fun i=>(i,f i)):=by
    rw [hq2];exact hq.map _
   have hfill:fillV l.toArray A1 q=vs.foldl (fun a x=>a.put (some x.2) (f x.1)) A1:=by
    rw [fillV_perm hperm (fun x hx y hy hxy t ht=> ?_) A1]
    ·have key:∀(c:List (Nat×Tmp)) (b:Act),(∀x∈c,dstOf l.toArray x.1=some x.2)→fillV l.toArray b ((c.map Prod.fst).map fun i=>(i,f i))=c.foldl (fun a x=>a.put (some x.2) (f x.1)) b:=by
      intro c;induction c with
      |nil=>intro b _;rfl
      |cons x c ih=>
       intro b hc;show fillV l.toArray (b.put (dstOf l.toArray x.1) (f x.1)) _=_
       rw [hc x (by simp),ih _ (fun y hy=>hc y (by simp [hy]))]
       rfl
     exact key vs A1 (fun x hx=>by simpa using (c9 x hx).2)
    ·have hxm:=hq.mem_iff.1 (List.mem_map.2 ⟨x,hx,rfl⟩);have hym:=hq.mem_iff.1 (List.mem_map.2 ⟨y,hy,rfl⟩);have hne:x.1≠y.1:=fun h=>hxy (by
      have h2:=hf x hx;have h3:=hf y hy;rw [h] at h2;exact Prod.ext h (h2.symm.trans h3))
     exact sh.dst x.1 (by simp only [List.mem_append];exact .inr hxm) y.1 (by simp only [List.mem_append];exact .inr hym) hne t ht
   rw [hfill];refine hend hh f u hu fun x hx=> ?_
   have hxm:x.1∈q.map Prod.fst:=hq.mem_iff.2 (List.mem_map.2 ⟨x,hx,rfl⟩);obtain ⟨y,hy,hyx⟩:=List.mem_map.1 hxm;have:=hqv y hy;rw [←hf y hy,hyx] at this;exact this
 refine wp_region_any hm ?_;change wpAny P .any l.toArray Q _ _ a w.drew;have hcl0:Closed .any l.toArray (Array.replicate l.toArray.size false):=⟨by simp,fun j oj _ hl=>(by rw [getD_replicate_false] at hl;cases hl)⟩
 have hlenp:l.toArray.size=fl.length+((fx.length+(vs.map Prod.fst).length)+tl.length):=by
  have h2:(fl++(fx++vs.map Prod.fst++tl)).Perm (List.range l.toArray.size):=by
   refine (List.perm_ext_iff_of_nodup c2 List.nodup_range).2 fun i=>⟨fun hi=>List.mem_range.2 (c4 i hi),fun hi=> ?_⟩
   have:=c3 i (List.mem_range.1 hi);simpa using this
  have h3:=h2.length_eq;simp only [List.length_append,List.length_range] at h3;omega
 have hblf:∀i∈fl,∀j∈fl++fx,blind l.toArray i j=true:=fun i hi j hj=>c14 i hi j hj
 have hF:=float_first (P:=P) (B:=w.heap.size) (W:=w) (S:=Below w.heap.size w) (tl:=tl) (A1:=A1) c1 hQ fl ((fx.length+(vs.map Prod.fst).length)+tl.length) (Array.replicate l.toArray.size false) a w.drew hcl0 c13
  (fun i hi => by
   obtain ⟨o,ho,hy⟩:=hfixed i (by simp [hi])
   have h2:=eval_fillF (A1:=A1) ho (fun cs b=>hsel i o cs b ho) (fl++fx) a (fun j hj=>hblf i hi j hj)
   rw [←hA0] at h2;exact ⟨o,ho,hy,h2.1.symm,h2.2.symm⟩)
  (fun i hi j hj=>hblf i hi j (by simp [hj])) ?_
 ·have h9:=wpAny_of_F _ _ _ _ hF;rw [←hlenp] at h9;exact h9
 ·intro listed hc he;refine core (Z:=Z) (V:=V) (fx:=fx) (vsI:=vs.map Prod.fst) hsel (Nat.le_refl _) sh hvn (fun c a' u hd hz=>hZ c a' u (hd.trans hdefA) hz) hfx hst' hvs' htl hfin _ listed _ w.drew fx (vs.map Prod.fst) [] rfl
   ⟨hc,fun i=> ?_,(List.nodup_append.1 (List.nodup_append.1 hnd.2.1).1).1,fun i hi=>hi,by simp, ?_,by simp,(Below.refl _ _).drew, ?_⟩
  ·rw [he,(set_fold fl _ i).1];by_cases hi:i∈fl
   ·have h2:¬(i∈fx∨i∈vs.map Prod.fst∨i∈tl):=fun h=>hnd.2.2 i hi i (by simp only [List.mem_append];rcases h with h|h|h<;>simp [h]) rfl
    simp only [hi,if_true];exact ⟨fun h=>(by cases h),fun h=>absurd h h2⟩
   ·rw [if_neg hi];rcases Nat.lt_or_ge i l.toArray.size with h|h
    ·have h2:=c3 i h;simp only [List.contains_iff_mem,List.mem_append,hi,false_or] at h2;rw [getD_in (by simpa using h) (getD_replicate_false _ _)]
     simp only [true_iff];rcases h2 with (h2|h2)|h2<;>simp [h2]
    ·have h2:¬(i∈fx∨i∈vs.map Prod.fst∨i∈tl):=fun h2=>by
      have:=c4 i (by simp only [List.mem_append];rcases h2 with h2|h2|h2<;>simp [h2])
      omega
     have h3:(Array.replicate l.toArray.size false).getD i true=true:=by
      rw [Array.getD_eq_getD_getElem?,Array.getElem?_eq_none (by simpa using h)];rfl
     rw [h3];exact ⟨fun h=>(by cases h),fun h=>absurd h h2⟩
  ·have h2:fillF l.toArray A1 (fillF l.toArray A1 a fl) fx=fillF l.toArray A1 a (fl++fx):=by unfold fillF;rw [List.foldl_append]
   rw [h2,←hA0];rfl
  ·have key:∀(c:List Nat) (b:Act),(fillF l.toArray A1 b c).defers=b.defers:=by
    intro c;induction c with
    |nil=>intro b;rfl
    |cons i c ih=>intro b;show (fillF l.toArray A1 (b.put _ _) c).defers=b.defers;rw [ih,put_defers]
   rw [key,hdefA]
def Fam(w:World){I:Type}(F:I→World):Prop:=(∀i u,Below (F i).heap.size (F i) u→∃j,u=F j)∧∀i,Below w.heap.size w (F i)
theorem Fam.on{w0 w:World}{I:Type}{F:I→World}(hF:Fam w F)(h:Below w0.heap.size w0 w)(i:I):Below w0.heap.size w0 (F i):=h.trans ((hF.2 i).mono h.size)
theorem Fam.call{w:World}{I:Type}{F:I→World}(hF:Fam w F){f:FuncId}{args:Array Value}{i:I}{v:Value}(h:Calls P f args (F i) fun e w'=>e=.returned v∧Below (F i).heap.size (F i) w'):
  Calls P f args (F i) fun e w''=>e=.returned v∧∃j,w''=F j:=h.mono fun _ w' ⟨he,hb⟩=>⟨he,hF.1 i w' hb⟩
theorem Fam.same{w:World}{I:Type}{F:I→World}(_hF:Fam w F){f:FuncId}{args:Array Value}{i:I}{v:Value}(h:Calls P f args (F i) fun e w'=>e=.returned v∧F i=w'):
  Calls P f args (F i) fun e w''=>e=.returned v∧∃j,w''=F j:=h.mono fun _ _ ⟨he,hb⟩=>⟨he,i,hb.symm⟩
theorem Fam.cell{w:World}{I:Type}{F:I→World}(hF:Fam w F){b o:Nat}{v:Value}(hb:b<w.heap.size)(h:w.cell? ⟨b,o,none⟩=some v)(i:I):(F i).cell? ⟨b,o,none⟩=some v:=
 ((hF.2 i).cell (p:=⟨b,o,none⟩) hb).trans h
theorem region_v0{id:Nat}{a:Act}{w:World}{l:List Oper}(ntmps:Nat)(fl fx tl:List Nat)(A1:Act)
  (hm:P.follows .mixedOrders=true) (hB:regB l.toArray ntmps fl fx [] tl none=true) (hnt:ntmps≤a.tmps.size)
  (hQ:∀c a a' w,Act.defers a=Act.defers a'→Q (.panic c) a w→Q (.panic c) a' w)
  (h1:∀(I:Type) (F:I→World),Nonempty I→Fam w F→wpQuiet P l.toArray (fun u=>∃i,u=F i) (fun a'=>a'=A1) (selN l (fl++fx)) a)
  (hend:∀u,Below w.heap.size w u→wpList P l.toArray Q (selN l tl) A1 u):(Code.region id l.toArray true).wp P Q a w:=
 region_reg ntmps fl fx [] tl none A1 (fun _ _ _=>True) (fun _ _=>False) hm hB hnt hQ h1 (fun x hx=>by cases hx) (fun x hx=>by cases hx) (fun _ _ _ _ h=>h.elim) (fun k hk=>by cases hk) (fun _ _ u hu _=>hend u hu)
theorem region_v1{id:Nat}{a:Act}{w:World}{l:List Oper}(ntmps:Nat)(fl fx:List Nat)(k:Nat)(d:Tmp)(tl:List Nat)(A1:Act)(V:VP)
  (hm:P.follows .mixedOrders=true) (hB:regB l.toArray ntmps fl fx [(k,d)] tl none=true) (hnt:ntmps≤a.tmps.size)
  (hQ:∀c a a' w,Act.defers a=Act.defers a'→Q (.panic c) a w→Q (.panic c) a' w)
  (h1:∀(I:Type) (F:I→World),Nonempty I→Fam w F→wpQuiet P l.toArray (fun u=>∃i,u=F i) (fun a'=>a'=A1) (selN l (fl++fx)) a)
  (hst:∀v u u',V v u→Below w.heap.size w u→Below u.heap.size u u'→V v u')
  (hv:∀o∈selN l [k],∀u,Below w.heap.size w u→valsAt P (fun v u'=>Below u.heap.size u u'∧V v u') (fun _ _=>False) ((execOp A1.eval o).run P u))
  (hend:∀v u,Below w.heap.size w u→V v u→wpList P l.toArray Q (selN l tl) (A1.put (some d) v) u):(Code.region id l.toArray true).wp P Q a w:=
 region_reg ntmps fl fx [(k,d)] tl none A1 (fun _=>V) (fun _ _=>False) hm hB hnt hQ h1 (fun _ _=>hst) (fun x hx=>by
  have:x=(k,d):=by simpa using hx
  subst this;exact hv) (fun _ _ _ _ h=>h.elim) (fun k hk=>by cases hk) (fun _ f u hu hV=>hend (f k) u hu (hV (k,d) (by simp)))
theorem region_v2{id:Nat}{a:Act}{w:World}{l:List Oper}(ntmps:Nat)(fl fx:List Nat)(k1:Nat)(d1:Tmp)(k2:Nat)(d2:Tmp)(tl:List Nat)(A1:Act)(V1 V2:VP)
  (hm:P.follows .mixedOrders=true) (hne:k1≠k2) (hB:regB l.toArray ntmps fl fx [(k1,d1),(k2,d2)] tl none=true) (hnt:ntmps≤a.tmps.size)
  (hQ:∀c a a' w,Act.defers a=Act.defers a'→Q (.panic c) a w→Q (.panic c) a' w)
  (h1:∀(I:Type) (F:I→World),Nonempty I→Fam w F→wpQuiet P l.toArray (fun u=>∃i,u=F i) (fun a'=>a'=A1) (selN l (fl++fx)) a)
  (hs1:∀v u u',V1 v u→Below w.heap.size w u→Below u.heap.size u u'→V1 v u') (hs2:∀v u u',V2 v u→Below w.heap.size w u→Below u.heap.size u u'→V2 v u')
  (hv1:∀o∈selN l [k1],∀u,Below w.heap.size w u→valsAt P (fun v u'=>Below u.heap.size u u'∧V1 v u') (fun _ _=>False) ((execOp A1.eval o).run P u))
  (hv2:∀o∈selN l [k2],∀u,Below w.heap.size w u→valsAt P (fun v u'=>Below u.heap.size u u'∧V2 v u') (fun _ _=>False) ((execOp A1.eval o).run P u))
  (hend:∀v1 v2 u,Below w.heap.size w u→V1 v1 u→V2 v2 u→wpList P l.toArray Q (selN l tl) ((A1.put (some d1) v1).put (some d2) v2) u):(Code.region id l.toArray true).wp P Q a w:=
 region_reg ntmps fl fx [(k1,d1),(k2,d2)] tl none A1 (fun i=>if i=k1 then V1 else V2) (fun _ _=>False) hm hB hnt hQ h1 (fun x hx=>by
   rcases (by simpa using hx:x=(k1,d1)∨x=(k2,d2)) with rfl|rfl
   ·simpa using hs1
   ·simpa [Ne.symm hne] using hs2) (fun x hx=>by
   rcases (by simpa using hx:x=(k1,d1)∨x=(k2,d2)) with rfl|rfl
   ·simpa using hv1
   ·simpa [Ne.symm hne] using hv2) (fun _ _ _ _ h=>h.elim) (fun k hk=>by cases hk)
  (fun _ f u hu hV=>hend (f k1) (f k2) u hu (by simpa using hV (k1,d1) (by simp)) (by simpa [Ne.symm hne] using hV (k2,d2) (by simp)))
theorem region_vh{id:Nat}{a:Act}{w:World}{l:List Oper}(ntmps:Nat)(fl fx:List Nat)(vs:List (Nat×Tmp))(k:Nat)(d:Tmp)(tl:List Nat)(A1:Act)(Z:List PanicEntry→World→Prop)
  (hm:P.follows .mixedOrders=true) (hk:(vs.all fun x=>x.1 !=k)=true) (hB:regB l.toArray ntmps fl fx ((k,d)::vs) tl (some k)=true) (hnt:ntmps≤a.tmps.size)
  (hQ:∀c a a' w,Act.defers a=Act.defers a'→Q (.panic c) a w→Q (.panic c) a' w)
  (h1:∀(I:Type) (F:I→World),Nonempty I→Fam w F→wpQuiet P l.toArray (fun u=>∃i,u=F i) (fun a'=>a'=A1) (selN l (fl++fx)) a)
  (hv:∀o∈selN l [k],∀u,Below w.heap.size w u→valsAt P (fun _ _=>False) Z ((execOp A1.eval o).run P u))
  (hvs:∀x∈vs,∀o∈selN l [x.1],∀u,Below w.heap.size w u→valsAt P (fun _ u'=>Below u.heap.size u u') Z ((execOp A1.eval o).run P u))
  (hZ:∀c (a':Act) u,a'.defers=a.defers→Z c u→Q (.panic c) a' u):(Code.region id l.toArray true).wp P Q a w:=by
 have hvk:∀x∈vs,x.1≠k:=fun x hx=>by simpa using List.all_eq_true.1 hk x hx
 refine region_reg ntmps fl fx ((k,d)::vs) tl (some k) A1 (fun i _ _=>i≠k) Z hm hB hnt hQ h1 (fun _ _ _ _ _ h _ _=>h) (fun x hx o ho u hu=> ?_) hZ (fun k' hk' v u h=>h (by cases hk';rfl)) (fun h=>by cases h)
 have vmono:∀(R R':VP) (r:Result Next),(∀v u,R v u→R' v u)→valsAt P R Z r→valsAt P R' Z r:=fun R R' r hR h=>by
  cases r with
  |ok n w'=>
   cases n<;>simp only [valsAt] at h ⊢
   case value v=>exact hR _ _ h
   case enter f args=>exact h.mono fun e w'' he=>he.imp (fun ⟨u,h1,h2⟩=>⟨u,h1,hR _ _ h2⟩) (fun h=>h)
  |halt x w'=>cases x<;>simp only [valsAt] at h ⊢<;>exact h
 rcases List.mem_cons.1 hx with h|h
 ·subst h;exact vmono _ _ _ (fun _ _ h=>h.elim) (hv o ho u hu)
 ·exact vmono _ _ _ (fun _ _ hb=>⟨hb,hvk x h⟩) (hvs x h o ho u hu)
end
end Pl
namespace Row
def Fence(p:Prop):Prop:=p
theorem fence{p:Prop}(h:Fence p):p:=h
theorem unfence{p:Prop}(h:p):Fence p:=h
def Leads(w:World)(v:Value)(len:Nat)(news:List Value):Prop:=
 (v=.slice none 0 0∧len=0∧news=[])∨∃ad cap,v=.slice (some ad) len cap∧∀j u,news[j]? =some u→w.cell? (ad.add j)=some u
theorem append_any{P:Program}{w:World}{ops:Array Oper}{rest:List Oper}{o:Oper}{a:Act}{Q:Exit→Act→World→Prop}(hgd:o.guard=none)(s x:Operand)(t e:TypeId)
  (ho:o.op=.call { callee:=.builtin .append,args:=#[s,x],argTypes:=#[t,t] })
  (z:Value) (size bytes:Nat) (ht:P.underlying t=some (.slice e)) (hinfo:(P.info? e).map (fun i=>(i.zero,i.size,i.bytes))=some (some z,size,bytes)) (hzs:z.cells.size=size) (hsz:0<size)
  (base:Nat) (v:Value) (n:Nat) (xs:List Value) (hs:a.eval s=v) (hown:w.ownsRow base e size v n xs)
  (vx:Value) (len:Nat) (news:List Value) (hx:a.eval x=vx) (hl:Leads w vx len news) (hln:news.length=len*size) (h1:∀u∈news,u.oneCell'=true)
  (h63:n+len≤maxLen) (hbd:(n+len)*bytes≤140737488355328) (hbase:base≤w.heap.size)
  (h:∀v' w',w'.ownsRow base e size v' (n+len) (xs++news)→w.grownBy w' v.ownBlock→(v'=.slice none 0 0→v=.slice none 0 0)→wpList P ops Q rest (a.put o.dst v') w'):
  wpList P ops Q (o::rest) a w:=by
 obtain ⟨i8,hi8,hz1,hz2,hz3⟩:=info_parts hinfo;rcases hl with ⟨rfl,rfl,rfl⟩|⟨ad,cap,rfl,hc⟩
 ·exact wpList_append_own_none hgd s x t ho base e i8 size ht hi8 v n _ hs hown hx (h v w (by simpa using hown) (Bas.grefl _ _) id)
 ·refine wpList_append_own _ hgd s x t ho base e i8 z size bytes ht hi8 hz1 hz2 hz3 hzs hsz v n _ hs hown ad len cap news hx hln hc h1 h63 hbd hbase ?_;intro v' w' h1 h2 h3;exact h v' w' h1 h2 (fun e=>(h3.1 e).1)
theorem leads_owned{w:World}{base:Nat}{e:TypeId}{size:Nat}{v:Value}{n:Nat}{xs:List Value}(h:w.ownsRow base e size v n xs):Leads w v n xs:=by
 obtain ⟨hlen,⟨rfl,rfl⟩|⟨g,cap,cur,rfl,hg,hh,hc,hm,hs,ht⟩⟩:=h
 ·exact .inl ⟨rfl,rfl,List.length_eq_zero_iff.1 (by simpa using hlen)⟩
 ·refine .inr ⟨_,cap,rfl,fun j u hu=> ?_⟩
  rw [Addr.add_lit,Nat.zero_add];have hj:j<xs.length:=(List.getElem?_eq_some_iff.1 hu).1;have h1:(cur.toList.take (n*size))[j]? =xs[j]? :=by rw [ht]
  rw [List.getElem?_take_of_lt (by omega),hu] at h1
  simp [World.cell?,hh,←Array.getElem?_toList,h1]
theorem leads_one(w:World)(x:Value)(t:TypeId):Leads (w.alloc (.cells #[x] t)) (.slice (some ⟨w.heap.size,0,none⟩) 1 1) 1 [x]:=
 .inr ⟨_,1,rfl,fun j u hu=>by
  have hj:j=0:=by
   have:=(List.getElem?_eq_some_iff.1 hu).1;simpa using this
  subst hj;rw [Addr.add_lit];simpa using hu⟩
theorem owned_nil(w:World)(base:Nat)(e:TypeId)(size:Nat):w.ownsRow base e size (.slice none 0 0) 0 []:=⟨by simp,.inl ⟨rfl,rfl⟩⟩
theorem owned_keep{w w':World}{base:Nat}{e:TypeId}{size:Nat}{v:Value}{n:Nat}{xs:List Value}(h:w.ownsRow base e size v n xs)(hk:∀g,v.ownBlock=some g→w'.heap[g]? =w.heap[g]?):w'.ownsRow base e size v n xs:=by
 obtain ⟨hlen,h0|⟨g,cap,cur,rfl,hg,hh,r⟩⟩:=h
 ·exact ⟨hlen,.inl h0⟩
 ·exact ⟨hlen,.inr ⟨g,cap,cur,rfl,hg,(hk g rfl).trans hh,r⟩⟩
theorem owned_below{w w':World}{base:Nat}{e:TypeId}{size:Nat}{v:Value}{n:Nat}{xs:List Value}(h:w.ownsRow base e size v n xs)(hb:Below w.heap.size w w'):w'.ownsRow base e size v n xs:=
 owned_keep h fun g hg=>by
  obtain ⟨hlen,⟨rfl,_⟩|⟨g',cap,cur,rfl,hg',hh,r⟩⟩:=h
  ·cases hg
  ·cases hg;exact hb.block g' (Array.getElem?_eq_some_iff.1 hh).1
theorem owned_base{w:World}{base base':Nat}{e:TypeId}{size:Nat}{v:Value}{n:Nat}{xs:List Value}(h:w.ownsRow base e size v n xs)(hb:base'≤base):w.ownsRow base' e size v n xs:=by
 obtain ⟨hlen,h0|⟨g,cap,cur,rfl,hg,r⟩⟩:=h
 ·exact ⟨hlen,.inl h0⟩
 ·exact ⟨hlen,.inr ⟨g,cap,cur,rfl,by omega,r⟩⟩
theorem owned_parts{w:World}{base:Nat}{e:TypeId}{size:Nat}{v:Value}{n:Nat}{xs:List Value}(h:w.ownsRow base e size v n xs):
  (v=.slice none 0 0∧n=0∧xs=[])∨∃g cap,v=.slice (some ⟨g,0,none⟩) n cap∧base≤g∧g<w.heap.size∧n≤cap∧cap≤maxLen∧(∀j u,xs[j]? =some u→w.cell? ⟨g,j,none⟩=some u)∧∀o,w.frozen? ⟨g,o,none⟩=false:=by
 have hl:=leads_owned h;obtain ⟨hlen,⟨rfl,rfl⟩|⟨g,cap,cur,rfl,hg,hh,hc,hm,hs,ht⟩⟩:=h
 ·exact .inl ⟨rfl,rfl,List.length_eq_zero_iff.1 (by simpa using hlen)⟩
 ·refine .inr ⟨g,cap,rfl,hg,(Array.getElem?_eq_some_iff.1 hh).1,hc,hm,fun j u hu=> ?_,fun o=>by simp [World.frozen?,hh]⟩
  rcases hl with ⟨h0,_⟩|⟨ad,cap',he,hcl⟩
  ·cases h0
  ·cases he;have:=hcl j u hu
   rwa [Addr.add_lit,Nat.zero_add] at this
theorem own_block{w:World}{base:Nat}{e:TypeId}{size:Nat}{v:Value}{n:Nat}{xs:List Value}(h:w.ownsRow base e size v n xs){g:Nat}(hg:v.ownBlock=some g):base≤g∧g<w.heap.size:=by
 obtain ⟨_,⟨rfl,_⟩|⟨g',cap,cur,rfl,hb,hh,_⟩⟩:=h
 ·cases hg
 ·cases hg;exact ⟨hb,(Array.getElem?_eq_some_iff.1 hh).1⟩
theorem flat_get{α:Type}{f:α→List Value}{m:Nat}(hf:∀x,(f x).length=m):∀(l:List α) (i j:Nat) (x:α) (u:Value),l[i]? =some x→(f x)[j]? =some u→(l.flatMap f)[i*m+j]? =some u
 |[],i,j,x,u,h,_=>by simp at h
 |y::l,0,j,x,u,h,hu=>by
  have hy:y=x:=by simpa using h
  subst hy;have hj:j<(f y).length:=(List.getElem?_eq_some_iff.1 hu).1;rw [List.flatMap_cons,Nat.zero_mul,Nat.zero_add,List.getElem?_append_left hj];exact hu
 |y::l,i+1,j,x,u,h,hu=>by
  have h':l[i]? =some x:=by simpa using h
  have:=flat_get hf l i j x u h' hu;rw [List.flatMap_cons,List.getElem?_append_right (by rw [hf];rw [Nat.add_mul];omega),hf,show (i+1)*m+j - m=i*m+j by rw [Nat.add_mul];omega]
  exact this
theorem elem_cells{α:Type}{f:α→List Value}{m:Nat}(hf:∀x,(f x).length=m){w:World}{base:Nat}{e:TypeId}{v:Value}{n:Nat}{l:List α}(h:w.ownsRow base e m v n (l.flatMap f)){i:Nat}{x:α}(hx:l[i]? =some x)(_hm:0<m)(hln:l.length=n):
  ∃G cp,v=.slice (some ⟨G,0,none⟩) n cp∧base≤G∧G<w.heap.size∧(n≤cp∧cp≤9223372036854775807)∧∀j u,(f x)[j]? =some u→w.cell? ⟨G,i*m+j,none⟩=some u:=by
 rcases owned_parts h with ⟨_,hn,_⟩|⟨G,cp,hv,hb,hG,hc,hm63,hcl,_⟩
 ·have:=(List.getElem?_eq_some_iff.1 hx).1;omega
 ·exact ⟨G,cp,hv,hb,hG,⟨hc,by unfold maxLen at hm63;omega⟩,fun j u hu=>hcl _ _ (flat_get hf l i j x u hx hu)⟩
end Row
namespace Ord
section
variable {P:Program} {ops:Array Oper} {md:Region.Mode} {C:World→Prop} {Z:List PanicEntry→World→Prop}
def haltUpon(P:Program)(Z:List PanicEntry→World→Prop)(w:World):Result Next→Prop
 |.ok (.enter f args) w'=>w'=w∧Calls P f args w (fun e w''=>∃ch,e=.panicked ch∧Z ch w'')
 |.halt (.panic v) w'=>Z [{ v,recovered:=false }] w'
 |_=>False
def haltsIn(P:Program)(C:World→Prop)(Z:List PanicEntry→World→Prop)(o:Oper)(a:Act):Prop:=∀w,C w→haltUpon P Z w ((execOp a.eval o).run P w)
theorem wp_of_halts{o:Oper}{a:Act}{K:Act→World→Prop}{Q:Exit→Act→World→Prop}{w:World}(hw:C w)(hQ:∀ch w,Z ch w→Q (.panic ch) a w)(h:haltsIn P C Z o a):o.wp P a w K Q:=by
 have h1:=h w hw;unfold Oper.wp;generalize (execOp a.eval o).run P w=r at*;cases r with
 |ok n w'=>
  cases n<;>simp only [haltUpon] at h1<;>simp only [Oper.upon]
  case enter f args=>
   obtain ⟨e1,hc⟩:=h1;rw [e1];exact hc.mono fun e w'' ⟨ch,he,hz⟩=>by subst he;exact hQ _ _ hz
 |halt x w'=>
  cases x<;>simp only [haltUpon] at h1
  exact hQ _ _ h1
theorem put_defers(a:Act)(d:Option Tmp)(v:Value):(a.put d v).defers=a.defers:=by cases d<;>rfl
def pOp(P:Program)(ops:Array Oper)(C:World→Prop)(Z:List PanicEntry→World→Prop)(i:Nat)(K:Act→Prop)(a:Act):Prop:=
 match ops[i]? with
 |none=>K a
 |some o=>if Region.wanted o (yielded ops a.tmps) then (o.quiet P a C K∨haltsIn P C Z o a) else K (a.put o.dst undef)
theorem pOp_mono{i:Nat}{a:Act}{K K':Act→Prop}(h:∀a,K a→K' a)(hh:pOp P ops C Z i K a):pOp P ops C Z i K' a:=by
 unfold pOp at*;cases ho:ops[i]? with
 |none=>rw [ho] at hh;exact h _ hh
 |some o=>
  rw [ho] at hh;simp only at hh ⊢;by_cases hw:Region.wanted o (yielded ops a.tmps)=true
  ·rw [if_pos hw] at hh ⊢;exact hh.imp (Oper.quiet_mono h) id
  ·rw [if_neg hw] at hh ⊢;exact h _ hh
theorem pOp_of_qOp{i:Nat}{a:Act}{K:Act→Prop}(hh:qOp P ops C i K a):pOp P ops C Z i K a:=by
 unfold pOp;unfold qOp at hh;cases ho:ops[i]? with
 |none=>rw [ho] at hh;exact hh
 |some o=>
  rw [ho] at hh;simp only at hh ⊢;by_cases hw:Region.wanted o (yielded ops a.tmps)=true
  ·rw [if_pos hw] at hh ⊢;exact .inl hh
  ·rw [if_neg hw] at hh ⊢;exact hh
theorem wpOp_of_pOp{i:Nat}{a:Act}{K:Act→Prop}{K':Act→World→Prop}{Q:Exit→Act→World→Prop}{w:World}(hC:C w)(hQ:∀ch w,Z ch w→Q (.panic ch) a w)
  (h:∀a' w',C w'→a'.defers=a.defers→K a'→K' a' w') (hh:pOp P ops C Z i K a):wpOp P ops Q i K' a w:=by
 replace hh:pOp P ops C Z i (fun a'=>a'.defers=a.defers∧K a') a:=by
  unfold pOp at*;cases ho:ops[i]? with
  |none=>rw [ho] at hh;exact ⟨rfl,hh⟩
  |some o=>
   rw [ho] at hh;simp only at hh ⊢;by_cases hw:Region.wanted o (yielded ops a.tmps)=true
   ·rw [if_pos hw] at hh ⊢;refine hh.imp (fun ⟨v,h1,h2⟩=>⟨v,h1,put_defers a o.dst v,h2⟩) id
   ·rw [if_neg hw] at hh ⊢;exact ⟨put_defers a o.dst undef,hh⟩
 replace h:∀a' w',C w'→(a'.defers=a.defers∧K a')→K' a' w':=fun a' w' hc hk=>h a' w' hc hk.1 hk.2
 unfold pOp at hh;unfold wpOp;cases ho:ops[i]? with
 |none=>rw [ho] at hh;exact h _ _ hC hh
 |some o=>
  rw [ho] at hh;simp only at hh ⊢;by_cases hw:Region.wanted o (yielded ops a.tmps)=true
  ·rw [if_pos hw] at hh ⊢;exact .inl (hh.elim (Oper.wp_of_quiet hC h) (wp_of_halts hC hQ))
  ·rw [if_neg hw] at hh ⊢;exact h _ _ hC hh
def wpAnyZ(P:Program)(md:Region.Mode)(ops:Array Oper)(C:World→Prop)(Z:List PanicEntry→World→Prop):Nat→Array Bool→Act→Prop
 |0,_,_=>False
 |n+1,listed,a=>Region.ready md ops listed≠[]∧∀i∈Region.ready md ops listed,pOp P ops C Z i (wpAnyZ P md ops C Z n (listed.setIfInBounds i true)) a
theorem wpAny_of_Z{Q:Exit→Act→World→Prop}{d:List Deferred}(hQ:∀ch a w,a.defers=d→Z ch w→Q (.panic ch) a w):∀(n m:Nat) (listed:Array Bool) (a:Act) (w:World),C w→a.defers=d→n≤m→
  wpAnyZ P md ops C Z n listed a→wpAny P md ops Q m listed a w
 |0,_,_,_,_,_,_,_,h=>h.elim
 |n+1,0,_,_,_,_,_,hm,_=>absurd hm (by omega)
 |n+1,m+1,_,_,_,hw,hd,hm,h=>
  ⟨fun h0=>absurd h0 h.1,fun i hi=>wpOp_of_pOp hw (fun ch w hz=>hQ ch _ w hd hz) (fun a' w' hw' hd' h'=>wpAny_of_Z hQ n m _ a' w' hw' (hd'.trans hd) (by omega) h') (h.2 i hi)⟩
theorem pOp_put{j:Nat}{oi oj:Oper}{v:Value}(hj:ops[j]? =some oj)(hap:oi.apart ops oj=true)
  (hsi:∀cs b,oi.op≠.select cs b) (hsj:∀cs b,oj.op≠.select cs b) {K:Act→Prop} {a:Act}
  (hy:YieldsIn P ops C oi v a) (h:pOp P ops C Z j K (a.put oi.dst v)):
  pOp P ops C Z j (fun a'=>YieldsIn P ops C oi v a'∧K (a'.put oi.dst v)) a:=by
 obtain ⟨h1,h2,h3⟩:=Oper.apart_spec hap;by_cases hw:Region.wanted oj (yielded ops a.tmps)=true
 ·have hw':Region.wanted oj (yielded ops (a.put oi.dst v).tmps)=true:=by rw [wanted_put oj a oi.dst v h1];exact hw
  unfold pOp at h;simp only [hj] at h;rw [if_pos hw'] at h;rcases h with h|h
  ·refine pOp_of_qOp (qOp_put hj hap hsi hsj hy ?_);unfold qOp;simp only [hj];rw [if_pos hw'];exact h
  ·unfold pOp;simp only [hj];rw [if_pos hw];right;intro w hw2;have:=h w hw2
   rwa [execOp_put oj hsj a oi.dst v h1] at this
 ·refine pOp_of_qOp (qOp_put hj hap hsi hsj hy ?_);have hw':¬Region.wanted oj (yielded ops (a.put oi.dst v).tmps)=true:=by rw [wanted_put oj a oi.dst v h1];exact hw
  unfold pOp at h;simp only [hj] at h;rw [if_neg hw'] at h;unfold qOp;simp only [hj];rw [if_neg hw'];exact h
theorem wpAnyZ_first{i:Nat}{oi:Oper}{v:Value}(hi:ops[i]? =some oi)(hsel:∀(j:Nat) (o:Oper) cs b,ops[j]? =some o→o.op≠.select cs b):
  ∀(n:Nat) (listed:Array Bool) (a:Act),
   (∀j oj,ops[j]? =some oj→j≠i→listed.getD j true=false→(∀e∈oj.after,Region.binds md e=true→e.on≠i)→oi.apart ops oj=true)→
   i∈Region.ready md ops listed→YieldsIn P ops C oi v a→
   wpAnyZ P md ops C Z n (listed.setIfInBounds i true) (a.put oi.dst v)→wpAnyZ P md ops C Z (n+1) listed a:=by
 intro n;induction n with
 |zero=>intro _ _ _ _ _ H;exact H.elim
 |succ n ih=>
  intro listed a hfree hr hy H;have hun:=(mem_ready.1 hr).1;refine ⟨fun h=>(by rw [h] at hr;cases hr),fun j hj=> ?_⟩
  by_cases hji:j=i
  ·subst hji;exact pOp_of_qOp (hy.qOp hi H)
  ·have h1:=H.2 j (ready_mono hj hji);obtain ⟨hjun,oj,hoj,hall⟩:=mem_ready.1 hj;have hnot:∀e∈oj.after,Region.binds md e=true→e.on≠i:=fun e he hb heq=>by
    have h1:=hall e he hb;rw [heq,getD_both hun] at h1;cases h1
   have h2:=pOp_put hoj (hfree j oj hoj hji hjun hnot) (fun cs b=>hsel i oi cs b hi) (fun cs b=>hsel j oj cs b hoj) hy h1
   have hfree':∀k ok,ops[k]? =some ok→k≠i→(listed.setIfInBounds j true).getD k true=false→
     (∀e∈ok.after,Region.binds md e=true→e.on≠i)→oi.apart ops ok=true:=fun k ok hk hki hun hno=>by
    refine hfree k ok hk hki ?_ hno;by_cases hjk:j=k
    ·subst hjk;exact hjun
    ·rw [getD_set_ne true hjk] at hun;exact hun
   refine pOp_mono (fun a' h3=>ih (listed.setIfInBounds j true) a' hfree' (ready_mono hr (Ne.symm hji)) h3.1 ?_) h2
   rw [Array.setIfInBounds_comm _ _ hji];exact h3.2
def pick:List Oper→List Bool→List Oper
 |o::l,true::m=>o::pick l m
 |_::l,false::m=>pick l m
 |_,_=>[]
def maskB(md:Region.Mode)(ops:Array Oper)(p:Nat):List Bool→Nat→Array Bool→Bool
 |[],_,listed=>decide (Region.ready md ops listed=[p])
 |true::m,k,listed=>(Region.ready md ops listed).contains k&&Region.free md ops listed k&&maskB md ops p m (k+1) (listed.setIfInBounds k true)
 |false::m,k,listed=>maskB md ops p m (k+1) listed
theorem wpAnyZ_mask{p:Nat}{op:Oper}(hsel:Region.noSelect ops=true)(hp:ops[p]? =some op):∀(m:List Bool) (l:List Oper) (k:Nat) (listed:Array Bool) (a:Act),
  (∀j,l[j]? =ops[k+j]?)→m.length=l.length→maskB md ops p m k listed=true→
  wpQuiet P ops C (fun a'=>Region.wanted op (yielded ops a'.tmps)=true∧haltsIn P C Z op a') (pick l m) a→wpAnyZ P md ops C Z (m.count true+1) listed a
 |[],l,k,listed,a,hl,hm,hB,h=>by
  have hB':Region.ready md ops listed=[p]:=of_decide_eq_true hB;have hl0:l=[]:=List.length_eq_zero_iff.1 hm.symm;subst hl0;refine ⟨by rw [hB'];simp,fun i hi=> ?_⟩
  rw [hB'] at hi;have:i=p:=by simpa using hi
  subst this;have h':Region.wanted op (yielded ops a.tmps)=true∧haltsIn P C Z op a:=h;unfold pOp;simp only [hp];rw [if_pos h'.1];exact .inr h'.2
 |b::m,[],_,_,_,_,hm,_,_=>by simp at hm
 |false::m,o::l,k,listed,a,hl,hm,hB,h=>by
  have H:=wpAnyZ_mask hsel hp m l (k+1) listed a (fun j=>by have:=hl (j+1);simpa [Nat.add_assoc,Nat.add_comm 1 j] using this) (by simpa using hm) hB h
  simpa using H
 |true::m,o::l,k,listed,a,hl,hm,hB,h=>by
  have h0:ops[k]? =some o:=by simpa using (hl 0).symm
  simp only [maskB,Bool.and_eq_true] at hB;obtain ⟨⟨hr,hf⟩,hB'⟩:=hB;have hst:qOp P ops C k (wpQuiet P ops C (fun a'=>Region.wanted op (yielded ops a'.tmps)=true∧haltsIn P C Z op a') (pick l m)) a:=by unfold qOp;simp only [h0];exact h
  obtain ⟨v,hy,hK⟩:=yieldsIn_of_qOp h0 hst;have H:=wpAnyZ_mask hsel hp m l (k+1) _ _ (fun j=>by have:=hl (j+1);simpa [Nat.add_assoc,Nat.add_comm 1 j] using this) (by simpa using hm) hB' hK
  rw [List.count_cons_self];exact wpAnyZ_first h0 (Region.noSelect_spec hsel) _ listed a (Region.free_spec h0 hf) (by simpa using hr) hy H
theorem region_halt{id:Nat}{Q:Exit→Act→World→Prop}{a:Act}{w:World}{l:List Oper}{I:Type}{F:I→World}(Z:List PanicEntry→World→Prop)(m:List Bool)(p:Nat)(op:Oper)
  (hp:l[p]? =some op) (hm:P.follows .mixedOrders=true) (hB:(Region.noSelect l.toArray&&decide (m.length=l.length)&&decide (m.count true<l.length)&&maskB .any l.toArray p m 0 (Array.replicate l.toArray.size false))=true)
  (h0:∃i,w.drew=F i) (hQ:∀ch a' w,a'.defers=a.defers→Z ch w→Q (.panic ch) a' w)
  (h:wpQuiet P l.toArray (fun w'=>∃i,w'=F i) (fun a'=>Region.wanted op (yielded l.toArray a'.tmps)=true∧haltsIn P (fun w'=>∃i,w'=F i) Z op a') (pick l m) a):(Code.region id l.toArray true).wp P Q a w:=by
 simp only [Bool.and_eq_true,decide_eq_true_eq] at hB;obtain ⟨⟨⟨hs,hml⟩,hcn⟩,hB⟩:=hB;refine wp_region_any hm ?_;have H:=wpAnyZ_mask (md:=.any) hs (by simpa using hp) m l 0 (Array.replicate l.toArray.size false) a (by simp) hml hB h
 exact wpAny_of_Z hQ _ _ _ _ _ h0 rfl (by simp only [List.size_toArray];omega) H
end
end Ord
namespace Vw
def short:List PanicEntry:=[{ v:=.iface 282 (.agg #[]),recovered:=false }]
theorem fail_any(w:World):Calls Tryz.prog 99 #[] w fun e w'=>e=.panicked short∧w=w':=by
 go_enter Tryz.func99,Tryz.ntmps99
 go_wp2;exact ⟨rfl,rfl,rfl⟩
theorem need_no(w:World):Calls Tryz.prog 56 #[.bool false] w fun e w'=>e=.panicked short∧w=w':=by
 go_enter Tryz.func56,Tryz.ntmps56
 go_wp2_with (go_at_call 99;refine (fail_any _).mono ?_;rintro e w' ⟨rfl,rfl⟩);exact ⟨rfl,rfl,rfl⟩
theorem need_yes(w:World):Calls Tryz.prog 56 #[.bool true] w fun e w'=>e=.returned (.tuple #[])∧w=w':=by
 go_enter Tryz.func56,Tryz.ntmps56
 go_wp2_with (fail)
 go_end0
 exact ⟨rfl,rfl⟩
theorem need_yesb(b:Bool)(w:World)(hb:b=true):Calls Tryz.prog 56 #[.bool b] w fun e w'=>e=.returned (.tuple #[])∧w=w':=hb▸need_yes w
theorem need_nob(b:Bool)(w:World)(hb:b=false):Calls Tryz.prog 56 #[.bool b] w fun e w'=>e=.panicked short∧w=w':=hb▸need_no w
def sub(a:Option Addr)(at' n:Nat):Option Addr:=if n=0 then a else a.map (·.add at')
structure VB (w:World) (a:Option Addr) (bs:List Int):Prop where
 len:bs.length≤140737488355328
 byte:∀x∈bs,0≤x∧x≤255
 cell:∀i,i<bs.length→∃b o,a=some ⟨b,o,none⟩∧w.cell? ⟨b,o+i,none⟩=some (.int .u8 (bs.getD i 0))
theorem piece_ok(a:Option Addr)(len cap:Nat)(at' n:Int)(w:World)(hl:len≤cap)(hc:cap≤maxLen)(h0:0≤at')(h1:0≤n)(h2:at'+n≤len):
    Calls Tryz.prog 144 #[.agg #[.slice a len cap],.int .i64 at',.int .i64 n] w fun e w'=>e=.returned (.slice (sub a at'.toNat n.toNat) n.toNat n.toNat)∧Below w.heap.size w w':=by
  unfold maxLen at hc
  obtain ⟨p,rfl⟩:=Int.eq_ofNat_of_zero_le h0
  obtain ⟨q,rfl⟩:=Int.eq_ofNat_of_zero_le h1
  go_enter Tryz.func144,Tryz.ntmps144
  go_wp2_with (fail)
  refine (need_yesb _ _ (by simp;omega)).mono ?_
  rintro e w' ⟨rfl,rfl⟩
  go_wp2_with (fail)
  all_goals
    go_ret
    refine ⟨?_,(Below.refl _ _).alloc (Nat.le_refl _) _⟩
    first
      |(rw [sub,if_neg (by omega)];simp;done)
      | (obtain rfl : q = 0 := by omega
         simp [sub])
theorem piece_no(a:Option Addr)(len cap:Nat)(at' n:Int)(w:World)(hl:len≤cap)(hc:cap≤maxLen)(h:¬(0≤at'∧0≤n∧at'+n≤len)):
  Calls Tryz.prog 144 #[.agg #[.slice a len cap],.int .i64 at',.int .i64 n] w fun e w'=>e=.panicked short∧Below w.heap.size w w':=by
 unfold maxLen at hc;by_cases h0:0≤at'
 ·by_cases h1:0≤n
  ·by_cases h2:at'≤len
   ·have h3:¬n≤len - at':=by omega
    clear h;go_enter Tryz.func144,Tryz.ntmps144
    go_wp2_with (fail);refine (need_nob _ _ (by first|(simp;done)|(simp;omega))).mono ?_
    rintro e w' ⟨rfl,rfl⟩;go_wp2_with (fail);exact ⟨rfl,rfl,(Below.refl _ _).alloc (Nat.le_refl _) _⟩
   ·clear h;go_enter Tryz.func144,Tryz.ntmps144
    go_wp2_with (fail);refine (need_nob _ _ (by first|(simp;done)|(simp;omega))).mono ?_
    rintro e w' ⟨rfl,rfl⟩;go_wp2_with (fail);exact ⟨rfl,rfl,(Below.refl _ _).alloc (Nat.le_refl _) _⟩
  ·clear h;go_enter Tryz.func144,Tryz.ntmps144
   go_wp2_with (fail);refine (need_nob _ _ (by first|(simp;done)|(simp;omega))).mono ?_
   rintro e w' ⟨rfl,rfl⟩;go_wp2_with (fail);exact ⟨rfl,rfl,(Below.refl _ _).alloc (Nat.le_refl _) _⟩
 ·clear h;go_enter Tryz.func144,Tryz.ntmps144
  go_wp2_with (fail);refine (need_nob _ _ (by first|(simp;done)|(simp;omega))).mono ?_
  rintro e w' ⟨rfl,rfl⟩;go_wp2_with (fail);exact ⟨rfl,rfl,(Below.refl _ _).alloc (Nat.le_refl _) _⟩
def num(l:List Int):Int:=l.foldl (fun x b=>256*x+b) 0
def be(bs:List Int)(at' n:Nat):Int:=num ((bs.drop at').take n)
theorem VB.below{w w':World}{a:Option Addr}{bs:List Int}(h:VB w a bs)(hb:Below w.heap.size w w'):VB w' a bs:=
 ⟨h.len, h.byte, fun i hi => by
  obtain ⟨b,o,ha,hc⟩:=h.cell i hi;exact ⟨b,o,ha,(hb.cell (p:=⟨b,o+i,none⟩) (World.block_lt_of_cell? _ _ hc)).trans hc⟩⟩
theorem getD_byte{bs:List Int}(h:∀x∈bs,0≤x∧x≤255)(i:Nat):0≤bs.getD i 0∧bs.getD i 0≤255:=by
 rw [List.getD_eq_getElem?_getD];cases hi:bs[i]? with
 |none=>simp
 |some x=>simpa using h x (List.mem_of_getElem? hi)
theorem VB.sub{w:World}{a:Option Addr}{bs:List Int}(h:VB w a bs)(p n:Nat)(hn:p+n≤bs.length):VB w (sub a p n) ((bs.drop p).take n):=by
 have hlen:((bs.drop p).take n).length=n:=by simp;omega
 refine ⟨by have:=h.len;omega,fun x hx=>h.byte x (List.mem_of_mem_drop (List.mem_of_mem_take hx)),fun i hi=> ?_⟩
 rw [hlen] at hi;obtain ⟨b,o,rfl,hc⟩:=h.cell (p+i) (by omega)
 by_cases hp:p=0
 ·subst hp;refine ⟨b,o,by simp [Vw.sub,Addr.add], ?_⟩
  rw [Nat.zero_add] at hc;rw [hc];simp [hi]
 ·refine ⟨b,o+p,by simp [Vw.sub,show n≠0 by omega,Addr.add,hp], ?_⟩
  rw [Nat.add_assoc,hc];simp [hi]
theorem be1(bs:List Int)(p:Nat)(h:p+1≤bs.length):be bs p 1=bs.getD p 0:=by
 have e:(bs.drop p).take 1=[bs.getD p 0]:=by
  rw [List.take_one,List.head?_drop,List.getD_eq_getElem?_getD,List.getElem?_eq_getElem (by omega)];rfl
 unfold be;rw [e];simp [num]
theorem drop_cons(bs:List Int)(p:Nat)(h:p<bs.length):bs.drop p=bs.getD p 0::bs.drop (p+1):=by
 rw [List.drop_eq_getElem_cons h];simp [h]
theorem be2(bs:List Int)(p:Nat)(h:p+2≤bs.length):be bs p 2=256*bs.getD p 0+bs.getD (p+1) 0:=by
 unfold be;rw [drop_cons bs p (by omega),drop_cons bs (p+1) (by omega)]
 simp [num]
theorem be4(bs:List Int)(p:Nat)(h:p+4≤bs.length):be bs p 4=16777216*bs.getD p 0+65536*bs.getD (p+1) 0+256*bs.getD (p+2) 0+bs.getD (p+3) 0:=by
 unfold be;rw [drop_cons bs p (by omega),drop_cons bs (p+1) (by omega),drop_cons bs (p+2) (by omega),drop_cons bs (p+3) (by omega)]
 simp [num];omega
theorem be2_bd(bs:List Int)(hb:∀x∈bs,0≤x∧x≤255)(p:Nat)(h:p+2≤bs.length):0≤be bs p 2∧be bs p 2≤65535:=by
 rw [be2 bs p h];have:=getD_byte hb p;have:=getD_byte hb (p+1);omega
theorem be4_bd(bs:List Int)(hb:∀x∈bs,0≤x∧x≤255)(p:Nat)(h:p+4≤bs.length):0≤be bs p 4∧be bs p 4≤4294967295:=by
 rw [be4 bs p h];have:=getD_byte hb p;have:=getD_byte hb (p+1);have:=getD_byte hb (p+2);have:=getD_byte hb (p+3);omega
theorem of_any(a:Option Addr)(len cap:Nat)(w:World):
  Calls Tryz.prog 47 #[.slice a len cap] w fun e w'=>e=.returned (.agg #[.slice a len cap])∧Below w.heap.size w w':=by
 go_enter Tryz.func47,Tryz.ntmps47
 go_wp2;exact bodyPost_ret (v:=.agg #[.slice a len cap]) (by simp [results,Tryz.results47,go_sem]) rfl ⟨rfl,(Below.refl _ _).alloc (Nat.le_refl _) _⟩
theorem i64_or_nat(a b:Nat)(ha:a<4294967296)(hb:b<4294967296):bits .or .i64 (a:Int) (b:Int)=((a|||b:Nat):Int):=by
 have hx:a|||b<2^32:=Nat.or_lt_two_pow (by omega) (by omega)
 have h1:(BitVec.ofInt 64 (a:Int)).toNat=a:=by
  rw [BitVec.ofInt_natCast,BitVec.toNat_ofNat];exact Nat.mod_eq_of_lt (by omega)
 have h2:(BitVec.ofInt 64 (b:Int)).toNat=b:=by
  rw [BitVec.ofInt_natCast,BitVec.toNat_ofNat];exact Nat.mod_eq_of_lt (by omega)
 show IntKind.i64.wrap ((BitVec.ofInt 64 (a:Int)|||BitVec.ofInt 64 (b:Int)).toNat:Int)=_
 rw [BitVec.toNat_or,h1,h2,IntKind.wrap_i64];omega
theorem or_join(x y m:Int)(k:Nat)(hm:m=((2^k:Nat):Int))(hk:k≤24)(h0:0≤x)(h1:x*m<4294967296)(h2:0≤y)(h3:y<m):bits .or .i64 (x*m) y=m*x+y:=by
 obtain ⟨a,rfl⟩:=Int.eq_ofNat_of_zero_le h0;obtain ⟨b,rfl⟩:=Int.eq_ofNat_of_zero_le h2;have hm2:(2^k:Nat)≤2^24:=Nat.pow_le_pow_right (by omega) hk
 subst hm;have e:((a:Int)*((2^k:Nat):Int))=((a*2^k:Nat):Int):=by simp
 rw [e] at h1 ⊢;rw [i64_or_nat _ _ (by omega) (by omega),nat_join k _ _ (by simp) (by omega)]
 simp [Int.mul_comm]
theorem sub_some(b o p n:Nat)(hn:n≠0):sub (some ⟨b,o,none⟩) p n=some ⟨b,o+p,none⟩:=by
 rw [sub,if_neg hn];by_cases hp:p=0
 ·subst hp;simp [Addr.add]
 ·simp [Addr.add,hp]
theorem piece_k(b o len cap p k:Nat)(n:Int)(w:World)(hn:n=k)(hk:0<k)(hl:len≤cap)(hc:cap≤maxLen)(h2:p+k≤len):
  Calls Tryz.prog 144 #[.agg #[.slice (some ⟨b,o,none⟩) len cap],.int .i64 p,.int .i64 n] w fun e w'=>e=.returned (.slice (some ⟨b,o+p,none⟩) k k)∧Below w.heap.size w w':=by
 subst hn;have h:=piece_ok (some ⟨b,o,none⟩) len cap (p:Int) (k:Int) w hl hc (by omega) (by omega) (by omega)
 rw [Int.toNat_natCast,Int.toNat_natCast,sub_some b o p k (by omega)] at h
 exact h
theorem u8_ok(a:Option Addr)(len cap:Nat)(bs:List Int)(at':Int)(w:World)(hl:len≤cap)(hc:cap≤maxLen)(hv:VB w a bs)(hbl:bs.length=len)(h0:0≤at')(h2:at'+1≤len):
  Calls Tryz.prog 244 #[.agg #[.slice a len cap],.int .i64 at'] w fun e w'=>e=.returned (.int .i64 (be bs at'.toNat 1))∧Below w.heap.size w w':=by
 obtain ⟨p,rfl⟩:=Int.eq_ofNat_of_zero_le h0;rw [Int.toNat_natCast,be1 bs p (by omega)]
 obtain ⟨b,o,rfl,hcell0⟩:=hv.cell p (by omega)
 have hblt:=World.block_lt_of_cell? _ _ hcell0;have hbd0:=getD_byte hv.byte p;generalize bs.getD p 0=x0 at hcell0 hbd0;obtain ⟨lo0,hi0⟩:=hbd0
 replace hcell0:w.cell? ⟨b,o+p,none⟩=some (.int .u8 x0):=hcell0
 go_enter Tryz.func244,Tryz.ntmps244
 go_wp2_with (fail);refine (piece_k b o len cap p 1 _ _ rfl (by omega) hl hc (by omega)).mono ?_
 rintro e w1 ⟨rfl,hw1⟩;have HB1:Below w.heap.size w w1:=Bas.on ((Below.refl _ _).alloc (Nat.le_refl _) _) hw1
 replace hcell0:w1.cell? ⟨b,o+p,none⟩=some (.int .u8 x0):=(HB1.cell (p:=⟨b,o+p,none⟩) hblt).trans hcell0
 clear hw1;go_wp2_with (fail);go_ret;exact ⟨rfl,HB1⟩
theorem u16_ok(a:Option Addr)(len cap:Nat)(bs:List Int)(at':Int)(w:World)(hl:len≤cap)(hc:cap≤maxLen)(hv:VB w a bs)(hbl:bs.length=len)(h0:0≤at')(h2:at'+2≤len):
  Calls Tryz.prog 103 #[.agg #[.slice a len cap],.int .i64 at'] w fun e w'=>e=.returned (.int .i64 (be bs at'.toNat 2))∧Below w.heap.size w w':=by
 obtain ⟨p,rfl⟩:=Int.eq_ofNat_of_zero_le h0;rw [Int.toNat_natCast,be2 bs p (by omega)]
 obtain ⟨b,o,rfl,hcell0⟩:=hv.cell p (by omega)
 have hblt:=World.block_lt_of_cell? _ _ hcell0;have hcell1:w.cell? ⟨b,o+p+1,none⟩=some (.int .u8 (bs.getD (p+1) 0)):=by
  obtain ⟨b',o',ha,hc'⟩:=hv.cell (p+1) (by omega)
  simp only [Option.some.injEq,Addr.mk.injEq,and_true] at ha;obtain ⟨rfl,rfl⟩:=ha;rw [Nat.add_assoc];exact hc'
 have hbd0:=getD_byte hv.byte p;have hbd1:=getD_byte hv.byte (p+1);generalize bs.getD p 0=x0 at hcell0 hbd0;obtain ⟨lo0,hi0⟩:=hbd0;generalize bs.getD (p+1) 0=x1 at hcell1 hbd1;obtain ⟨lo1,hi1⟩:=hbd1
 replace hcell0:w.cell? ⟨b,o+p,none⟩=some (.int .u8 x0):=hcell0
 have hor:bits .or .i64 (x0*256) x1=256*x0+x1:=or_join x0 x1 256 8 rfl (by omega) lo0 (by omega) lo1 (by omega)
 go_enter Tryz.func103,Tryz.ntmps103
 go_wp2_with (fail);refine (piece_k b o len cap p 2 _ _ rfl (by omega) hl hc (by omega)).mono ?_
 rintro e w1 ⟨rfl,hw1⟩;have HB1:Below w.heap.size w w1:=Bas.on ((Below.refl _ _).alloc (Nat.le_refl _) _) hw1
 replace hcell0:w1.cell? ⟨b,o+p,none⟩=some (.int .u8 x0):=(HB1.cell (p:=⟨b,o+p,none⟩) hblt).trans hcell0
 replace hcell1:w1.cell? ⟨b,o+p+1,none⟩=some (.int .u8 x1):=(HB1.cell (p:=⟨b,o+p+1,none⟩) hblt).trans hcell1
 clear hw1;go_wp2_with (fail)
 go_quiet (fail)
 go_wp2_with (fail);go_ret;exact ⟨rfl,Bas.below_drewN HB1 _⟩
theorem u32_ok(a:Option Addr)(len cap:Nat)(bs:List Int)(at':Int)(w:World)(hl:len≤cap)(hc:cap≤maxLen)(hv:VB w a bs)(hbl:bs.length=len)(h0:0≤at')(h2:at'+4≤len):
  Calls Tryz.prog 104 #[.agg #[.slice a len cap],.int .i64 at'] w fun e w'=>e=.returned (.int .i64 (be bs at'.toNat 4))∧Below w.heap.size w w':=by
 obtain ⟨p,rfl⟩:=Int.eq_ofNat_of_zero_le h0;rw [Int.toNat_natCast,be4 bs p (by omega)]
 obtain ⟨b,o,rfl,hcell0⟩:=hv.cell p (by omega)
 have hblt:=World.block_lt_of_cell? _ _ hcell0;have hcell1:w.cell? ⟨b,o+p+1,none⟩=some (.int .u8 (bs.getD (p+1) 0)):=by
  obtain ⟨b',o',ha,hc'⟩:=hv.cell (p+1) (by omega)
  simp only [Option.some.injEq,Addr.mk.injEq,and_true] at ha;obtain ⟨rfl,rfl⟩:=ha;rw [Nat.add_assoc];exact hc'
 have hcell2:w.cell? ⟨b,o+p+2,none⟩=some (.int .u8 (bs.getD (p+2) 0)):=by
  obtain ⟨b',o',ha,hc'⟩:=hv.cell (p+2) (by omega)
  simp only [Option.some.injEq,Addr.mk.injEq,and_true] at ha;obtain ⟨rfl,rfl⟩:=ha;rw [Nat.add_assoc];exact hc'
 have hcell3:w.cell? ⟨b,o+p+3,none⟩=some (.int .u8 (bs.getD (p+3) 0)):=by
  obtain ⟨b',o',ha,hc'⟩:=hv.cell (p+3) (by omega)
  simp only [Option.some.injEq,Addr.mk.injEq,and_true] at ha;obtain ⟨rfl,rfl⟩:=ha;rw [Nat.add_assoc];exact hc'
 have hbd0:=getD_byte hv.byte p;have hbd1:=getD_byte hv.byte (p+1);have hbd2:=getD_byte hv.byte (p+2);have hbd3:=getD_byte hv.byte (p+3);generalize bs.getD p 0=x0 at hcell0 hbd0;obtain ⟨lo0,hi0⟩:=hbd0;generalize bs.getD (p+1) 0=x1 at hcell1 hbd1;obtain ⟨lo1,hi1⟩:=hbd1;generalize bs.getD (p+2) 0=x2 at hcell2 hbd2;obtain ⟨lo2,hi2⟩:=hbd2;generalize bs.getD (p+3) 0=x3 at hcell3 hbd3;obtain ⟨lo3,hi3⟩:=hbd3
 replace hcell0:w.cell? ⟨b,o+p,none⟩=some (.int .u8 x0):=hcell0
 have hor1:bits .or .i64 (x0*16777216) (x1*65536)=x0*16777216+x1*65536:=by have:=or_join x0 (x1*65536) 16777216 24 rfl (by omega) lo0 (by omega) (by omega) (by omega);omega
 have hor2:bits .or .i64 (x0*16777216+x1*65536) (x2*256)=x0*16777216+x1*65536+x2*256:=by have:=or_join (x0*256+x1) (x2*256) 65536 16 rfl (by omega) (by omega) (by omega) (by omega) (by omega);rw [show x0*16777216+x1*65536=(x0*256+x1)*65536 from by omega];omega
 have hor3:bits .or .i64 (x0*16777216+x1*65536+x2*256) x3=16777216*x0+65536*x1+256*x2+x3:=by have:=or_join (x0*65536+x1*256+x2) x3 256 8 rfl (by omega) (by omega) (by omega) (by omega) (by omega);rw [show x0*16777216+x1*65536+x2*256=(x0*65536+x1*256+x2)*256 from by omega];omega
 go_enter Tryz.func104,Tryz.ntmps104
 go_wp2_with (fail);refine (piece_k b o len cap p 4 _ _ rfl (by omega) hl hc (by omega)).mono ?_
 rintro e w1 ⟨rfl,hw1⟩;have HB1:Below w.heap.size w w1:=Bas.on ((Below.refl _ _).alloc (Nat.le_refl _) _) hw1
 replace hcell0:w1.cell? ⟨b,o+p,none⟩=some (.int .u8 x0):=(HB1.cell (p:=⟨b,o+p,none⟩) hblt).trans hcell0
 replace hcell1:w1.cell? ⟨b,o+p+1,none⟩=some (.int .u8 x1):=(HB1.cell (p:=⟨b,o+p+1,none⟩) hblt).trans hcell1
 replace hcell2:w1.cell? ⟨b,o+p+2,none⟩=some (.int .u8 x2):=(HB1.cell (p:=⟨b,o+p+2,none⟩) hblt).trans hcell2
 replace hcell3:w1.cell? ⟨b,o+p+3,none⟩=some (.int .u8 x3):=(HB1.cell (p:=⟨b,o+p+3,none⟩) hblt).trans hcell3
 clear hw1;go_wp2_with (fail)
 go_quiet (fail)
 go_wp2_with (fail);go_ret;exact ⟨rfl,Bas.below_drewN HB1 _⟩
theorem u16_no(a:Option Addr)(len cap:Nat)(at':Int)(w:World)(hl:len≤cap)(hc:cap≤maxLen)(h:¬(0≤at'∧at'+2≤len)):
  Calls Tryz.prog 103 #[.agg #[.slice a len cap],.int .i64 at'] w fun e w'=>e=.panicked short∧Below w.heap.size w w':=by
 go_enter Tryz.func103,Tryz.ntmps103
 go_wp2_with (fail);refine (piece_no _ _ _ _ _ _ hl hc (by omega)).mono ?_
 rintro e w1 ⟨rfl,hw1⟩;go_wp2_with (fail);exact ⟨rfl,rfl,Bas.on ((Below.refl _ _).alloc (Nat.le_refl _) _) hw1⟩
theorem u32_no(a:Option Addr)(len cap:Nat)(at':Int)(w:World)(hl:len≤cap)(hc:cap≤maxLen)(h:¬(0≤at'∧at'+4≤len)):
  Calls Tryz.prog 104 #[.agg #[.slice a len cap],.int .i64 at'] w fun e w'=>e=.panicked short∧Below w.heap.size w w':=by
 go_enter Tryz.func104,Tryz.ntmps104
 go_wp2_with (fail);refine (piece_no _ _ _ _ _ _ hl hc (by omega)).mono ?_
 rintro e w1 ⟨rfl,hw1⟩;go_wp2_with (fail);exact ⟨rfl,rfl,Bas.on ((Below.refl _ _).alloc (Nat.le_refl _) _) hw1⟩
def s16(x:Int):Int:=if x≥32768 then x - 65536 else x
theorem cut_ok(a:Option Addr)(len cap:Nat)(at' n:Int)(w:World)(hl:len≤cap)(hc:cap≤maxLen)(h0:0≤at')(h1:0≤n)(h2:at'+n≤len):
  Calls Tryz.prog 95 #[.agg #[.slice a len cap],.int .i64 at',.int .i64 n] w fun e w'=>e=.returned (.agg #[.slice (sub a at'.toNat n.toNat) n.toNat n.toNat])∧Below w.heap.size w w':=by
 go_enter Tryz.func95,Tryz.ntmps95
 go_wp2_with (fail);refine (piece_ok _ _ _ _ _ _ hl hc h0 h1 h2).mono ?_;rintro e w1 ⟨rfl,hw1⟩;have hz:w.heap.size+2≤w1.heap.size:=by have:=hw1.size;simp at this;omega
 obtain ⟨hc1,hf1⟩:=Bas.bcell hw1;have HB:=Bas.on (((Below.refl w.heap.size w).alloc (Nat.le_refl _) _).alloc (by simp) _) hw1
 clear hw1;go_wp2_with (fail);exact bodyPost_ret (v:=.agg #[.slice (sub a at'.toNat n.toNat) n.toNat n.toNat]) (by simp [results,Tryz.results95,go_sem,hc1]) rfl ⟨rfl,HB.setCell (by simp) _⟩
theorem cut_no(a:Option Addr)(len cap:Nat)(at' n:Int)(w:World)(hl:len≤cap)(hc:cap≤maxLen)(h:¬(0≤at'∧0≤n∧at'+n≤len)):
  Calls Tryz.prog 95 #[.agg #[.slice a len cap],.int .i64 at',.int .i64 n] w fun e w'=>e=.panicked short∧Below w.heap.size w w':=by
 go_enter Tryz.func95,Tryz.ntmps95
 go_wp2_with (fail);refine (piece_no _ _ _ _ _ _ hl hc h).mono ?_;rintro e w1 ⟨rfl,hw1⟩;go_wp2_with (fail);exact ⟨rfl,rfl,Bas.on (((Below.refl w.heap.size w).alloc (Nat.le_refl _) _).alloc (by simp) _) hw1⟩
theorem rest_ok(a:Option Addr)(len cap:Nat)(at':Int)(w:World)(hl:len≤cap)(hc:cap≤maxLen)(h0:0≤at')(h2:at'≤len):
  Calls Tryz.prog 107 #[.agg #[.slice a len cap],.int .i64 at'] w fun e w'=>e=.returned (.agg #[.slice (sub a at'.toNat (len - at'.toNat)) (len - at'.toNat) (len - at'.toNat)])∧Below w.heap.size w w':=by
 have hc':=hc;unfold maxLen at hc';obtain ⟨p,rfl⟩:=Int.eq_ofNat_of_zero_le h0;have hmax:max ((len:Int) - p) 0=len - p:=by omega
 have hP:=piece_ok a len cap (p:Int) (len - p) ((w.alloc (.cells #[.slice a len cap] 190)).alloc (.cells #[.slice none 0 0] 190)) hl hc (by omega) (by omega) (by omega)
 rw [show ((p:Int)).toNat=p from rfl,show ((len:Int) - p).toNat=len - p by omega] at hP
 rw [show ((p:Int)).toNat=p from rfl]
 have HP:=Bas.hid hP;clear hP;go_enter Tryz.func107,Tryz.ntmps107
 go_wp2_with (fail);refine HP.out.mono ?_;rintro e w1 ⟨rfl,hw1⟩;have hz:w.heap.size+2≤w1.heap.size:=by have:=hw1.size;simp at this;omega
 obtain ⟨hc1,hf1⟩:=Bas.bcell hw1;have HB:=Bas.on (((Below.refl w.heap.size w).alloc (Nat.le_refl _) _).alloc (by simp) _) hw1
 clear hw1 HP;go_wp2_with (fail);exact bodyPost_ret (v:=.agg #[.slice (sub a p (len - p)) (len - p) (len - p)]) (by simp [results,Tryz.results107,go_sem,hc1]) rfl ⟨rfl,HB.setCell (by simp) _⟩
theorem cut_nat(a:Option Addr)(len cap:Nat)(p n:Nat)(w:World)(hl:len≤cap)(hc:cap≤maxLen)(h2:p+n≤len):
  Calls Tryz.prog 95 #[.agg #[.slice a len cap],.int .i64 p,.int .i64 n] w fun e w'=>e=.returned (.agg #[.slice (sub a p n) n n])∧Below w.heap.size w w':=
 cut_ok a len cap p n w hl hc (by omega) (by omega) (by omega)
def rowsB(len:Nat)(at' n size:Int):Prop:=0≤n∧0≤size∧(size=0∨n≤(len:Int) / size)∧0≤at'∧at'+n*size≤len
theorem cut_nm(a:Option Addr)(len cap:Nat)(at' n m:Int)(w:World)(hm:n=m)(hl:len≤cap)(hc:cap≤maxLen)(h0:0≤at')(h1:0≤m)(h2:at'+m≤len):
  Calls Tryz.prog 95 #[.agg #[.slice a len cap],.int .i64 at',.int .i64 n] w fun e w'=>e=.returned (.agg #[.slice (sub a at'.toNat m.toNat) m.toNat m.toNat])∧Below w.heap.size w w':=by
 subst hm;exact cut_ok a len cap at' n w hl hc h0 h1 h2
theorem rows_ok(a:Option Addr)(len cap:Nat)(at' n size:Int)(w:World)(hl:len≤cap)(hc:cap≤maxLen)(h:rowsB len at' n size):
  Calls Tryz.prog 110 #[.agg #[.slice a len cap],.int .i64 at',.int .i64 n,.int .i64 size] w fun e w'=>e=.returned (.agg #[.slice (sub a at'.toNat (n*size).toNat) (n*size).toNat (n*size).toNat])∧Below w.heap.size w w':=by
 obtain ⟨h1,h2,h3,h4,h5⟩:=h;have hc':=hc;unfold maxLen at hc';have hns:0≤n*size:=Int.mul_nonneg h1 h2;have hw:wrap64 (n*size)=n*size:=IntWalk.wrap64_in _ ⟨by omega,by omega⟩
 by_cases hz:size=0
 ·subst hz;rw [Int.mul_zero] at*;go_enter Tryz.func110,Tryz.ntmps110
  go_wp2_with (fail);refine (need_yes _).mono ?_;rintro e w' ⟨rfl,rfl⟩;go_wp2_with (fail);refine (cut_nm _ _ _ _ _ 0 _ (by first|rfl|simp) hl hc h4 (by omega) (by omega)).mono ?_
  rintro e w1 ⟨rfl,hw1⟩;have hz1:w.heap.size+2≤w1.heap.size:=by have:=hw1.size;simp at this;omega
  obtain ⟨hc1,hf1⟩:=Bas.bcell hw1;have HB:=Bas.on (((Below.refl w.heap.size w).alloc (Nat.le_refl _) _).alloc (by simp) _) hw1
  clear hw1;go_wp2_with (fail);exact bodyPost_ret (v:=.agg #[.slice (sub a at'.toNat 0) 0 0]) (by simp [results,Tryz.results110,go_sem,hc1]) rfl ⟨rfl,HB.setCell (by simp) _⟩
 ·have hz2:1≤size:=by omega
  have hz3:(size==0)=false:=by simpa using hz
  have h3':n≤(len:Int) / size:=by omega
  have hd0:0≤(len:Int) / size:=Int.ediv_nonneg (by omega) h2
  have hd1:(len:Int) / size≤len:=Int.ediv_le_self _ (by omega)
  clear h3;go_enter Tryz.func110,Tryz.ntmps110
  go_wp2_with (fail);refine (need_yesb _ _ (by first|rfl|(simp;done)|(simp;omega))).mono ?_
  rintro e w' ⟨rfl,rfl⟩;go_wp2_with (fail);refine (cut_nm _ _ _ _ _ (n*size) _ (by first|rfl|exact hw) hl hc h4 hns h5).mono ?_
  rintro e w1 ⟨rfl,hw1⟩;have hz1:w.heap.size+2≤w1.heap.size:=by have:=hw1.size;simp at this;omega
  obtain ⟨hc1,hf1⟩:=Bas.bcell hw1;have HB:=Bas.on (((Below.refl w.heap.size w).alloc (Nat.le_refl _) _).alloc (by simp) _) hw1
  clear hw1;go_wp2_with (fail);exact bodyPost_ret (v:=.agg #[.slice (sub a at'.toNat (n*size).toNat) (n*size).toNat (n*size).toNat]) (by simp [results,Tryz.results110,go_sem,hc1]) rfl ⟨rfl,HB.setCell (by simp) _⟩
theorem rows_no(a:Option Addr)(len cap:Nat)(at' n size:Int)(w:World)(hl:len≤cap)(hc:cap≤maxLen)(h:¬rowsB len at' n size):
  Calls Tryz.prog 110 #[.agg #[.slice a len cap],.int .i64 at',.int .i64 n,.int .i64 size] w fun e w'=>e=.panicked short∧Below w.heap.size w w':=by
 have hc':=hc;unfold maxLen at hc';by_cases h1:0≤n
 ·by_cases h2:0≤size
  ·by_cases hz:size=0
   ·subst hz;have h':¬(0≤at'∧at'≤len):=fun h'=>h ⟨h1,by omega,.inl rfl,h'.1,by rw [Int.mul_zero];omega⟩
    have hw:wrap64 (n*0)=0:=by rw [Int.mul_zero];unfold wrap64;omega
    clear h;go_enter Tryz.func110,Tryz.ntmps110
    go_wp2_with (fail);refine (need_yesb _ _ (by first|rfl|(simp;done)|(simp;omega))).mono ?_
    rintro e w' ⟨rfl,rfl⟩;go_wp2_with (fail);refine (cut_no _ _ _ _ _ _ hl hc (by first|omega|(rw [hw];omega)|(simp;omega))).mono ?_
    rintro e w1 ⟨rfl,hw1⟩;go_wp2_with (fail);exact ⟨rfl,rfl,Bas.on (((Below.refl w.heap.size w).alloc (Nat.le_refl _) _).alloc (by simp) _) hw1⟩
   ·have hz2:1≤size:=by omega
    have hz3:(size==0)=false:=by simpa using hz
    have hd0:0≤(len:Int) / size:=Int.ediv_nonneg (by omega) h2
    have hd1:(len:Int) / size≤len:=Int.ediv_le_self _ (by omega)
    by_cases h3:n≤(len:Int) / size
    ·have hm1:n*size≤len:=Int.le_trans (Int.mul_le_mul_of_nonneg_right h3 h2) (Int.ediv_mul_le _ hz);have hns:0≤n*size:=Int.mul_nonneg h1 h2;have hw:wrap64 (n*size)=n*size:=IntWalk.wrap64_in _ ⟨by omega,by omega⟩
     have h':¬(0≤at'∧at'+n*size≤len):=fun h'=>h ⟨h1,h2,.inr h3,h'.1,h'.2⟩
     clear h;go_enter Tryz.func110,Tryz.ntmps110
     go_wp2_with (fail);refine (need_yesb _ _ (by first|rfl|(simp;done)|(simp;omega))).mono ?_
     rintro e w' ⟨rfl,rfl⟩;go_wp2_with (fail);refine (cut_no _ _ _ _ _ _ hl hc (by first|omega|(rw [hw];omega)|(simp;omega))).mono ?_
     rintro e w1 ⟨rfl,hw1⟩;go_wp2_with (fail);exact ⟨rfl,rfl,Bas.on (((Below.refl w.heap.size w).alloc (Nat.le_refl _) _).alloc (by simp) _) hw1⟩
    ·clear h;go_enter Tryz.func110,Tryz.ntmps110
     go_wp2_with (fail);refine (need_nob _ _ (by first|rfl|(simp;done)|(simp;omega))).mono ?_
     rintro e w' ⟨rfl,rfl⟩;go_wp2_with (fail);exact ⟨rfl,rfl,(((Below.refl w.heap.size w).alloc (Nat.le_refl _) _).alloc (by simp) _)⟩
  ·clear h;go_enter Tryz.func110,Tryz.ntmps110
   go_wp2_with (fail);refine (need_nob _ _ (by first|rfl|(simp;done)|(simp;omega))).mono ?_
   rintro e w' ⟨rfl,rfl⟩;go_wp2_with (fail);exact ⟨rfl,rfl,(((Below.refl w.heap.size w).alloc (Nat.le_refl _) _).alloc (by simp) _)⟩
 ·clear h;go_enter Tryz.func110,Tryz.ntmps110
  go_wp2_with (fail);refine (need_nob _ _ (by first|rfl|(simp;done)|(simp;omega))).mono ?_
  rintro e w' ⟨rfl,rfl⟩;go_wp2_with (fail);exact ⟨rfl,rfl,(((Below.refl w.heap.size w).alloc (Nat.le_refl _) _).alloc (by simp) _)⟩
def NewBytes(w:World)(bs:List Int)(e:Ending)(w':World):Prop:=
 ∃v,e=.returned v∧w'.ownsRow w.heap.size 5 1 v bs.length (bs.map (Value.int .u8))∧v≠.slice none 0 0∧Below w.heap.size w w'
theorem info8:(Tryz.prog.info? 5).map (fun i=>(i.zero,i.size,i.bytes))=some (some (.int .u8 0),1,1):=by kernel_rfl
theorem bytes_any(a:Option Addr)(len cap:Nat)(bs:List Int)(w:World)(hl:len≤cap)(hc:cap≤maxLen)(hv:VB w a bs)(hbl:bs.length=len)(hn:a=none→cap=0):
  Calls Tryz.prog 48 #[.agg #[.slice a len cap]] w (NewBytes w bs):=by
 obtain ⟨i8,hi8,hz1,hz2,hz3⟩:=info_parts info8;have hbl2:=hv.len;cases a with
 |none=>
  obtain rfl:cap=0:=hn rfl;obtain rfl:len=0:=by omega
  obtain rfl:bs=[]:=List.length_eq_zero_iff.1 hbl;go_enter Tryz.func48,Tryz.ntmps48
  go_wp2;go_ret;refine ⟨_,rfl, ?_,by simp,((Below.refl w.heap.size w).alloc (Nat.le_refl _) _).alloc (by simp) _⟩
  exact ⟨rfl,.inr ⟨w.heap.size+1,0,#[],rfl,by omega,Bas.heap_new2 _ _ _,by simp,by simp,by simp,by simp⟩⟩
 |some ad=>
  have hnews:∀(j:Nat) (u:Value),(bs.map (Value.int .u8))[j]? =some u→w.cell? (ad.add j)=some u:=by
   intro j u hu;simp only [List.getElem?_map,Option.map_eq_some_iff] at hu;obtain ⟨x,hx,rfl⟩:=hu;have hj:j<bs.length:=(List.getElem?_eq_some_iff.1 hx).1;obtain ⟨b,o,hab,hcell⟩:=hv.cell j hj;simp only [Option.some.injEq] at hab;subst hab;rw [List.getD_eq_getElem?_getD,hx] at hcell;rw [Addr.add_lit];exact hcell
  have hblk:∀(j:Nat) (u:Value),(bs.map (Value.int .u8))[j]? =some u→ad.block<w.heap.size:=fun j u hu=>by
   have:=World.block_lt_of_cell? _ _ (hnews j u hu);unfold Addr.add at this;split at this<;>exact this
  have HN:=Bas.hid hnews;have HK:=Bas.hid hblk;clear hnews hblk;go_enter Tryz.func48,Tryz.ntmps48
  go_wp2_with (at_builtin;refine wpList_append_own _ rfl _ _ 47 rfl w.heap.size 5 i8 (.int .u8 0) 1 1 Tryz.underlying47 hi8 hz1 hz2 hz3 rfl (by decide) (.slice (some ⟨w.heap.size+1,0,none⟩) 0 0) 0 [] rfl ?c1 ad len cap (bs.map (Value.int .u8)) rfl ?c2 ?c3 ?c4 ?c5 ?c6 ?c7 ?_)
  case c1=>exact ⟨rfl,.inr ⟨w.heap.size+1,0,#[],rfl,by omega,Bas.heap_new2 _ _ _,by simp,by simp,by simp,by simp⟩⟩
  case c2=>simp [hbl]
  case c3=>
   intro j u hu;have h1:=HN.out j u hu;have h2:=HK.out j u hu;have hb:(ad.add j).block<w.heap.size:=World.block_lt_of_cell? _ _ h1;rw [World.cell?_alloc_lt _ _ _ (by simp;omega),World.cell?_alloc_lt _ _ _ hb]
   exact h1
  case c4=>
   intro u hu;obtain ⟨x,_,rfl⟩:=List.mem_map.1 hu;rfl
  case c5=>omega
  case c6=>omega
  case c7=>simp;omega
  intro v' w' hown hgrow hne;go_wp2;go_ret;refine ⟨v',rfl,by rw [hbl];exact hown,by simpa using hne, ?_⟩
  exact (((Below.refl w.heap.size w).alloc (Nat.le_refl _) _).alloc (by simp) _).grown hgrow (by simp;omega) (by intro k hk;simp [Value.ownBlock] at hk;omega)
theorem catch_short(B:Nat)(b:Bool)(w:World)(hc:w.cell? ⟨B,0,none⟩=some (.bool b))(hz:w.frozen? ⟨B,0,none⟩=false):
  CallsD Tryz.prog 96 #[.pointer (some ⟨B,0,none⟩)] (.panicking short) w fun e u' w'=>
   e=.returned (.tuple #[])∧u'=.panicking [{ v:=.iface 282 (.agg #[]),recovered:=true }]∧w'=(w.setCell ⟨B,0,none⟩ (.bool false)).alloc (.cells #[] 282):=by
 have hB:B<w.heap.size:=World.block_lt_of_cell? _ _ hc;have hc':(w.alloc (.cells #[] 282)).cell? ⟨B,0,none⟩=some (.bool b):=by rw [World.cell?_alloc_lt _ _ _ hB];exact hc
 have hz':(w.alloc (.cells #[] 282)).frozen? ⟨B,0,none⟩=false:=by rw [frozen?_alloc_cells];exact hz
 have hta:∀w,(Instr.typeAssert (.iface 282 (.agg #[])) 20 282 true).run Tryz.prog w=.ok (.tuple #[.agg #[],.bool true]) w:=fun _=>by kernel_rfl
 refine callsD_of_wpS Tryz.func96 rfl fun c₀ cs hu=> ?_
 apply wpS_seq;apply wpS_region;simp [wpOpsS,go_sem,recoverD,hu,Tryz.ntmps96,Exit.thenS,short];refine wpS_of_wp ?_;simp only [Array.replicate_succ,Array.replicate_zero,List.push_toArray,List.append_toArray,List.nil_append,List.cons_append,List.setIfInBounds_toArray,List.set_cons_succ,List.set_cons_zero];go_wp2;simp [bodyPostS,results,Tryz.results96]
theorem catch_idle(B:Nat)(w:World):
  CallsD Tryz.prog 96 #[.pointer (some ⟨B,0,none⟩)] .returning w fun e u' w'=>e=.returned (.tuple #[])∧u'=.returning∧w'=w:=by
 refine callsD_of_wpS Tryz.func96 rfl fun c₀ cs hu=> ?_
 apply wpS_seq;apply wpS_region;simp [wpOpsS,go_sem,recoverD,hu,Tryz.ntmps96,Exit.thenS];refine wpS_of_wp ?_;simp only [Array.replicate_succ,Array.replicate_zero,List.push_toArray,List.append_toArray,List.nil_append,List.cons_append,List.setIfInBounds_toArray,List.set_cons_succ,List.set_cons_zero];go_wp2;cases c₀
 simp_all [bodyPostS,results,Tryz.results96]
def TryPost(B:Nat)(R:Bool→World→Prop)(e:Ending)(w2:World):Prop:=
 w2.heap[B]? =some (.cells #[.bool false] 4)∧((e=.returned (.tuple #[])∧R true w2)∨(e=.panicked short∧R false w2))
def TryDone(B:Nat)(R:Bool→World→Prop)(e:Ending)(w':World):Prop:=
 ∃ok w2,e=.returned (.bool ok)∧R ok w2∧B<w2.heap.size∧w2.grownBy w' (some B)
theorem try_any(K:Nat)(caps:Array Value)(w:World)(R:Bool→World→Prop)(hcf:∀w,(callFunc K caps).run Tryz.prog w=.ok (.enter K caps) w)
  (h:Calls Tryz.prog K caps (w.alloc (.cells #[.bool false] 4)) (TryPost w.heap.size R)):
  Calls Tryz.prog 51 #[.func (.func K) #[] caps] w (TryDone w.heap.size R):=by
 have hmf:∀(fn:Fn) (first cap:Array Value) (w:World),(Instr.makeFunc fn first cap).run Tryz.prog w=.ok (.func fn first cap) w:=fun _ _ _ _=>rfl
 have H:=Bas.hid h;clear h
 go_enter_defers Tryz.func51,Tryz.ntmps51
 go_wp2_with (fail);refine H.out.mono ?_;clear H hcf;rintro e w2 ⟨hB,⟨rfl,hR⟩|⟨rfl,hR⟩⟩
 ·have hlt:w.heap.size<w2.heap.size:=(Array.getElem?_eq_some_iff.1 hB).1;have hc:w2.cell? ⟨w.heap.size,0,none⟩=some (.bool false):=by simp [World.cell?,hB]
  have hz:w2.frozen? ⟨w.heap.size,0,none⟩=false:=by simp [World.frozen?,hB]
  have HBB:=Bas.hid hB;clear hB;go_wp2_with (fail);refine leaves_cons (f:=96) (args:=#[.pointer (some ⟨w.heap.size,0,none⟩)]) (by simp) (by simp [go_sem]) ?_
  refine (catch_idle w.heap.size _).mono ?_;rintro e u' w'' ⟨rfl,rfl,rfl⟩;have hg:w2.grownBy (w2.setCell ⟨w.heap.size,0,none⟩ (.bool true)) (some w.heap.size):=
   ⟨rfl,rfl,rfl,by simp,fun k _ hk=>Below.heap_setCell _ _ _ _ (fun e=>hk (by rw [e]))⟩
  refine ⟨.bool true, ?_,true,w2,rfl,hR,hlt,hg⟩;simp [results,Tryz.results51,go_sem,hc]
 ·have hlt:w.heap.size<w2.heap.size:=(Array.getElem?_eq_some_iff.1 hB).1;have hc:w2.cell? ⟨w.heap.size,0,none⟩=some (.bool false):=by simp [World.cell?,hB]
  have hz:w2.frozen? ⟨w.heap.size,0,none⟩=false:=by simp [World.frozen?,hB]
  clear hB;go_wp2_with (fail);refine leaves_cons (f:=96) (args:=#[.pointer (some ⟨w.heap.size,0,none⟩)]) (by simp) (by simp [go_sem]) ?_
  refine (catch_short w.heap.size false _ hc hz).mono ?_;rintro e u' w'' ⟨rfl,rfl,rfl⟩;have hg:w2.grownBy ((w2.setCell ⟨w.heap.size,0,none⟩ (.bool false)).alloc (.cells #[] 282)) (some w.heap.size):=
   ⟨rfl,rfl,rfl,by simp,fun k hk' hk=>(Below.heap_alloc (w2.setCell ⟨w.heap.size,0,none⟩ (.bool false)) _ k (by simpa using hk')).trans (Below.heap_setCell _ _ _ _ (fun e=>hk (by rw [e])))⟩
  have hp:TryDone w.heap.size R (.returned (.bool false)) ((w2.setCell ⟨w.heap.size,0,none⟩ (.bool false)).alloc (.cells #[] 282)):=⟨false,w2,rfl,hR,hlt,hg⟩;have hr:((w2.setCell ⟨w.heap.size,0,none⟩ (.bool false)).alloc (.cells #[] 282)).cell? ⟨w.heap.size,0,none⟩=some (.bool false):=by
   rw [World.cell?_alloc_lt (w2.setCell ⟨w.heap.size,0,none⟩ (.bool false)) _ _ (by simp only [World.setCell,Array.size_modify];exact hlt)];simp [go_sem,hc]
  simp [Leaves,settle,results,Tryz.results51,go_sem,hp,hr]
theorem VB_of_row{w:World}{a:Option Addr}{len cap:Nat}{zs:List Int}(h:Bas.IsRow .u8 w a len cap zs)(hlen:len≤140737488355328):
  VB w a (zs.take len)∧(zs.take len).length=len∧len≤cap∧cap≤maxLen∧(a=none→cap=0):=by
 rcases h with ⟨rfl,rfl,rfl,rfl⟩|⟨x,rfl,hl,hm,hz,hcell,hwz⟩
 ·exact ⟨⟨by simp,by simp,by simp⟩,by simp,by simp,by simp,fun _=>rfl⟩
 ·have hlt:(zs.take len).length=len:=by simp;omega
  refine ⟨⟨by omega,fun y hy=>Bas.wf_u8 (hwz y (List.mem_of_mem_take hy)),fun i hi=> ?_⟩,hlt,hl,hm,by simp⟩
  have hi':i<len:=by omega
  have hc:=hcell i (by omega)
  have hs:=World.cell?_spot hc;obtain ⟨b,o,s⟩:=x;by_cases hi0:i=0
  ·subst hi0;have:s=none:=by simpa [Addr.add] using hs
   subst this;refine ⟨b,o,rfl, ?_⟩;rw [Addr.add_lit] at hc;rw [hc];simp [hi']
  ·have hc0:=hcell 0 (by omega)
   have hs0:=World.cell?_spot hc0;have:s=none:=by simpa [Addr.add] using hs0
   subst this;refine ⟨b,o,rfl, ?_⟩;rw [Addr.add_lit] at hc;rw [hc];simp [hi']
theorem conv_vb{w:World}{a:Option Addr}{bs:List Int}(h:VB w a bs)(len cap:Nat)(hl:bs.length=len):
  (convert 47 9 (.slice a len cap)).run Tryz.prog w=.ok (.string (strOfNums bs)) w:=by
 cases a with
 |none=>
  have:bs=[]:=by
   cases bs with
   |nil=>rfl
   |cons x l=>obtain ⟨b,o,hb,_⟩:=h.cell 0 (by simp);cases hb
  subst this;exact run_convert_bytes_nil w 47 5 Tryz.underlying47 Tryz.underlying5 len cap 9 Tryz.underlying9
 |some ad=>
  rw [run_convert_bytes_string w 47 9 5 _ len cap Tryz.underlying47 Tryz.underlying5 Tryz.underlying9];have hl':=run_loadCells_list (P:=Tryz.prog) w ad (bs.map (Value.int .u8)) (fun j v hj=>by
   simp only [List.getElem?_map,Option.map_eq_some_iff] at hj;obtain ⟨x,hx,rfl⟩:=hj;have hj:j<bs.length:=(List.getElem?_eq_some_iff.1 hx).1;obtain ⟨b,o,hab,hcell⟩:=h.cell j hj;simp only [Option.some.injEq] at hab;subst hab;rw [List.getD_eq_getElem?_getD,hx] at hcell;rw [Addr.add_lit];exact hcell)
  rw [List.length_map,hl] at hl';rw [run_bytesToString w ad len cap bs hl',foldl_push_bytes];simp [strOfNums,ByteArray.empty,ByteArray.emptyWithCapacity];rfl
def OwnB(w:World)(g n:Nat):Prop:=∃cur,w.heap[g]? =some (.cells cur 5 (0,0))∧∀i,i<n→∃y,cur[i]? =some (.int .u8 y)
theorem owned{w:World}{base:Nat}{v:Value}{n:Nat}{bs:List Int}(h:w.ownsRow base 5 1 v n (bs.map (Value.int .u8)))(hne:v≠.slice none 0 0)(hn:n=bs.length)(hb:∀x∈bs,0≤x∧x≤255)(hl:bs.length≤140737488355328):
  ∃g cap,v=.slice (some ⟨g,0,none⟩) n cap∧base≤g∧g<w.heap.size∧n≤cap∧cap≤maxLen∧VB w (some ⟨g,0,none⟩) bs∧OwnB w g n:=by
 obtain ⟨hlen,⟨rfl,_⟩|⟨g,cap,cur,rfl,hg,hh,hc,hm,hs,ht⟩⟩:=h
 ·exact absurd rfl hne
 ·have hcur:∀i,i<n→cur[i]? =some (.int .u8 (bs.getD i 0)):=by
   intro i hi;have h1:(cur.toList.take (n*1))[i]? =(bs.map (Value.int .u8))[i]? :=by rw [ht]
   rw [List.getElem?_take_of_lt (by omega)] at h1
   rw [←Array.getElem?_toList,h1,List.getElem?_map,List.getElem?_eq_getElem (by omega)]
   simp [show i<bs.length by omega]
  refine ⟨g,cap,rfl,hg,(Array.getElem?_eq_some_iff.1 hh).1,hc,hm,⟨hl,hb,fun i hi=>⟨g,0,rfl, ?_⟩⟩,cur,hh,fun i hi=>⟨_,hcur i hi⟩⟩
  simp [World.cell?,hh,hcur i (by omega)]
end Vw
namespace Row
theorem leads_slice{w:World}{v:Value}{n:Nat}{xs:List Value}(h:Leads w v n xs):∃ad cap,v=.slice ad n cap:=by
 rcases h with ⟨rfl,rfl,_⟩|⟨ad,cap,rfl,_⟩
 ·exact ⟨_,_,rfl⟩
 ·exact ⟨_,_,rfl⟩
theorem leads_below{w w':World}{v:Value}{n:Nat}{xs:List Value}(h:Leads w v n xs)(hb:Below w.heap.size w w'):Leads w' v n xs:=by
 rcases h with h|⟨ad,cap,rfl,hc⟩
 ·exact .inl h
 ·exact .inr ⟨ad,cap,rfl,fun j u hu=>(hb.cell (World.block_lt_of_cell? _ _ (hc j u hu))).trans (hc j u hu)⟩
theorem leads_elem{α:Type}{f:α→List Value}{m:Nat}(hf:∀x,(f x).length=m){w:World}{v:Value}{n:Nat}{l:List α}(h:Leads w v n (l.flatMap f)){i:Nat}{x:α}(hx:l[i]? =some x)(hm:0<m):
  ∃b o cp,v=.slice (some ⟨b,o,none⟩) n cp∧∀j u,(f x)[j]? =some u→w.cell? ⟨b,o+i*m+j,none⟩=some u:=by
 have hne:∃u,(l.flatMap f)[0]? =some u:=by
  cases l with
  |nil=>simp at hx
  |cons y l=>
   have hy:=hf y;cases hfy:f y with
   |nil=>rw [hfy] at hy;simp at hy;omega
   |cons u r=>exact ⟨u,by simp [hfy]⟩
 rcases h with ⟨_,_,h0⟩|⟨ad,cap,rfl,hc⟩
 ·obtain ⟨u,hu⟩:=hne;rw [h0] at hu;simp at hu
 ·obtain ⟨u0,hu0⟩:=hne;have h0:=hc 0 u0 hu0;obtain ⟨b,o,s⟩:=ad;have hs:s=none:=by have:=World.cell?_spot h0;simpa [Addr.add] using this
  subst hs;refine ⟨b,o,cap,rfl,fun j u hu=> ?_⟩
  have:=hc (i*m+j) u (flat_get hf l i j x u hx hu);rw [Addr.add_lit] at this;rw [Nat.add_assoc];exact this
theorem take_flat{α β:Type}(f:α→List β)(l:List α)(k:Nat)(x:α)(h:l[k]? =some x):(l.take (k+1)).flatMap f=(l.take k).flatMap f++f x:=by
 rw [List.take_add_one,h,List.flatMap_append];simp
theorem flat_len_le{α β:Type}(f:α→List β)(M:Nat):∀(l:List α),(∀x∈l,(f x).length≤M)→(l.flatMap f).length≤M*l.length
 |[],_=>by simp
 |y::l,h=>by
  have h1:=h y (by simp)
  have h2:=flat_len_le f M l (fun x hx=>h x (by simp [hx]))
  simp only [List.flatMap_cons,List.length_append,List.length_cons,Nat.mul_add];omega
theorem take_len_le{α β:Type}(f:α→List β)(M:Nat)(l:List α)(k:Nat)(h:∀x∈l,(f x).length≤M)(hk:k≤l.length):((l.take k).flatMap f).length≤M*k:=by
 have:=flat_len_le f M (l.take k) (fun x hx=>h x (List.mem_of_mem_take hx))
 rwa [List.length_take,Nat.min_eq_left hk] at this
theorem append_at{P:Program}{w:World}{ops:Array Oper}{rest:List Oper}{o:Oper}{a:Act}{Q:Exit→Act→World→Prop}(hgd:o.guard=none)(s x:Operand)(t e:TypeId)
  (ho:o.op=.call { callee:=.builtin .append,args:=#[s,x],argTypes:=#[t,t] })
  (z:Value) (size bytes:Nat) (ht:P.underlying t=some (.slice e)) (hinfo:(P.info? e).map (fun i=>(i.zero,i.size,i.bytes))=some (some z,size,bytes)) (hzs:z.cells.size=size) (hsz:0<size)
  (base:Nat) (v:Value) (n:Nat) (xs:List Value) (hs:a.eval s=v) (hown:w.ownsRow base e size v n xs)
  (vx:Value) (len:Nat) (news:List Value) (hx:a.eval x=vx) (hl:Leads w vx len news) (hln:news.length=len*size) (h1:∀u∈news,u.oneCell'=true)
  (h63:n+len≤maxLen) (hbd:(n+len)*bytes≤140737488355328) (hbase:base≤w.heap.size)
  (h:∀v' w',w'.ownsRow base e size v' (n+len) (xs++news)→w.grownBy w' v.ownBlock→(v'=.slice none 0 0→v=.slice none 0 0)→(v'.ownBlock=v.ownBlock∨v'.ownBlock=some w.heap.size)→wpList P ops Q rest (a.put o.dst v') w'):
  wpList P ops Q (o::rest) a w:=by
 obtain ⟨i8,hi8,hz1,hz2,hz3⟩:=info_parts hinfo;rcases hl with ⟨rfl,rfl,rfl⟩|⟨ad,cap,rfl,hc⟩
 ·exact wpList_append_own_none hgd s x t ho base e i8 size ht hi8 v n _ hs hown hx (h v w (by simpa using hown) (Bas.grefl _ _) id (.inl rfl))
 ·exact wpList_append_own_at _ hgd s x t ho base e i8 z size bytes ht hi8 hz1 hz2 hz3 hzs hsz v n _ hs hown ad len cap news hx hln hc h1 h63 hbd hbase fun v' w' h1 h2 h3 h4=>h v' w' h1 h2 (fun e=>(h3.1 e).1) h4
end Row
namespace Wr
open Vw
def putB(n:Int):Nat→List Int
 |0=>[]
 |k+1=>(n / 256^k)%256::putB n k
theorem putB_len(n:Int)(k:Nat):(putB n k).length=k:=by induction k<;>simp [putB, *]
theorem putB_byte(n:Int)(k:Nat):∀x∈putB n k,0≤x∧x≤255:=by
 induction k with
 |zero=>intro x hx;cases hx
 |succ k ih=>
  intro x hx;rcases List.mem_cons.1 hx with rfl|h
  ·omega
  ·exact ih x h
structure Grown (w:World) (base:Nat) (v:Value) (ys:List Int) (v':Value) (w':World):Prop where
 own:w'.ownsRow base 5 1 v' ys.length (ys.map (Value.int .u8))
 grow:w.grownBy w' v.ownBlock
 at':v'.ownBlock=v.ownBlock∨∃g,v'.ownBlock=some g∧w.heap.size≤g
theorem Grown.refl{w:World}{base:Nat}{v:Value}{ys:List Int}(h:w.ownsRow base 5 1 v ys.length (ys.map (Value.int .u8))):Grown w base v ys v w:=⟨h,Bas.grefl _ _,.inl rfl⟩
theorem Grown.trans{w w1 w2:World}{base:Nat}{v v1 v2:Value}{ys zs:List Int}(h:Grown w base v ys v1 w1)(k:Grown w1 base v1 zs v2 w2):Grown w base v zs v2 w2:=by
 have hs:=h.grow.size;refine ⟨k.own,⟨k.grow.os.trans h.grow.os,k.grow.tape.trans h.grow.tape,k.grow.output.trans h.grow.output,Nat.le_trans hs k.grow.size,fun i hi hr=> ?_⟩, ?_⟩
 ·refine (k.grow.block i (Nat.lt_of_lt_of_le hi hs) fun e=> ?_).trans (h.grow.block i hi hr)
  rcases h.at' with h1|⟨g,h1,h2⟩
  ·exact hr (e.trans h1)
  ·rw [h1] at e;cases e;omega
 ·rcases k.at' with h1|⟨g,h1,h2⟩
  ·rcases h.at' with h3|⟨g,h3,h4⟩
   ·exact .inl (h1.trans h3)
   ·exact .inr ⟨g,h1.trans h3,h4⟩
  ·exact .inr ⟨g,h1,by omega⟩
theorem Grown.add{w wr wa w2:World}{base:Nat}{v u v':Value}{cur:List Int}(h:Grown w base v cur u wr)(zs:List Int)(hown:w2.ownsRow base 5 1 v' (cur++zs).length ((cur++zs).map (Value.int .u8)))
  (ha:wr.grownBy wa u.ownBlock) (hg:wa.grownBy w2 u.ownBlock) (hat:v'.ownBlock=u.ownBlock∨∃g,v'.ownBlock=some g∧wr.heap.size≤g):Grown w base v (cur++zs) v' w2:=
 h.trans ⟨hown,Bas.gtrans ha hg,hat⟩
theorem Grown.below{w w':World}{base B:Nat}{v v':Value}{ys:List Int}{a:World}(h:Grown w base v ys v' w')(hb:Below B a w)(hB:B≤w.heap.size)(hv:∀g,v.ownBlock=some g→B≤g):Below B a w':=
 hb.grown h.grow hB hv
def PutPost(w:World)(base:Nat)(v:Value)(ys:List Int)(e:Ending)(w':World):Prop:=∃v',e=.returned v'∧Grown w base v ys v' w'
theorem quo_bd(n:Int)(t:Nat)(hn:0≤n):0≤n / 256^t∧n / 256^t≤n:=by
 have h:(0:Int)<256^t:=Int.pow_pos (by omega)
 exact ⟨Int.ediv_nonneg hn (by omega),Int.ediv_le_self _ hn⟩
theorem quo_succ(n:Int)(t:Nat)(_hn:0≤n):n / 256^(t+1)=n / 256^t / 256:=by
 have h:(0:Int)<256^t:=Int.pow_pos (by omega)
 rw [Int.pow_succ,Int.ediv_ediv_of_nonneg (by omega)]
theorem put_any(n:Int)(size:Nat)(base:Nat)(v:Value)(xs:List Int)(w:World)(hn:0≤n)(hn2:n≤9223372036854775807)(hs:size≤8)(hxs:xs.length≤1000000000)(hbase:base≤w.heap.size)
  (hown:w.ownsRow base 5 1 v xs.length (xs.map (Value.int .u8))):
  Calls Tryz.prog 30 #[v,.int .i64 n,.int .i64 size] w (PutPost w base v (xs++putB n size)):=by
 have HG:=Bas.hid (Grown.refl hown);clear hown;go_enter Tryz.func30,Tryz.ntmps30
 go_wp2_with (fail);go_loopw [0,7] (fun cv c wr=>∃(k:Nat) (cur:List Int),k≤size∧c=.int .i64 ((k:Int) - 1)∧cur++putB n k=xs++putB n size∧Grown w base v cur cv wr) (fun _ c _=>(intOf c+1).toNat)
 case atStart=>exact ⟨size,xs,Nat.le_refl _,rfl,rfl,HG.out⟩
 case round=>
  obtain ⟨k,cur,hk,rfl,hcur,hg⟩:=hrel;have hcl:cur.length≤1000000008:=by
   have:=congrArg List.length hcur;simp [putB_len] at this;omega
  have HC:=Bas.hid hcur;have HGR:=Bas.hid hg;clear hcur hg;by_cases hk0:0<k
  ·obtain ⟨j,rfl⟩:∃j,k=j+1:=⟨k - 1,by omega⟩
   have e1:((j+1:Nat):Int) - 1=(j:Int):=by omega
   rw [e1];clear e1;go_wp2_with (fail);go_loop [8,9] (fun kv jv=>∃t:Nat,t≤j∧jv=.int .i64 t∧kv=.int .i64 (n / 256^t)) (fun _ jv=>j - (intOf jv).toNat)
   case atStart=>exact ⟨0,Nat.zero_le _,rfl,by simp⟩
   case round=>
    obtain ⟨t,ht,rfl,rfl⟩:=hrel;obtain ⟨b1,b2⟩:=quo_bd n t hn;by_cases htj:t<j
    ·have hs:=Bas.hid (quo_succ n t hn);generalize n / 256^t=q at*;go_wp2_with (fail);go_round
     case rel=>exact ⟨t+1,by omega,by go_num,by rw [hs.out]⟩
     case measure=>simp [intOf];omega
    ·have htj2:t=j:=by omega
     subst htj2;have hp:Hid (putB n (t+1)=(n / 256^t)%256::putB n t):=rfl;generalize n / 256^t=q at*;have b3:0≤q%256:=by omega
     have b4:q%256≤255:=by omega
     go_wp2_with (at_builtin;refine Row.append_at rfl _ _ 47 5 rfl (.int .u8 0) 1 1 Tryz.underlying47 info8 rfl (by decide) base _ cur.length (cur.map (Value.int .u8)) rfl (HGR.out.own.alloc _) (.slice (some ⟨wr.heap.size,0,none⟩) 1 1) 1 [.int .u8 (q%256)] rfl (Row.leads_one _ _ _) rfl (by simp;rfl) (by unfold maxLen;omega) (by omega) (by have:=HGR.out.grow.size;simp;omega) ?_)
     intro v' w2 hown2 hg2 _ hat;have HG2:=Bas.hid (HGR.out.add [q%256] (by simpa using hown2) (Bas.galloc (Bas.grefl _ _) _) hg2 (hat.imp id fun h=>⟨_,h,by omega⟩))
     clear hown2 hg2 hat;go_wp2_with (fail);go_roundw
     case rel=>exact ⟨t,cur++[q%256],by omega,by go_num,by rw [←HC.out,hp.out];simp,HG2.out⟩
     case measure=>simp [intOf]
  ·have hk00:k=0:=by omega
   subst hk00;go_wp2_with (fail);go_ret;have h1:=HGR.out;have h2:=HC.out;simp only [putB,List.append_nil] at h2;rw [h2] at h1;exact ⟨_,rfl,h1⟩
end Wr
namespace Pl
section
variable {P:Program} {Q:Exit→Act→World→Prop}
theorem fam_g(w:World)(r:Option Nat):∃(I:Type) (F:I→World) (i0:I),w.drew=F i0∧(∀i w',(F i).grownBy w' r→∃j,w'=F j)∧(∀w',w.grownBy w' r→∃j,w'=F j)∧∀i,w.grownBy (F i) r:=
 ⟨{ u:World // w.grownBy u r },fun i=>i.1,⟨w.drew,Bas.gdrew (Bas.grefl _ _)⟩,rfl,fun i w' h=>⟨⟨w',Bas.gtrans i.2 h⟩,rfl⟩,fun w' h=>⟨⟨w',h⟩,rfl⟩,fun i=>i.2⟩
theorem region_plan0{id:Nat}{a:Act}{w:World}{l:List Oper}{I:Type}{F:I→World}(i0:I)(plan:List (Bool×Nat))(late:List Nat)(hm:P.follows .mixedOrders=true)
  (hB:(Region.noSelect l.toArray&&decide (plan.length=l.length)&&planB .any l.toArray late plan (Array.replicate l.toArray.size false))=true)
  (hQ:∀c a a' w,Act.defers a=Act.defers a'→Q (.panic c) a w→Q (.panic c) a' w) (h0:w.drew=F i0)
  (h:walkM P l.toArray Q (fun w=>∃i,w=F i) late plan a (F i0)):(Code.region id l.toArray true).wp P Q a w:=by
 simp only [Bool.and_eq_true,decide_eq_true_eq] at hB;obtain ⟨⟨hs,hl⟩,hB⟩:=hB;refine wp_region_any hm ?_;change wpAny P .any l.toArray Q _ _ a w.drew;rw [h0];have H:=wpAnyF_of_plan (md:=.any) (late:=late) (S:=fun w=>∃i,w=F i) hs (fun c a d v w=>hQ c _ _ w (put_defers a d v)) ⟨F i0,i0,rfl⟩ plan (Array.replicate l.toArray.size false) a (F i0)
  ⟨by simp,fun j oj _ hl=>(by rw [getD_replicate_false] at hl;cases hl)⟩ hB (fun _=>⟨i0,rfl⟩) h
 have:=wpAny_of_F _ _ _ _ H;rw [hl] at this;simpa using this
variable {ops:Array Oper} {late:List Nat}
theorem walk_quiet0{I:Type}{F:I→World}(w0:World){rest:List (Bool×Nat)}(c:List (Bool×Nat))(l:List Oper)(a:Act)(hl:fits ops c l)(hv:valuesB c l=true)(ht:(c.all fun x=>x.1)=true)
  (h:wpQuiet P ops (fun w=>∃i,w=F i) (fun a'=>walkM P ops Q (fun w=>∃i,w=F i) late rest a' w0) l a):walkM P ops Q (fun w=>∃i,w=F i) late (c++rest) a w0:=by
 induction c generalizing l a with
 |nil=>
  cases l with
  |nil=>exact h
  |cons o l=>exact hl.elim
 |cons x c ih=>
  cases l with
  |nil=>exact hl.elim
  |cons o l=>
   obtain ⟨ho,hl⟩:=hl;simp only [valuesB,Bool.and_eq_true,Bool.or_eq_true,Bool.not_eq_true'] at hv;simp only [List.all_cons,Bool.and_eq_true] at ht;obtain ⟨hv0,hv⟩:=hv;have ih:=fun a' h'=>ih l a' hl hv ht.2 h'
   have hq:qOp P ops (fun w=>∃i,w=F i) x.2 (wpQuiet P ops (fun w=>∃i,w=F i) (fun a'=>walkM P ops Q (fun w=>∃i,w=F i) late rest a' w0) l) a:=by unfold qOp;simp only [ho];exact h
   obtain ⟨b,n⟩:=x;have hb:b=true:=ht.1;subst hb;obtain ⟨v,hy,hk⟩:=yieldsIn_of_qOp ho hq;refine ⟨o,v,ho, ?_,ih _ hk⟩;rcases hy with ⟨hw,hy⟩|hy
   ·refine .inl ⟨hw,fun w hS=> ?_⟩
    have h1:=hy w hS;have hvo:valueOp o=true:=by simpa using hv0
    unfold Oper.quietAt at h1;generalize hr:(execOp a.eval o).run P w=r at h1;cases r with
    |ok n w'=>
     obtain ⟨u,rfl⟩:=value_run hvo hr;obtain ⟨rfl,rfl⟩:=h1;exact ⟨rfl,rfl⟩
    |halt x w'=>exact h1.elim
   ·exact .inr hy
theorem head_sel0{I:Type}{F:I→World}{w0:World}{l:List Oper}{a:Act}{rest:List (Bool×Nat)}(c:List (Bool×Nat))(hB:okB l c=true)(ht:(c.all fun x=>x.1)=true)
  (h:wpQuiet P l.toArray (fun w=>∃i,w=F i) (fun a'=>walkM P l.toArray Q (fun w=>∃i,w=F i) late rest a' w0) (sel l c) a):walkM P l.toArray Q (fun w=>∃i,w=F i) late (c++rest) a w0:=
 walk_quiet0 w0 c _ a (fits_sel hB).1 (fits_sel hB).2 ht h
end
end Pl
namespace Fo
open Vw
theorem cell_of_heap{w:World}{b i:Nat}{cs:Array Value}{t:TypeId}{v:Value}(h:w.heap[b]? =some (.cells cs t (0,0)))(hi:cs[i]? =some v):w.cell? ⟨b,i,none⟩=some v:=by
 simp [World.cell?,h,hi]
theorem free_of_heap{w:World}{b i:Nat}{cs:Array Value}{t:TypeId}(h:w.heap[b]? =some (.cells cs t (0,0))):w.frozen? ⟨b,i,none⟩=false:=by
 simp [World.frozen?,h]
theorem heap_set{w:World}{b i:Nat}{cs:Array Value}{t:TypeId}(h:w.heap[b]? =some (.cells cs t (0,0)))(v:Value):(w.setCell ⟨b,i,none⟩ v).heap[b]? =some (.cells (cs.setIfInBounds i v) t (0,0)):=by
 simp [World.setCell,Array.getElem?_modify,h]
theorem heap_lt{w:World}{b:Nat}{o:Obj}(h:w.heap[b]? =some o):b<w.heap.size:=(Array.getElem?_eq_some_iff.1 h).1
theorem leads_heap{w:World}{g n c:Nat}{cs:List Value}{t:TypeId}(h:w.heap[g]? =some (.cells cs.toArray t (0,0))):Row.Leads w (.slice (some ⟨g,0,none⟩) n c) n cs:=
 .inr ⟨_,c,rfl,fun j u hu=>by rw [Addr.add_lit,Nat.zero_add];exact cell_of_heap h (by simpa using hu)⟩
theorem own_slice{w:World}{base size:Nat}{e:TypeId}{v:Value}{n:Nat}{xs:List Value}(h:w.ownsRow base e size v n xs):∃ad cp,v=.slice ad n cp:=by
 rcases Row.owned_parts h with ⟨rfl,rfl,_⟩|⟨_,_,h,_⟩
 ·exact ⟨_,_,rfl⟩
 ·exact ⟨_,_,h⟩
theorem own_ty{w:World}{base:Nat}{v:Value}{n g size:Nat}{xs:List Value}{e t:TypeId}{cs:Array Value}(h:w.ownsRow base e size v n xs)(ho:w.heap[g]? =some (.cells cs t (0,0)))(hne:e≠t):v.ownBlock≠some g:=by
 intro e';obtain ⟨_,⟨rfl,_⟩|⟨g',cp,cur,rfl,_,hh,_⟩⟩:=h
 ·cases e'
 ·cases e';rw [hh] at ho;simp at ho;exact hne ho.2
theorem be_sub(bs:List Int)(q m i k:Nat)(h:i+k≤m):be ((bs.drop q).take m) i k=be bs (q+i) k:=by
 unfold be;rw [List.drop_take,List.take_take,List.drop_drop,Nat.min_eq_left (by omega)]
structure PartD where
 tag:ByteArray
 data:List Int
def pC(x:PartD×Value):List Value:=[.string x.1.tag,x.2]
theorem pC_len(x:PartD×Value):(pC x).length=2:=rfl
def u8C(x:Int):List Value:=[.int .u8 x]
def x4(bs:List Int)(i:Nat):Nat→Int
 |0=>0
 |k+1=>x4 bs i k*256+(if i+k<bs.length then bs.getD (i+k) 0 else 0)
def sumTo(bs:List Int):Nat→Int
 |0=>0
 |m+1=>(sumTo bs m+x4 bs (4*m) 4)%4294967296
def sumL(bs:List Int):Int:=sumTo bs ((bs.length+3) / 4)
def topB:Nat→Int
 |0=>0
 |k+1=>topB k*256+255
theorem x4_bd(bs:List Int)(hb:∀x∈bs,0≤x∧x≤255)(i:Nat):∀k,0≤x4 bs i k∧x4 bs i k≤topB k
 |0=>by simp [x4,topB]
 |k+1=>by
  have h:=x4_bd bs hb i k;have hy:=getD_byte hb (i+k);unfold x4 topB;split<;>omega
theorem topB_le(k:Nat)(h:k<4):topB k≤16777215:=by
 match k,h with
 |0,_=>decide
 |1,_=>decide
 |2,_=>decide
 |3,_=>decide
theorem sumTo_bd(bs:List Int):∀m,0≤sumTo bs m∧sumTo bs m≤4294967295
 |0=>by simp [sumTo]
 |m+1=>by unfold sumTo;omega
theorem sum_any(a:Option Addr)(len cap:Nat)(bs:List Int)(w:World)(hv:VB w a bs)(hbl:bs.length=len)(hsmall:len≤1000000000):
  Calls Tryz.prog 80 #[.slice a len cap] w fun e w'=>e=.returned (.int .i64 (sumL bs))∧w=w':=by
 have HC:=Bas.hid hv.cell;have HX:=Bas.hid (x4_bd bs hv.byte);have HSB:=Bas.hid (sumTo_bd bs);have HY:=Bas.hid (fun i=>getD_byte hv.byte i)
 have HL:=Bas.hid hbl;clear hv hbl;go_enter Tryz.func80,Tryz.ntmps80
 go_wp2_with (fail);go_loop [3,4] (fun vn vi=>∃m:Nat,4*m≤len+3∧vi=.int .i64 (4*(m:Int))∧vn=.int .i64 (sumTo bs m)) (fun _ vi=>len+4 - (intOf vi).toNat)
 case atStart=>exact ⟨0,by omega,rfl,rfl⟩
 case round=>
  obtain ⟨m,hm,rfl,rfl⟩:=hrel;have hsb:=HSB.out m;have HS1:Hid (sumTo bs (m+1)=(sumTo bs m+x4 bs (4*m) 4)%4294967296):=rfl;obtain ⟨n,hn⟩:∃n,sumTo bs m=n:=⟨_,rfl⟩;rw [hn] at hsb HS1 ⊢;obtain ⟨hs0,hs1⟩:=hsb;have HN:=Bas.hid hn;clear hn;by_cases hml:4*m<len
  ·have d1:decide (4*(m:Int)<(len:Int))=true:=by simp;omega
   have d2:decide (4*m<len)=true:=by simp;omega
   go_wp2_with (fail);go_loop [5,6] (fun vx vk=>∃k:Nat,k≤4∧vk=.int .i64 k∧vx=.int .i64 (x4 bs (4*m) k)) (fun _ vk=>4 - (intOf vk).toNat)
   case atStart=>exact ⟨0,by omega,rfl,rfl⟩
   case round=>
    obtain ⟨k,hk,rfl,rfl⟩:=hrel;have hxb:=HX.out (4*m) k;by_cases hk4:k<4
    ·have htop:=topB_le k hk4;have HXS:Hid (x4 bs (4*m) (k+1)=x4 bs (4*m) k*256+(if 4*m+k<bs.length then bs.getD (4*m+k) 0 else 0)):=rfl
     obtain ⟨x,hx⟩:∃x,x4 bs (4*m) k=x:=⟨_,rfl⟩;rw [hx] at hxb HXS ⊢;clear hx;obtain ⟨hx0,hx1⟩:=hxb;have e1:decide ((k:Int)<4)=true:=by simp;omega
     have e2:decide (k<4)=true:=by simp;omega
     by_cases hin:4*m+k<len
     ·have f1:decide (4*(m:Int)+(k:Int)<(len:Int))=true:=by simp;omega
      have f2:decide (4*m+k<len)=true:=by simp;omega
      obtain ⟨b,o,rfl,hc⟩:=HC.out (4*m+k) (by rw [HL.out];exact hin)
      have hy:=HY.out (4*m+k);have HXE:Hid (x4 bs (4*m) (k+1)=x*256+bs.getD (4*m+k) 0):=by unfold Hid;rw [HXS.out,if_pos (by rw [HL.out];exact hin)]
      generalize bs.getD (4*m+k) 0=y at*;obtain ⟨hy0,hy1⟩:=hy;go_wp2_with (fail);go_round
      case rel=>exact ⟨k+1,by omega,by go_num,by rw [HXE.out]⟩
      case measure=>simp [intOf];omega
     ·have f1:decide (4*(m:Int)+(k:Int)<(len:Int))=false:=by simp;omega
      have f2:decide (4*m+k<len)=false:=by simp;omega
      have HXE:Hid (x4 bs (4*m) (k+1)=x*256):=by unfold Hid;rw [HXS.out,if_neg (by rw [HL.out];exact hin)];omega
      go_wp2_with (fail);go_round
      case rel=>exact ⟨k+1,by omega,by go_num,by rw [HXE.out]⟩
      case measure=>simp [intOf];omega
    ·have hk5:k=4:=by omega
     subst hk5;have ht4:topB 4=4294967295:=by decide
     rw [ht4] at hxb;generalize x4 bs (4*m) 4=x at*;obtain ⟨hx0,hx1⟩:=hxb;go_wp2_with (fail);go_round
     case rel=>exact ⟨m+1,by omega,by go_num,by rw [HS1.out]⟩
     case measure=>simp [intOf];omega
  ·have d1:decide (4*(m:Int)<(len:Int))=false:=by simp;omega
   have d2:decide (4*m<len)=false:=by simp;omega
   have HE:Hid (sumL bs=n):=by
    have:(bs.length+3) / 4=m:=by rw [HL.out];omega
    unfold Hid sumL;rw [this,HN.out]
   go_wp2_with (fail);go_ret;exact ⟨by rw [HE.out];rfl,rfl⟩
def ltS(a b:ByteArray):Bool:=Op.bytesLess a.toList b.toList
def gtS(a b:ByteArray):Bool:= !(Op.bytesLess a.toList b.toList||a.toList==b.toList)
def leastStep(T:List ByteArray)(above:ByteArray)(fst':Bool)(best:Int)(i:Nat):Int:=
 if (fst'||gtS (T.getD i ⟨#[]⟩) above)&&(decide (best<0)||ltS (T.getD i ⟨#[]⟩) (T.getD best.toNat ⟨#[]⟩)) then i else best
def leastTo(T:List ByteArray)(above:ByteArray)(fst':Bool):Nat→Int
 |0=>-1
 |k+1=>leastStep T above fst' (leastTo T above fst' k) k
theorem least_core(B O n cp:Nat)(T:List ByteArray)(above:ByteArray)(fst':Bool)(w:World)(hn:n≤1000000)(hc:∀i,i<n→w.cell? ⟨B,O+i*2,none⟩=some (.string (T.getD i ⟨#[]⟩))):
  Calls Tryz.prog 79 #[.slice (some ⟨B,O,none⟩) n cp,.string above,.bool fst'] w fun e w'=>e=.returned (.int .i64 (leastTo T above fst' n))∧Below w.heap.size w w':=by
 have HC:=Bas.hid hc;have HB0:=Bas.hid (Below.refl w.heap.size w);clear hc;go_enter Tryz.func79,Tryz.ntmps79
 go_wp2_with (fail);go_loopw [7,8] (fun vb vi wr=>∃(k:Nat) (best:Int),k≤n∧vi=.int .i64 k∧vb=.int .i64 best∧leastTo T above fst' k=best∧(best=-1∨∃j:Nat,best=j∧j<k)∧Below w.heap.size w wr) (fun _ vi _=>n - (intOf vi).toNat)
 case atStart=>exact ⟨0,-1,Nat.zero_le _,rfl,rfl,rfl,.inl rfl,HB0.out⟩
 case round=>
  obtain ⟨k,best,hk,rfl,rfl,hbst,hbb,hb⟩:=hrel;have HB:=Bas.hid hb;have LB:∀i,i<n→wr.cell? ⟨B,O+i*2,none⟩=some (.string (T.getD i ⟨#[]⟩)):=fun i hi=>(hb.cell (p:=⟨B,O+i*2,none⟩) (World.block_lt_of_cell? _ _ (HC.out i hi))).trans (HC.out i hi)
  clear hb HB0;by_cases hkn:k<n
  ·have e1:decide ((k:Int)<(n:Int))=true:=by simp;omega
   have e2:decide (k<n)=true:=by simp;omega
   have ci:=LB k hkn;have li:=World.block_lt_of_cell? _ _ ci;obtain ⟨tk,htk⟩:∃t,T.getD k ⟨#[]⟩=t:=⟨_,rfl⟩;rw [htk] at ci;have HTK:=Bas.hid htk;clear htk;cases fst' with
   |true=>
    rcases hbb with rfl|⟨j,rfl,hjk⟩
    ·have HST:Hid (leastTo T above true (k+1)=(k:Int)):=by unfold Hid leastTo;rw [hbst];unfold leastStep;rw [HTK.out];first|(simp;done)|(simp;omega)
     clear hbst;go_wp2_with (fail);refine' Pl.region_v0 44 [] [0,1,2,3,4,5,6,7,8,9,10,11,12,13,14,15,16,17,18,19,20,21,22,23,24,25,26] [] _ (by kernel_rfl) (by kernel_rfl) (by simp) (fun _ _ _ _ e h=>⟨e▸h.1,h.2⟩) ?_ ?_
     rotate_left
     ·intro I F hI hF;simp only [Pl.selN,List.nil_append,List.drop_succ_cons,List.drop_zero];have x1:=fun q=>hF.cell li ci q
      repeat (go_big_quiet_step (fail))
      refine wpQuiet_nil ?_;rfl
     intro u hu;simp only [Pl.selN];have HBU:=Bas.hid (HB.out.trans (hu.mono HB.out.size));clear hu ci;go_wp2_with (fail);go_roundw
     case rel=>exact ⟨k+1,(k:Int),by omega,by go_num,rfl,HST.out,.inr ⟨k,rfl,by omega⟩,HBU.out⟩
     case measure=>simp [intOf];omega
    ·have hcj:=LB j (by omega)
     have dj:decide ((j:Int)<0)=false:=by simp
     have lb:=World.block_lt_of_cell? _ _ hcj;obtain ⟨tj,htj⟩:∃t,T.getD j ⟨#[]⟩=t:=⟨_,rfl⟩;have cb:=hcj;rw [htj] at cb;have HTJ:=Bas.hid htj;clear hcj htj;cases h3:Op.bytesLess tk.toList tj.toList with
     |true=>
      have HST:Hid (leastTo T above true (k+1)=(k:Int)):=by unfold Hid leastTo;rw [hbst];unfold leastStep;rw [HTK.out,Int.toNat_natCast,HTJ.out];first|(simp [ltS,h3];done)|(simp [ltS,h3];omega)
      clear hbst;go_wp2_with (fail);refine' Pl.region_v0 44 [] [0,1,2,3,4,5,6,7,8,9,10,11,12,13,14,15,16,17,18,19,20,21,22,23,24,25,26] [] _ (by kernel_rfl) (by kernel_rfl) (by simp) (fun _ _ _ _ e h=>⟨e▸h.1,h.2⟩) ?_ ?_
      rotate_left
      ·intro I F hI hF;simp only [Pl.selN,List.nil_append,List.drop_succ_cons,List.drop_zero];have x1:=fun q=>hF.cell li ci q
       have x2:=fun q=>hF.cell lb cb q
       repeat (go_big_quiet_step (fail))
       refine wpQuiet_nil ?_;rfl
      intro u hu;simp only [Pl.selN];have HBU:=Bas.hid (HB.out.trans (hu.mono HB.out.size));clear hu ci cb;go_wp2_with (fail);go_roundw
      case rel=>exact ⟨k+1,(k:Int),by omega,by go_num,rfl,HST.out,.inr ⟨k,rfl,by omega⟩,HBU.out⟩
      case measure=>simp [intOf];omega
     |false=>
      have HST:Hid (leastTo T above true (k+1)=(j:Int)):=by unfold Hid leastTo;rw [hbst];unfold leastStep;rw [HTK.out,Int.toNat_natCast,HTJ.out];first|(simp [ltS,h3];done)|(simp [ltS,h3];omega)
      clear hbst;go_wp2_with (fail);refine' Pl.region_v0 44 [] [0,1,2,3,4,5,6,7,8,9,10,11,12,13,14,15,16,17,18,19,20,21,22,23,24,25,26] [] _ (by kernel_rfl) (by kernel_rfl) (by simp) (fun _ _ _ _ e h=>⟨e▸h.1,h.2⟩) ?_ ?_
      rotate_left
      ·intro I F hI hF;simp only [Pl.selN,List.nil_append,List.drop_succ_cons,List.drop_zero];have x1:=fun q=>hF.cell li ci q
       have x2:=fun q=>hF.cell lb cb q
       repeat (go_big_quiet_step (fail))
       refine wpQuiet_nil ?_;rfl
      intro u hu;simp only [Pl.selN];have HBU:=Bas.hid (HB.out.trans (hu.mono HB.out.size));clear hu ci cb;go_wp2_with (fail);go_roundw
      case rel=>exact ⟨k+1,(j:Int),by omega,by go_num,rfl,HST.out,.inr ⟨j,rfl,by omega⟩,HBU.out⟩
      case measure=>simp [intOf];omega
   |false=>
    cases h1:Op.bytesLess tk.toList above.toList with
    |true=>
     rcases hbb with rfl|⟨j,rfl,hjk⟩
     ·have HST:Hid (leastTo T above false (k+1)=-1):=by unfold Hid leastTo;rw [hbst];unfold leastStep;rw [HTK.out];first|(simp [gtS,h1];done)|(simp [gtS,h1];omega)
      clear hbst;go_wp2_with (fail);refine' Pl.region_v0 44 [] [0,1,2,3,4,5,6,7,8,9,10,11,12,13,14,15,16,17,18,19,20,21,22,23,24,25,26] [] _ (by kernel_rfl) (by kernel_rfl) (by simp) (fun _ _ _ _ e h=>⟨e▸h.1,h.2⟩) ?_ ?_
      rotate_left
      ·intro I F hI hF;simp only [Pl.selN,List.nil_append,List.drop_succ_cons,List.drop_zero];have x1:=fun q=>hF.cell li ci q
       repeat (go_big_quiet_step (fail))
       refine wpQuiet_nil ?_;rfl
      intro u hu;simp only [Pl.selN];have HBU:=Bas.hid (HB.out.trans (hu.mono HB.out.size));clear hu ci;go_wp2_with (fail);go_roundw
      case rel=>exact ⟨k+1,-1,by omega,by go_num,rfl,HST.out,.inl rfl,HBU.out⟩
      case measure=>simp [intOf];omega
     ·have HST:Hid (leastTo T above false (k+1)=(j:Int)):=by unfold Hid leastTo;rw [hbst];unfold leastStep;rw [HTK.out];first|(simp [gtS,h1];done)|(simp [gtS,h1];omega)
      clear hbst;go_wp2_with (fail);refine' Pl.region_v0 44 [] [0,1,2,3,4,5,6,7,8,9,10,11,12,13,14,15,16,17,18,19,20,21,22,23,24,25,26] [] _ (by kernel_rfl) (by kernel_rfl) (by simp) (fun _ _ _ _ e h=>⟨e▸h.1,h.2⟩) ?_ ?_
      rotate_left
      ·intro I F hI hF;simp only [Pl.selN,List.nil_append,List.drop_succ_cons,List.drop_zero];have x1:=fun q=>hF.cell li ci q
       repeat (go_big_quiet_step (fail))
       refine wpQuiet_nil ?_;rfl
      intro u hu;simp only [Pl.selN];have HBU:=Bas.hid (HB.out.trans (hu.mono HB.out.size));clear hu ci;go_wp2_with (fail);go_roundw
      case rel=>exact ⟨k+1,(j:Int),by omega,by go_num,rfl,HST.out,.inr ⟨j,rfl,by omega⟩,HBU.out⟩
      case measure=>simp [intOf];omega
    |false=>
     cases h2:tk.toList==above.toList with
     |true=>
      rcases hbb with rfl|⟨j,rfl,hjk⟩
      ·have HST:Hid (leastTo T above false (k+1)=-1):=by unfold Hid leastTo;rw [hbst];unfold leastStep;rw [HTK.out];first|(simp [gtS,h1,h2];done)|(simp [gtS,h1,h2];omega)
       clear hbst;go_wp2_with (fail);refine' Pl.region_v0 44 [] [0,1,2,3,4,5,6,7,8,9,10,11,12,13,14,15,16,17,18,19,20,21,22,23,24,25,26] [] _ (by kernel_rfl) (by kernel_rfl) (by simp) (fun _ _ _ _ e h=>⟨e▸h.1,h.2⟩) ?_ ?_
       rotate_left
       ·intro I F hI hF;simp only [Pl.selN,List.nil_append,List.drop_succ_cons,List.drop_zero];have x1:=fun q=>hF.cell li ci q
        repeat (go_big_quiet_step (fail))
        refine wpQuiet_nil ?_;rfl
       intro u hu;simp only [Pl.selN];have HBU:=Bas.hid (HB.out.trans (hu.mono HB.out.size));clear hu ci;go_wp2_with (fail);go_roundw
       case rel=>exact ⟨k+1,-1,by omega,by go_num,rfl,HST.out,.inl rfl,HBU.out⟩
       case measure=>simp [intOf];omega
      ·have HST:Hid (leastTo T above false (k+1)=(j:Int)):=by unfold Hid leastTo;rw [hbst];unfold leastStep;rw [HTK.out];first|(simp [gtS,h1,h2];done)|(simp [gtS,h1,h2];omega)
       clear hbst;go_wp2_with (fail);refine' Pl.region_v0 44 [] [0,1,2,3,4,5,6,7,8,9,10,11,12,13,14,15,16,17,18,19,20,21,22,23,24,25,26] [] _ (by kernel_rfl) (by kernel_rfl) (by simp) (fun _ _ _ _ e h=>⟨e▸h.1,h.2⟩) ?_ ?_
       rotate_left
       ·intro I F hI hF;simp only [Pl.selN,List.nil_append,List.drop_succ_cons,List.drop_zero];have x1:=fun q=>hF.cell li ci q
        repeat (go_big_quiet_step (fail))
        refine wpQuiet_nil ?_;rfl
       intro u hu;simp only [Pl.selN];have HBU:=Bas.hid (HB.out.trans (hu.mono HB.out.size));clear hu ci;go_wp2_with (fail);go_roundw
       case rel=>exact ⟨k+1,(j:Int),by omega,by go_num,rfl,HST.out,.inr ⟨j,rfl,by omega⟩,HBU.out⟩
       case measure=>simp [intOf];omega
     |false=>
      rcases hbb with rfl|⟨j,rfl,hjk⟩
      ·have HST:Hid (leastTo T above false (k+1)=(k:Int)):=by unfold Hid leastTo;rw [hbst];unfold leastStep;rw [HTK.out];first|(simp [gtS,h1,h2];done)|(simp [gtS,h1,h2];omega)
       clear hbst;go_wp2_with (fail);refine' Pl.region_v0 44 [] [0,1,2,3,4,5,6,7,8,9,10,11,12,13,14,15,16,17,18,19,20,21,22,23,24,25,26] [] _ (by kernel_rfl) (by kernel_rfl) (by simp) (fun _ _ _ _ e h=>⟨e▸h.1,h.2⟩) ?_ ?_
       rotate_left
       ·intro I F hI hF;simp only [Pl.selN,List.nil_append,List.drop_succ_cons,List.drop_zero];have x1:=fun q=>hF.cell li ci q
        repeat (go_big_quiet_step (fail))
        refine wpQuiet_nil ?_;rfl
       intro u hu;simp only [Pl.selN];have HBU:=Bas.hid (HB.out.trans (hu.mono HB.out.size));clear hu ci;go_wp2_with (fail);go_roundw
       case rel=>exact ⟨k+1,(k:Int),by omega,by go_num,rfl,HST.out,.inr ⟨k,rfl,by omega⟩,HBU.out⟩
       case measure=>simp [intOf];omega
      ·have hcj:=LB j (by omega)
       have dj:decide ((j:Int)<0)=false:=by simp
       have lb:=World.block_lt_of_cell? _ _ hcj;obtain ⟨tj,htj⟩:∃t,T.getD j ⟨#[]⟩=t:=⟨_,rfl⟩;have cb:=hcj;rw [htj] at cb;have HTJ:=Bas.hid htj;clear hcj htj;cases h3:Op.bytesLess tk.toList tj.toList with
       |true=>
        have HST:Hid (leastTo T above false (k+1)=(k:Int)):=by unfold Hid leastTo;rw [hbst];unfold leastStep;rw [HTK.out,Int.toNat_natCast,HTJ.out];first|(simp [gtS,h1,h2,ltS,h3];done)|(simp [gtS,h1,h2,ltS,h3];omega)
        clear hbst;go_wp2_with (fail);refine' Pl.region_v0 44 [] [0,1,2,3,4,5,6,7,8,9,10,11,12,13,14,15,16,17,18,19,20,21,22,23,24,25,26] [] _ (by kernel_rfl) (by kernel_rfl) (by simp) (fun _ _ _ _ e h=>⟨e▸h.1,h.2⟩) ?_ ?_
        rotate_left
        ·intro I F hI hF;simp only [Pl.selN,List.nil_append,List.drop_succ_cons,List.drop_zero];have x1:=fun q=>hF.cell li ci q
         have x2:=fun q=>hF.cell lb cb q
         repeat (go_big_quiet_step (fail))
         refine wpQuiet_nil ?_;rfl
        intro u hu;simp only [Pl.selN];have HBU:=Bas.hid (HB.out.trans (hu.mono HB.out.size));clear hu ci cb;go_wp2_with (fail);go_roundw
        case rel=>exact ⟨k+1,(k:Int),by omega,by go_num,rfl,HST.out,.inr ⟨k,rfl,by omega⟩,HBU.out⟩
        case measure=>simp [intOf];omega
       |false=>
        have HST:Hid (leastTo T above false (k+1)=(j:Int)):=by unfold Hid leastTo;rw [hbst];unfold leastStep;rw [HTK.out,Int.toNat_natCast,HTJ.out];first|(simp [gtS,h1,h2,ltS,h3];done)|(simp [gtS,h1,h2,ltS,h3];omega)
        clear hbst;go_wp2_with (fail);refine' Pl.region_v0 44 [] [0,1,2,3,4,5,6,7,8,9,10,11,12,13,14,15,16,17,18,19,20,21,22,23,24,25,26] [] _ (by kernel_rfl) (by kernel_rfl) (by simp) (fun _ _ _ _ e h=>⟨e▸h.1,h.2⟩) ?_ ?_
        rotate_left
        ·intro I F hI hF;simp only [Pl.selN,List.nil_append,List.drop_succ_cons,List.drop_zero];have x1:=fun q=>hF.cell li ci q
         have x2:=fun q=>hF.cell lb cb q
         repeat (go_big_quiet_step (fail))
         refine wpQuiet_nil ?_;rfl
        intro u hu;simp only [Pl.selN];have HBU:=Bas.hid (HB.out.trans (hu.mono HB.out.size));clear hu ci cb;go_wp2_with (fail);go_roundw
        case rel=>exact ⟨k+1,(j:Int),by omega,by go_num,rfl,HST.out,.inr ⟨j,rfl,by omega⟩,HBU.out⟩
        case measure=>simp [intOf];omega
  ·have hkn2:k=n:=by omega
   subst hkn2;have HBST:=Bas.hid hbst;clear hbst;go_wp2_with (fail);go_ret;exact ⟨by rw [HBST.out];rfl,HB.out⟩
end Fo
namespace Row
theorem zeroCells_list(z:Value)(k:Nat)(hz:z.cells=#[z]):Builtin.zeroCells z.cells k=(List.replicate k z).toArray:=by
 unfold Builtin.zeroCells;rw [hz];apply Array.ext
 ·simp
 ·intro i h1 h2;simp only [Array.getElem_map,Array.getElem_range,List.getElem_toArray,List.getElem_replicate];simp [Nat.mod_one]
theorem run_append_own_zeros{P:Program}(w:World)(base:Nat)(t tn ty e:TypeId)(i:TypeInfo)(z:Value)(bytes:Nat)(kq kn:IntKind)(ht:P.underlying t=some (.slice e))(htn:P.underlying tn=some (.int kn))(hi:P.info? e=some i)(hz:i.zero=some z)
  (hsize:i.size=1) (hby:i.bytes=bytes) (hzs:z.cells=#[z]) (hz1:z.oneCell'=true)
  (v:Value) (n:Nat) (xs:List Value) (hown:w.ownsRow base e 1 v n xs) (k:Nat) (h63:n+k≤maxLen) (hbytes:(n+k)*bytes≤140737488355328) (hbase:base≤w.heap.size):
  ∃v' w',(Builtin.append_ #[t,tn] ty #[v,.int kq k]).run P w=.ok v' w'∧w'.ownsRow base e 1 v' (n+k) (xs++List.replicate k z)∧w.grownBy w' v.ownBlock∧(v'=.slice none 0 0→v=.slice none 0 0)∧(v'.ownBlock=v.ownBlock∨v'.ownBlock=some w.heap.size):=by
 subst hby;have hsmall:n+k≤9223372036854775807:=by simp only [maxLen] at h63;omega
 have hw:IntKind.i64.wrap (k:Int)=k:=by rw [IntKind.wrap_i64];omega
 have hkb:k*i.bytes≤140737488355328:=Nat.le_trans (Nat.mul_le_mul_right _ (by omega)) hbytes
 have h48i:¬(281474976710656<(k:Int)*(i.bytes:Int)):=by rw [←Int.natCast_mul];omega
 have hneg:¬((k:Int)<0):=by omega
 have hlen:(xs++List.replicate k z).length=(n+k)*1:=by rw [List.length_append,hown.1,List.length_replicate];omega
 have grown:∀(old:Nat),old<n+k→∀(row:Option Nat),
   (w.drew.alloc (.cells (xs.toArray++Builtin.zeroCells z.cells k++Builtin.zeroCells z.cells (grownCap w (n+k) old e - (n+k))) e)).ownsRow base e 1
    (.slice (some ⟨w.heap.size,0,none⟩) (n+k) (grownCap w (n+k) old e)) (n+k) (xs++List.replicate k z)∧
   w.grownBy (w.drew.alloc (.cells (xs.toArray++Builtin.zeroCells z.cells k++Builtin.zeroCells z.cells (grownCap w (n+k) old e - (n+k))) e)) row:=by
  intro old ho row;have hge:=grownCap_ge w (n+k) old e;have hcm:grownCap w (n+k) old e≤maxLen:=grownCap_le_maxLen w (n+k) old e h63;refine ⟨⟨hlen,.inr ⟨w.heap.size,_,_,rfl,hbase,heap_alloc_new w.drew _,hge,hcm, ?_, ?_⟩⟩,⟨rfl,rfl,rfl,by simp,fun j hj _=>Below.heap_alloc w.drew _ _ hj⟩⟩
  ·rw [zeroCells_list z _ hzs,zeroCells_list z _ hzs];have:=hown.1;simp;omega
  ·rw [zeroCells_list z _ hzs,zeroCells_list z _ hzs];simp only [Array.toList_append,List.append_assoc];rw [←List.append_assoc,←hlen];exact List.take_left
 by_cases hk:k=0
 ·subst hk;refine ⟨v,w, ?_,by simpa using hown,Bas.grefl _ _,id,.inl rfl⟩
  have hw0:IntKind.i64.wrap 0=0:=by rw [IntKind.wrap_i64];rfl
  rcases hown.2 with ⟨rfl,rfl⟩|⟨g,cap,cur,rfl,hbg,hg,hnc,hcm,hcs,htake⟩
  ·simp [Builtin.append_,run_underlying ht,run_underlying htn,sizeOf,typeInfo,hi,asInt,asIntOf,hw0]
  ·simp [Builtin.append_,run_underlying ht,run_underlying htn,sizeOf,typeInfo,hi,asInt,asIntOf,hw0,hnc,storeCells]
 ·rcases hown.2 with ⟨rfl,rfl⟩|⟨g,cap,cur,rfl,hbg,hg,hnc,hcm,hcs,htake⟩
  ·have hx:xs=[]:=List.eq_nil_of_length_eq_zero (by simpa using hown.1)
   subst hx;have hr:=Lib.run_append_nil_zeros (P:=P) w t tn ty e i z kq kn ht htn hi hz k (by omega) (by omega) (by omega) (by omega)
   have hgr:=grown 0 (by omega) (Value.ownBlock (.slice none 0 0))
   simp only [Nat.zero_add,List.nil_append,Array.empty_append] at hgr ⊢;exact ⟨_,_,hr,hgr.1,hgr.2,by simp,Or.inr rfl⟩
  ·by_cases hroom:n+k≤cap
   ·have hfit:n*1+(List.replicate k z).length≤cur.size:=by rw [List.length_replicate,hcs];omega
    have hst:=run_storeCells_at P g (n*1) e (List.replicate k z) 0 cur w hg (by simpa using hfit) (by intro u hu;rw [List.mem_replicate] at hu;rw [hu.2];exact hz1)
    simp only [Nat.add_zero] at hst;have hr:(Builtin.append_ #[t,tn] ty #[.slice (some ⟨g,0,none⟩) n cap,.int kq k]).run P w=
      .ok (.slice (some ⟨g,0,none⟩) (n+k) cap) (w.setRow g (cur.toList.take (n*1)++List.replicate k z++cur.toList.drop (n*1+(List.replicate k z).length)).toArray):=by
     simp only [Nat.mul_one] at hst;simp [Builtin.append_,run_underlying ht,run_underlying htn,sizeOf,typeInfo,zeroValue,hi,hz,asInt,asIntOf,hw,hk,hneg,h48i,hsize,hroom,Addr.add_lit,zeroCells_list z _ hzs,hst]
    refine ⟨_,_,hr,⟨hlen,.inr ⟨g,cap,_,rfl,hbg,setRow_heap w g cur _ e _ hg,hroom,hcm, ?_, ?_⟩⟩,⟨rfl,rfl,rfl,by simp,fun j _ hj=>setRow_other w g j _ (fun e=>hj (by simp [Value.ownBlock,e]))⟩,by simp,Or.inl rfl⟩
    ·simp only [List.size_toArray,List.length_append,List.length_take,List.length_drop,Array.length_toList,List.length_replicate];omega
    ·rw [htake,←hlen];exact List.take_left
   ·have holds:∀j u,xs[j]? =some u→w.cell? ((⟨g,0,none⟩:Addr).add j)=some u:=hown.cells (g:=g) rfl;have hf:=run_firstCells_some (P:=P) w.drew i.size n ⟨g,0,none⟩ n cap xs (by rw [hsize];exact hown.1) (fun j u hu=>by simpa using holds j u hu)
    have hr:=Lib.run_append_grow_zeros (P:=P) w t tn ty e i z kq kn ht htn hi hz (some ⟨g,0,none⟩) n cap xs hf k (by omega) (by omega) (by omega) (by omega) (by omega) (growslice_fits (by omega) hbytes)
    have hgr:=grown cap (by omega) (Value.ownBlock (.slice (some ⟨g,0,none⟩) n cap))
    exact ⟨_,_,hr,hgr.1,hgr.2,by simp,Or.inr rfl⟩
theorem append_zeros{P:Program}{w:World}{ops:Array Oper}{rest:List Oper}{o:Oper}{a:Act}{Q:Exit→Act→World→Prop}(hgd:o.guard=none)(s x:Operand)(t tn e:TypeId)
  (ho:o.op=.call { callee:=.builtin .append,args:=#[s,x],argTypes:=#[t,tn] })
  (z:Value) (bytes:Nat) (kq kn:IntKind) (ht:P.underlying t=some (.slice e)) (htn:P.underlying tn=some (.int kn)) (hinfo:(P.info? e).map (fun i=>(i.zero,i.size,i.bytes))=some (some z,1,bytes)) (hzs:z.cells=#[z]) (hz1:z.oneCell'=true)
  (base:Nat) (v:Value) (n:Nat) (xs:List Value) (hs:a.eval s=v) (hown:w.ownsRow base e 1 v n xs) (k:Nat) (hx:a.eval x=.int kq k)
  (h63:n+k≤maxLen) (hbd:(n+k)*bytes≤140737488355328) (hbase:base≤w.heap.size)
  (h:∀v' w',w'.ownsRow base e 1 v' (n+k) (xs++List.replicate k z)→w.grownBy w' v.ownBlock→(v'=.slice none 0 0→v=.slice none 0 0)→(v'.ownBlock=v.ownBlock∨v'.ownBlock=some w.heap.size)→wpList P ops Q rest (a.put o.dst v') w'):
  wpList P ops Q (o::rest) a w:=by
 obtain ⟨i,hi,hz,hsz,hby⟩:=info_parts hinfo;obtain ⟨v',w',hr,h1,h2,h3,h4⟩:=run_append_own_zeros (P:=P) w base t tn o.type e i z bytes kq kn ht htn hi hz hsz hby hzs hz1 v n xs hown k h63 hbd hbase;exact Lib.wpList_append_run w hgd s x t tn ho _ _ hs hx v' w' hr (h v' w' h1 h2 h3 h4)
theorem leads_apart{w w':World}{v:Value}{n:Nat}{xs:List Value}{r:Option Nat}(h:Leads w v n xs)(hg:w.grownBy w' r)(hr:∀g,r=some g→∀ad len cap,v=.slice (some ad) len cap→xs≠[]→ad.block≠g):Leads w' v n xs:=by
 rcases h with h|⟨ad,cap,rfl,hc⟩
 ·exact .inl h
 ·refine .inr ⟨ad,cap,rfl,fun j u hu=> ?_⟩
  have h1:=hc j u hu;have hs:=World.cell?_spot h1;have hlt:=World.block_lt_of_cell? _ _ h1;have hne:xs≠[]:=by intro e;rw [e] at hu;simp at hu
  have h2:w'.heap[(ad.add j).block]? =w.heap[(ad.add j).block]? :=hg.block _ hlt (fun e=>by
   have hb:(ad.add j).block=ad.block:=by unfold Addr.add;split<;>rfl
   exact hr _ e.symm ad n cap rfl hne hb.symm)
  exact (World.cell?_of_block h2).trans h1
end Row
namespace Wr
open Vw
structure TwoRows (w:World) (base:Nat) (v:Value) (xs:List Int) (u:Value) (ys:List Int):Prop where
 l:w.ownsRow base 5 1 v xs.length (xs.map (Value.int .u8))
 r:w.ownsRow base 5 1 u ys.length (ys.map (Value.int .u8))
 apart:∀g,v.ownBlock=some g→u.ownBlock≠some g
theorem TwoRows.growL{w w':World}{base:Nat}{v v' u:Value}{xs xs' ys:List Int}(h:TwoRows w base v xs u ys)(g:Grown w base v xs' v' w'):TwoRows w' base v' xs' u ys:=
 ⟨g.own, Row.owned_keep h.r fun b hb => g.grow.block b (Row.own_block h.r hb).2 (fun e => h.apart b e.symm hb), fun b hb e => by
  rcases g.at' with h1|⟨c,h1,h2⟩
  ·exact h.apart b (h1▸hb) e
  ·rw [h1] at hb;cases hb;exact absurd (Row.own_block h.r e).2 (Nat.not_lt.2 h2)⟩
theorem TwoRows.growR{w w':World}{base:Nat}{v u u':Value}{xs ys ys':List Int}(h:TwoRows w base v xs u ys)(g:Grown w base u ys' u' w'):TwoRows w' base v xs u' ys':=
 ⟨Row.owned_keep h.l fun b hb => g.grow.block b (Row.own_block h.l hb).2 (fun e => h.apart b hb e.symm), g.own, fun b hb e => by
  rcases g.at' with h1|⟨c,h1,h2⟩
  ·exact h.apart b hb (h1▸e)
  ·rw [h1] at e;cases e;exact absurd (Row.own_block h.l hb).2 (Nat.not_lt.2 h2)⟩
theorem TwoRows.below{w w':World}{base:Nat}{v u:Value}{xs ys:List Int}(h:TwoRows w base v xs u ys)(hb:Below w.heap.size w w'):TwoRows w' base v xs u ys:=
 ⟨Row.owned_below h.l hb,Row.owned_below h.r hb,h.apart⟩
theorem row_slice{w:World}{base:Nat}{v:Value}{xs:List Int}(h:w.ownsRow base 5 1 v xs.length (xs.map (Value.int .u8))):∃ad cp,v=.slice ad xs.length cp:=by
 rcases Row.owned_parts h with ⟨h,h0,_⟩|⟨_,_,h,_⟩
 ·exact ⟨none,0,by rw [h,h0]⟩
 ·exact ⟨_,_,h⟩
theorem num_cons(x:Int)(l:List Int):num (x::l)=x*256^l.length+num l:=by
 have key:∀(l:List Int) (a:Int),l.foldl (fun n b=>256*n+b) a=a*256^l.length+l.foldl (fun n b=>256*n+b) 0:=by
  intro l;induction l with
  |nil=>intro a;simp
  |cons y l ih=>
   intro a;simp only [List.foldl_cons,List.length_cons];rw [ih (256*a+y),ih (256*0+y)];rw [Int.pow_succ,Int.add_mul,Int.add_mul];have:256*a*256^l.length=a*(256^l.length*256):=by rw [Int.mul_comm 256 a,Int.mul_assoc,Int.mul_comm 256]
   omega
 unfold num;simp only [List.foldl_cons];rw [key];simp
theorem num_putB(n:Int)(hn:0≤n):∀k:Nat,num (putB n k)=n%256^k
 |0=>by simp [putB,num]
 |k+1=>by
  have ih:=num_putB n hn k;have hp:(0:Int)<256^k:=Int.pow_pos (by omega)
  rw [putB,num_cons,ih,putB_len,Int.pow_succ];have h1:=Int.mul_ediv_add_emod n (256^k);have h2:=Int.mul_ediv_add_emod (n / 256^k) 256;have h3:=Int.emod_nonneg n (Int.ne_of_gt hp);have h4:=Int.emod_lt_of_pos n hp;have h5:=Int.emod_nonneg (n / 256^k) (show (256:Int)≠0 by omega)
  have h6:=Int.emod_lt_of_pos (n / 256^k) (show (0:Int)<256 by omega)
  generalize n / 256^k%256=r at*;generalize n / 256^k / 256=q at*;generalize n / 256^k=d at*;generalize n%256^k=t at*;generalize (256:Int)^k=P at*;have e:n=(P*256)*q+(r*P+t):=by
   rw [←h1,←h2,Int.mul_add,←Int.mul_assoc,Int.mul_comm P r];omega
  have b1:0≤r*P+t:=Int.add_nonneg (Int.mul_nonneg h5 (Int.le_of_lt hp)) h3;have b2:r*P+t<P*256:=by
   have h8:r*P≤255*P:=Int.mul_le_mul_of_nonneg_right (by omega) (Int.le_of_lt hp)
   omega
  rw [e,Int.mul_add_emod_self_left,Int.emod_eq_of_lt b1 b2]
theorem be_mid(pre post:List Int)(n:Int)(k p:Nat)(hp:p=pre.length)(h0:0≤n)(h1:n<256^k):be (pre++(putB n k++post)) p k=n:=by
 subst hp;unfold be;rw [List.drop_left];have:(putB n k++post).take k=putB n k:=by
  rw [List.take_append_of_le_length (by rw [putB_len];exact Nat.le_refl _),List.take_of_length_le (by rw [putB_len];exact Nat.le_refl _)]
 rw [this,num_putB n h0,Int.emod_eq_of_lt h0 h1]
end Wr
namespace Fo
open Vw Wr
instance:Inhabited PartD:=⟨⟨⟨#[]⟩,[]⟩⟩
def PParts(w:World)(v:Value)(L:List PartD):Prop:=∃rs:List Value,rs.length=L.length∧Row.Leads w v L.length ((L.zip rs).flatMap pC)∧
 ∀(i:Nat) (c:PartD) (r:Value),L[i]? =some c→rs[i]? =some r→Row.Leads w r c.data.length (c.data.flatMap u8C)
def ordered(T:List ByteArray):ByteArray→Bool→List Nat→Prop
 |_,_,[]=>True
 |last,f,i::O=>leastTo T last f T.length=i∧i<T.length∧(T.getD i ⟨#[]⟩).size=4∧ordered T (T.getD i ⟨#[]⟩) false O
def tagB(s:ByteArray):List Int:=s.data.toList.map fun x=>(x.toNat:Int)
def pad4(n:Nat):Nat:=(n+3) / 4*4
def headM(n:Nat)(near most:Int):List Int:=putB 65536 4++putB (n:Int) 2++putB near 2++putB most 2++putB (16*(n:Int) - near) 2
def rowM(at':Nat)(p:PartD):List Int:=tagB p.tag++putB (sumL p.data) 4++putB (at':Int) 4++putB (p.data.length:Int) 4
def bodyM(p:PartD):List Int:=p.data++List.replicate (pad4 p.data.length - p.data.length) 0
def rowsM:Nat→List PartD→List Int
 |_,[]=>[]
 |at',p::l=>rowM at' p++rowsM (at'+pad4 p.data.length) l
def makeM(P:List PartD)(near most:Int):List Int:=headM P.length near most++rowsM (12+16*P.length) P++P.flatMap bodyM
theorem pad4_le(n:Nat):n≤pad4 n∧pad4 n≤n+3∧pad4 n%4=0:=by unfold pad4;omega
theorem bodyM_len(p:PartD):(bodyM p).length=pad4 p.data.length:=by
 have:=pad4_le p.data.length;simp [bodyM];omega
theorem tagB_len(s:ByteArray):(tagB s).length=s.size:=by unfold tagB;rw [List.length_map,Array.length_toList];rfl
theorem headM_len(n:Nat)(a b:Int):(headM n a b).length=12:=by simp [headM,putB_len]
theorem rowM_len(at':Nat)(p:PartD)(h:p.tag.size=4):(rowM at' p).length=16:=by simp [rowM,putB_len,tagB_len,h]
def atM(P:List PartD)(k:Nat):Nat:=12+16*P.length+((P.take k).flatMap bodyM).length
theorem atM_succ(P:List PartD)(k:Nat)(p:PartD)(h:P[k]? =some p):atM P (k+1)=atM P k+pad4 p.data.length:=by
 unfold atM;rw [Row.take_flat bodyM P k p h,List.length_append,bodyM_len];omega
theorem rowsM_snoc(p:PartD):∀(l:List PartD) (a:Nat),rowsM a (l++[p])=rowsM a l++rowM (a+(l.flatMap bodyM).length) p
 |[],a=>by simp [rowsM]
 |q::l,a=>by
  rw [List.cons_append,rowsM,rowsM_snoc p l,rowsM,List.append_assoc,List.flatMap_cons,List.length_append,bodyM_len,Nat.add_assoc]
theorem rowsM_take(P:List PartD)(k:Nat)(p:PartD)(h:P[k]? =some p):rowsM (12+16*P.length) (P.take (k+1))=rowsM (12+16*P.length) (P.take k)++rowM (atM P k) p:=by
 rw [List.take_add_one,h];exact rowsM_snoc p _ _
theorem rowsM_len(l:List PartD)(h:∀p∈l,p.tag.size=4):∀a,(rowsM a l).length=16*l.length:=by
 induction l with
 |nil=>intro a;rfl
 |cons p l ih=>
  intro a;rw [rowsM,List.length_append,rowM_len _ _ (h p (by simp)),ih (fun q hq=>h q (by simp [hq])),List.length_cons];omega
theorem u8_flat(l:List Int):l.flatMap u8C=l.map (Value.int .u8):=by
 induction l with
 |nil=>rfl
 |cons x l ih=>rw [List.flatMap_cons,ih];rfl
theorem leads_bytes(w:World)(s:ByteArray)(cap:Nat):Row.Leads (Lib.bytesWorld w 5 s) (.slice (some ⟨w.heap.size,0,none⟩) s.size cap) s.size ((tagB s).map (Value.int .u8)):=by
 refine .inr ⟨_,cap,rfl,fun j u hu=> ?_⟩
 have hj:j<s.size:=by
  have:=(List.getElem?_eq_some_iff.1 hu).1
  rwa [List.length_map,tagB_len] at this
 rw [Addr.add_lit,Nat.zero_add,Lib.bytesWorld_cell _ _ _ _ hj];have hd:j<s.data.toList.length:=by rw [Array.length_toList];exact hj
 unfold tagB at hu;rw [List.getElem?_map,List.getElem?_map,List.getElem?_eq_getElem hd] at hu;simp only [Option.map_some,Option.some.injEq] at hu;rw [←hu,List.getD_eq_getElem?_getD,List.getElem?_eq_getElem hd];rfl
end Fo
end Go.Proofs.YtceihjjjmcgmaaaGreat
