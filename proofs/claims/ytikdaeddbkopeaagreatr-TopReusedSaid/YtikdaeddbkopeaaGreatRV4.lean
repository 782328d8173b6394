/- A part of the proof. -/
import Derived.WalkMore
import Derived.ScopeJumps
import Derived.Deep.MidRow
import Derived.Test.YtikdaeddbkopeaaGreatRV3
set_option linter.unusedVariables false
set_option linter.unusedSimpArgs false
set_option maxRecDepth 100000
set_option maxHeartbeats 16000000
open And renaming intro → au
open Go renaming execOp → Av, setRow_heap → Cm, Program → Cn, wpList_store_rowTo → aK, wpList_load_row → aL, wp_at_zero → aV, wp_at_succ → aW, bodyPost_ret → aX, TypeId → bR, run_loadVar_row → be, results_cell_row → cb, wp_store_row → dH, results_none → dY, loadVar → dr, Ending → lb, wpAnyH_ready → qw
open Go.Ending renaming returned → ai
open Go.Instr renaming makeFunc → kZ, field → uP, sureAddr → xG
open Go.IntKind renaming i64 → ab
open Go.Lib renaming hid → ar
open Go.Obj renaming cells → ag
open Go.Proofs.Tryz renaming underlying70 → aI, underlying34 → aJ, prog → aw, underlying67 → bU
open Go.Result renaming andThen_ok → bQ
open Go.Sem renaming run_bind → di, run_pure → dx
open Go.Value renaming oneCell' → aD, bool → ah, int → aa, pointer → ae
open List renaming setIfInBounds_toArray → aj, set_cons_zero → ak, set_cons_succ → al, getElem_cons_zero → an, getElem_cons_succ → ao, getElem_toArray → aq
open Nat renaming le_trans → aQ, zero_le → aY, le_refl → az, lt_of_lt_of_le → bg, le_add_left → fu
open Or renaming inl → jL
open True renaming intro → aC
namespace Go.Proofs.YtikdaeddbkopeaaGreatR.list
open Go.RowKit
attribute [local go_sem ↓] aV aW
def lA (w:World) (l:Ly) (me:Nat) (A:Option Addr) (cap:Nat):Pk:=⟨l,me,A,cap,w.heap.size,w.heap.size+1+1,w.heap.size+1+1+1,w.heap.size+1⟩
abbrev pcZ (l:Ly) (me:Nat) (gv:Value):Array Value:=#[aa ab l.c.aM,aa ab l.c.nodes,aa ab l.c.buckets,aa ab l.c.slots,aa ab l.c.tasks,aa ab l.c.cells,aa ab l.c.maps,aa ab l.c.stacks,aa ab l.c.chans,aa ab l.done,aa ab l.count,aa ab l.era,aa ab l.free,aa ab l.alive,aa ab l.owner,aa ab l.resv,aa ab l.deque,aa ab l.ring,aa ab l.task,aa ab l.cell,aa ab l.map,aa ab l.stack,aa ab l.chan,aa ab l.node,aa ab l.size,aa ab me,gv,aa ab 0,aa ab 0,aa ab 0,aa ab 0,.nilFunc]
theorem yA (l:Ly) (me:Nat) (gv:Value) (g:cG) (A:Option Addr) (cap:Nat) (log:Log) (w:World) (f:dU l) (hg:bN w gv g) (hs:hH w w.heap.size A log) (hl:log.length<=100000):
  Calls aw 164 #[lyV l,aa ab me,gv,.slice A log.length cap] w fun e w'=>e=ai (ptr (w.heap.size+1+1))/\df w' (lA w l me A cap) ⟨[0,0,0],g,0⟩ log/\Below w.heap.size w w':=by
 obtain ⟨G,gc,rfl,hN,qP⟩:=hg;obtain ⟨gv,hgv⟩:∃ v,v=Value.slice G g.length gc:=⟨_,rfl⟩;have HG:=ar (show bN w (.slice G g.length gc) g from ⟨G,gc,rfl,hN,qP⟩)
 have HS:=ar hs;have k1:=((Bk.new (w.alloc (ag (lyC l) 34)) (g:=w.heap.size+1) zS 43 #[.slice A log.length cap]).alloc (ag (pcZ l me (.slice G g.length gc)) 211)).alloc (ag #[ptr (w.heap.size+1+1)] 199);have k2:=(Bk.new ((w.alloc (ag (lyC l) 34)).alloc (ag #[.slice A log.length cap] 43)) (g:=w.heap.size+1+1) zS 211 (pcZ l me (.slice G g.length gc))).alloc (ag #[ptr (w.heap.size+1+1)] 199);have k3:=Bk.new (((w.alloc (ag (lyC l) 34)).alloc (ag #[.slice A log.length cap] 43)).alloc (ag (pcZ l me (.slice G g.length gc)) 211)) (g:=w.heap.size+1+1+1) zS 199 #[ptr (w.heap.size+1+1)];have bz:=aB (aB (aB (aB (Below.refl w.heap.size w) (ag (lyC l) 34)) (ag #[.slice A log.length cap] 43)) (ag (pcZ l me (.slice G g.length gc)) 211)) (ag #[ptr (w.heap.size+1+1)] 199);have k0:=(Bk.made w 34 (lyC l)).alloc (ag #[.slice A log.length cap] 43);clear hN qP hs hgv gv;have Dv:∀ (fn:Fn) (first cap:Array Value) (w:World),(kZ fn first cap).run aw w= .ok (.func fn first cap) w:=fun _ _ _ _=>rfl
 go_enter Tryz.func164,Tryz.ntmps164
 go_upto_region 2 with (refine aL rfl 34 (.tmp 4) rfl w.heap.size rfl 34 (lyC l) (0,0) _ k0 aJ rfl zK ?_)
 generalize ((((w.alloc (ag (lyC l) 34)).alloc (ag #[.slice A log.length cap] 43)).alloc (ag (pcZ l me (.slice G g.length gc)) 211)).alloc (ag #[ptr (w.heap.size+1+1)] 199))=w4 at *;clear k0;obtain ⟨b1,h1⟩:∃ x,w.heap.size+1=x:=⟨_,rfl⟩;obtain ⟨b2,h2⟩:∃ x,b1+1=x:=⟨_,rfl⟩;obtain ⟨b3,h3⟩:∃ x,b2+1=x:=⟨_,rfl⟩;rw [h1] at k1;rw [h1,h2] at k2;rw [h1,h2,h3] at k3 ⊢;have z1:w.heap.size < b1:=zO;have z2:b1 < b2:=zO;have z3:b2 < b3:=zO;have c3:=k3.cell 0;have Ba:=k2.cell 31;have f31:=k2.free 31;have l2:=k2.lt;simp at c3 Ba
 go_upto_region 3 with fail
 clear Ba f31 l2 c3;replace k1:=k1.other (p:=⟨b2,31,none⟩) (by dsimp only;omega) (.func (.func 181) #[] #[ptr b3,ptr b1])
 replace k3:=k3.other (p:=⟨b2,31,none⟩) (by dsimp only;omega) (.func (.func 181) #[] #[ptr b3,ptr b1])
 replace bz:=bK bz (p:=⟨b2,31,none⟩) (by dsimp only;omega) (.func (.func 181) #[] #[ptr b3,ptr b1])
 replace k2:Bk (w4.setCell ⟨b2,31,none⟩ (.func (.func 181) #[] #[ptr b3,ptr b1])) b2 211 #[aa ab l.c.aM,aa ab l.c.nodes,aa ab l.c.buckets,aa ab l.c.slots,aa ab l.c.tasks,aa ab l.c.cells,aa ab l.c.maps,aa ab l.c.stacks,aa ab l.c.chans,aa ab l.done,aa ab l.count,aa ab l.era,aa ab l.free,aa ab l.alive,aa ab l.owner,aa ab l.resv,aa ab l.deque,aa ab l.ring,aa ab l.task,aa ab l.cell,aa ab l.map,aa ab l.stack,aa ab l.chan,aa ab l.node,aa ab l.size,aa ab me,.slice G g.length gc,aa ab 0,aa ab 0,aa ab 0,aa ab 0,.func (.func 181) #[] #[ptr b3,ptr b1]]:=k2.stored 31 (.func (.func 181) #[] #[ptr b3,ptr b1]);generalize w4.setCell ⟨b2,31,none⟩ (.func (.func 181) #[] #[ptr b3,ptr b1])=w6 at *;have c3:=k3.cell 0;simp at c3
 go_wp2_with fail
 go_ret
 subst h3 h2 h1;refine ⟨rfl,⟨⟨_,0,0,0,k2,(HG.out.gnV (gp:=w.heap.size+1+1) zO).ay bz,rfl⟩,k3,k1,HS.out.below bz,⟨by unfold lA;dsimp only;omega,by unfold lA;dsimp only;omega⟩,by unfold lA;dsimp only;omega,hl,aY _,f⟩,bz⟩
theorem jz (l:Ly) (x:LAc) (ga g7 go gb:Nat) (w:World) (ka:Bk w ga 67 bW):
  CallsD aw 182 #[ptr ga,ptr g7,ptr go,ptr gb] (.panicking [{ v:=np l x,recovered:=false }]) w fun e u' w'=>
   e=ai (.tuple #[])/\u'= .panicking [{ v:=np l x,recovered:=true }]/\Bk w' ga 67 (bj x.k (adr l x.c) x.o x.v)/\Stp ga w w':=by
 obtain ⟨k,c,o,v⟩:=x;generalize Ka:adr l c=ci;have e0:np l ⟨k,c,o,v⟩= .iface 213 (.agg (bj k ci o v)):=by unfold np D3;rw [Ka];(try rfl)
 rw [e0];clear e0 Ka;refine callsD_of_wpS Tryz.func182 rfl fun c₀ cs hu=>?_
 apply wpS_seq;apply wpS_region;simp [wpOpsS,go_sem,recoverD,hu,Tryz.ntmps182,Exit.thenS];refine wpS_of_wp ?_;have hn:∀ w:World,(binOp .eql 20 (.iface 213 (.agg (bj k ci o v))) .nilIface).run aw w= .ok (ah false) w:=fun _=>by kernel_rfl
 have heq:∀ w:World,(eqGuard .eql 20 (.tmp 7) (.const .nilIface) (.iface 213 (.agg (bj k ci o v))) .nilIface).run aw w= .ok () w:=fun _=>by kernel_rfl
 have rp:(#[ptr ga,ptr g7,ptr go,ptr gb]++(Array.replicate 19 undef).setIfInBounds 3 (.iface 213 (.agg (bj k ci o v))))=#[ptr ga,ptr g7,ptr go,ptr gb,undef,undef,undef,.iface 213 (.agg (bj k ci o v)),undef,undef,undef,undef,undef,undef,undef,undef,undef,undef,undef,undef,undef,undef,undef]:=zK;rw [rp];clear rp;have hta:∀ w:World,(Instr.typeAssert (.iface 213 (.agg (bj k ci o v))) 20 213 true).run aw w= .ok (.tuple #[.agg (bj k ci o v),ah true]) w:=fun _=>by kernel_rfl
 have l0:=ka.lt;have kx:=Bk.made w 213 (bj k ci o v);have NF:=ka.alloc (ag (bj k ci o v) 213);have aG:Stp ga w (w.alloc (ag (bj k ci o v) 213)):=(Stp.refl ga w).alloc _
 go_wp2_with (first
  | (refine dJ rfl 213 (.tmp 5) (.tmp 20) rfl rfl w.heap.size _ _ (bj k ci o v) rfl rfl rfl rfl zK rfl (by simp [aD]) ?_)
  | (refine aL rfl 67 (.tmp 21) rfl w.heap.size rfl 213 (bj k ci o v) (0,0) _ kx bU rfl zK ?_)
  | (refine aK rfl 67 (.tmp 0) (.tmp 22) rfl rfl ga (bj k ci o v) rfl rfl 67 bW NF zK rfl (by simp [aD]) ?_))
 have h1:Bk ((w.alloc (ag (bj k ci o v) 213)).setRow ga (bj k ci o v)) ga 67 (bj k ci o v):=Cm _ _ bW (bj k ci o v) 67 (0,0) NF;have h2:Stp ga w ((w.alloc (ag (bj k ci o v) 213)).setRow ga (bj k ci o v)):=
  ⟨aG.os,aG.tape,aG.output,by simp [World.setRow],fun b hb hn=>(setRow_other _ ga b _ hn).trans (aG.block b hb hn)⟩
 exact ⟨rfl,_,rfl,_,dY rfl _ _ _,rfl,rfl,h1,h2⟩
theorem j9 (ga g7 go gb:Nat) (w:World):
  CallsD aw 182 #[ptr ga,ptr g7,ptr go,ptr gb] .returning w fun e u' w'=>e=ai (.tuple #[])/\u'= .returning/\w'=w:=by
 refine callsD_of_wpS Tryz.func182 rfl fun c₀ cs hu=>?_
 apply wpS_seq;apply wpS_region;simp [wpOpsS,go_sem,recoverD,hu,Tryz.ntmps182,Exit.thenS];refine wpS_of_wp ?_;have hn:∀ w:World,(binOp .eql 20 .nilIface .nilIface).run aw w= .ok (ah true) w:=fun _=>by kernel_rfl
 have heq:∀ w:World,(eqGuard .eql 20 (.tmp 7) (.const .nilIface) .nilIface .nilIface).run aw w= .ok () w:=fun _=>by kernel_rfl
 have rp:(#[ptr ga,ptr g7,ptr go,ptr gb]++(Array.replicate 19 undef).setIfInBounds 3 .nilIface)=#[ptr ga,ptr g7,ptr go,ptr gb,undef,undef,undef,.nilIface,undef,undef,undef,undef,undef,undef,undef,undef,undef,undef,undef,undef,undef,undef,undef]:=zK;rw [rp];clear rp
 go_wp2
 cases c₀
 simp only at hu;subst hu;exact ⟨rfl,_,rfl,_,dY rfl _ _ _,rfl,rfl,rfl⟩
def tO {β:Type} (l:Ly) (q:An β) (T:Int->Bool->Int->Pz->Prop) (gp bm:Nat) (w:World) (e:lb) (w':World):Prop:=
 ((∃ a,q= .ask a/\e=ai (.tuple #[.agg (bj a.k (adr l a.c) a.o a.v),.agg aZ,ah false]))\/
  (∃ val is aH z' gv,T val is aH z'/\e=ai (.tuple #[.agg bW,.agg (br val is 0 aH gv),ah true])/\bN w' gv z'.gone))/\cL gp bm w w'
theorem q9 {β:Type} {k:Pk} {z:Pz} {log:Log} (q:An β) (T:Int->Bool->Int->Pz->Prop) (BV:Nat) (qg:Array Value) (bm:Nat) (w:World) (hbm:bm < w.heap.size) (h:df w k z log) (hcf:∀ w:World,(callFunc BV qg).run aw w= .ok (.enter BV qg) w)
  (hT:∀ val is aH z',T val is aH z'->z'.gone.length<=1000)
  (hc:∀ w2,Below w.heap.size w w2->Calls aw BV qg w2 (ji k bm q w2 fun v w3=>∃ val is aH z',T val is aH z'/\v= .agg (bu val is 0 aH)/\df w3 k z' log)):
  Calls aw 165 #[ptr k.gp,.func (.func BV) #[] qg] w (tO k.l q T k.gp bm w):=by
 have k0:=(((Bk.made w 199 #[ptr k.gp]).alloc (ag bW 67)).alloc (ag aZ 70)).alloc (ag #[ah false] 4);have k1:=((Bk.new (w.alloc (ag #[ptr k.gp] 199)) (g:=w.heap.size+1) zS 67 bW).alloc (ag aZ 70)).alloc (ag #[ah false] 4);have k2:=(Bk.new ((w.alloc (ag #[ptr k.gp] 199)).alloc (ag bW 67)) (g:=w.heap.size+1+1) zS 70 aZ).alloc (ag #[ah false] 4);have k3:=Bk.new (((w.alloc (ag #[ptr k.gp] 199)).alloc (ag bW 67)).alloc (ag aZ 70)) (g:=w.heap.size+1+1+1) zS 4 #[ah false];have bz:=aB (aB (aB (aB (Below.refl w.heap.size w) (ag #[ptr k.gp] 199)) (ag bW 67)) (ag aZ 70)) (ag #[ah false] 4);have zp:=h.lt;have zv:=h.kv.lt;have zl:=h.kl.lt;have HH:=ar h;have HT:=ar hT;have HC:=ar hc;clear h hT hc;have Dv:∀ (fn:Fn) (first cap:Array Value) (w:World),(kZ fn first cap).run aw w= .ok (.func fn first cap) w:=fun _ _ _ _=>rfl
 go_enter_defers Tryz.func165,Tryz.ntmps165
 go_upto_region 2 with fail
 generalize ((((w.alloc (ag #[ptr k.gp] 199)).alloc (ag bW 67)).alloc (ag aZ 70)).alloc (ag #[ah false] 4))=w4 at *;obtain ⟨b0,h0⟩:∃ x,w.heap.size=x:=⟨_,rfl⟩;have HW:=ar h0;rw [h0] at k0 k1 k2 k3 bz zp zv zl hbm ⊢;clear h0;obtain ⟨b1,h1⟩:∃ x,b0+1=x:=⟨_,rfl⟩;obtain ⟨b2,h2⟩:∃ x,b1+1=x:=⟨_,rfl⟩;obtain ⟨b3,h3⟩:∃ x,b2+1=x:=⟨_,rfl⟩;rw [h1] at k1;rw [h1,h2] at k2;rw [h1,h2,h3] at k3 ⊢;have z1:b0 < b1:=zO;have z2:b1 < b2:=zO;have z3:b2 < b3:=zO;clear h1 h2 h3;have y0:=k0.lt;have y1:=k1.lt;have y2:=k2.lt;have y3:=k3.lt
 go_wp2_with fail
 (with_reducible refine (HC.out w4 (by rw [HW.out];exact bz)).mono ?_)
 rintro e w5 (⟨a,hq,rfl,hs⟩ | ⟨v,rfl,⟨val,is,aH,z',hT,rfl,hp⟩,hs⟩)
 ·have HQ:=ar hq;clear hq;replace k1:=hs.ay k1 zO zO;replace k2:=hs.ay k2 zO zO;replace k3:=hs.ay k3 zO zO;have fa:=(cL.aS k.gp bm (by rw [HW.out];exact bz:Below w.heap.size w w4)).trans hs
  refine leaves_cons (f:=182) (args:=#[ptr b1,ptr b0,ptr b2,ptr b3]) zS (by simp [go_sem]) ?_
  refine (jz k.l a b1 b0 b2 b3 _ k1).mono ?_;rintro e u' w6 ⟨rfl,rfl,ka,dB⟩;replace k2:=dB.ay k2 zO;replace k3:=dB.ay k3 zO;refine ⟨_,iH (p:=4) (q:=5) (t:=6) (t1:=67) (t2:=70) (t3:=4) rfl _ _ b1 b2 b3 (bj a.k (adr k.l a.c) a.o a.v) aZ (0,0) (0,0) _ _ _ rfl rfl rfl ka k2 bU rfl zK aI rfl zK (ky _ b3 false k3),?_⟩;refine ⟨.inl ⟨a,HQ.out,rfl⟩,?_⟩;exact ⟨dB.os.trans fa.os,dB.tape.trans fa.tape,dB.output.trans fa.output,aQ fa.size dB.size,fun b hb hn uL=>(dB.block b (bg hb fa.size) (by rw [HW.out] at hb;omega)).trans (fa.block b hb hn uL)⟩
 ·have HP:=ar (au hT hp);have hg:=HT.out _ _ _ _ hT;obtain ⟨gv,e0,e1,e2,kp,kg,-⟩:=hp.kp;clear hT hp;replace k0:=hs.ay k0 zO zO;replace k1:=hs.ay k1 zO zO;replace k2:=hs.ay k2 zO zO;replace k3:=hs.ay k3 zO zO;have fa:=(cL.aS k.gp bm (by rw [HW.out];exact bz:Below w.heap.size w w4)).trans hs
  clear hs bz;obtain ⟨v,hv⟩:∃ v,v=Value.agg (bu val is 0 aH):=⟨_,rfl⟩
  go_upto_region 3 with (refine aK rfl 70 (.tmp 5) (.tmp 9) rfl rfl b2 (bu val is 0 aH) rfl rfl 70 aZ k2 zK rfl (by simp [aD]) ?_)
  clear hv v;have NC:=kg.row k2 zD (bu val is 0 aH);replace kp:=Bk.a7 kp (b:=b2) zO (bu val is 0 aH);replace k0:=k0.a7 (b:=b2) zO (bu val is 0 aH);replace k1:=k1.a7 (b:=b2) zO (bu val is 0 aH);replace k3:=k3.a7 (b:=b2) zO (bu val is 0 aH);replace k2:=k2.bL (bu val is 0 aH);replace fa:=fa.row (b:=b2) (.inl (by rw [HW.out];omega)) (bu val is 0 aH)
  clear kg;generalize w5.setRow b2 (bu val is 0 aH)=w6 at *;have c0:=k0.cell 0;have jI:=Bk.cell kp 26;simp at c0 jI;have lp6:=Bk.lt kp
  go_wp2_with fail
  (with_reducible refine (GnV.clone NC hg).mono ?_)
  rintro e w7 ⟨G,n,c,rfl,hn,yU,bn,hb⟩;subst hn;have HG:=ar (show bN w7 (.slice G z'.gone.length c) z'.gone from ⟨G,c,rfl,yU,nK bn rfl⟩)
  replace kp:=Bk.ay kp hb;replace k0:=Bk.ay k0 hb;replace k1:=Bk.ay k1 hb;replace k2:=Bk.ay k2 hb;replace k3:=Bk.ay k3 hb;replace fa:=fa.trans (.aS k.gp bm hb);clear hb c0 jI NC bn yU lp6;have q4:=k2.cell 4;have f4:=k2.free 4;have l4:=k2.lt;simp at q4
  go_upto_region 4 with fail
  clear q4 f4 l4;have qt:=HG.out.cell k2 zD 4 (.slice G z'.gone.length c);replace k2:Bk (w7.setCell ⟨b2,4,none⟩ (.slice G z'.gone.length c)) b2 70 (br val is 0 aH (.slice G z'.gone.length c)):=k2.stored 4 (.slice G z'.gone.length c);replace k1:=k1.other (p:=⟨b2,4,none⟩) (by dsimp only;omega) (.slice G z'.gone.length c)
  replace k3:=k3.other (p:=⟨b2,4,none⟩) (by dsimp only;omega) (.slice G z'.gone.length c)
  replace fa:=fa.cell (p:=⟨b2,4,none⟩) (.inl (by rw [HW.out];dsimp only;omega)) (.slice G z'.gone.length c)
  clear HG kp k0;obtain ⟨gv2,hgv2⟩:∃ v,v=Value.slice G z'.gone.length c:=⟨_,rfl⟩;generalize w7.setCell ⟨b2,4,none⟩ (.slice G z'.gone.length c)=Co at *;refine wp_region_held_drew (S:=fun w'=>Bk w' b2 70 (br val is 0 aH (.slice G z'.gone.length c))) zK k2.drew (fun uu=>?_)
  clear uu;replace k1:=k1.drew;replace k2:=k2.drew;replace k3:=k3.drew;replace fa:=fa.drew;replace qt:bN Co.drew (.slice G z'.gone.length c) z'.gone:=qt;generalize Co.drew=w17 at *;have lJ:∀ (d:Nat),d≠4/\d≠5/\d≠6->∀ (v:Value) {R:lb->World->Prop} {K:Act->World->Prop} {c:List PanicEntry} {a:Act} {w:World},Exit.then K (bodyPostD aw Tryz.f165 R) (Exit.panic c) (a.put (some d) v) w->Exit.then K (bodyPostD aw Tryz.f165 R) (Exit.panic c) a w:=fun d hd v _ _ _ _ _ h=>uj (p:=4) (q:=5) (t:=6) (t1:=67) (t2:=70) (t3:=4) Tryz.results165 hd h
  refine wpAnyH_take (i:=0) (oi:=_) (v:=.agg bW) rfl zK zK zK (fun _ _ _ h=>lJ 16 zO _ h) (jL ⟨by rfl,?_⟩) k2 ?_
  ·intro w' hSw
   (try simp only [aq,an])
   go_simp
  (try simp only [aq,an,Act.put,aj,ak,al])
  refine wpAnyH_take (i:=1) (oi:=_) (v:=.agg (br val is 0 aH (.slice G z'.gone.length c))) rfl zK zK zK (fun _ _ _ h=>lJ 17 zO _ h) (jL ⟨by rfl,?_⟩) k2 ?_
  ·intro w' hSw
   (try simp only [aq,ao,an])
   simp only [Av,Instr.loadAt,xG,di,dx];rw [show (Act.eval _ (Operand.tmp 5))=Value.pointer (some ⟨b2,0,none⟩) from rfl]
   simp only [dx,bQ,be w' b2 70 70 (br val is 0 aH (.slice G z'.gone.length c)) (0,0) _ hSw aI rfl zK]
  (try simp only [aq,ao,an,Act.put,aj,ak,al])
  refine qw (rs:=[2]) zK zS ?_;refine AllReadyH.cons (o:=_) rfl (fun K hK=>?_) AllReadyH.nil
  rw [if_pos (by rfl)]
  refine dH 67 (.tmp 4) (.tmp 16) rfl b1 bW rfl rfl 67 bW k1 zK rfl (by simp [aD]) ?_
  replace qt:=qt.row k1 zD bW;replace k2:=k2.a7 (b:=b1) zO bW;replace k3:=k3.a7 (b:=b1) zO bW;replace k1:=k1.bL bW;replace fa:=fa.row (b:=b1) (.inl (by rw [HW.out];omega)) bW
  refine hK.out _ _ k2 (fun ru=>?_)
  clear ru hK K
  (try simp only [aq,ao,an,Act.put])
  generalize w17.setRow b1 bW=Mi at *;refine qw (rs:=[3]) zK zS ?_;refine AllReadyH.cons (o:=_) rfl (fun K hK=>?_) AllReadyH.nil
  rw [if_pos (by rfl)]
  refine dH 70 (.tmp 5) (.tmp 17) rfl b2 (br val is 0 aH (.slice G z'.gone.length c)) rfl rfl 70 (br val is 0 aH (.slice G z'.gone.length c)) k2 zK rfl (by simp [aD]) ?_
  replace qt:=qt.row k2 zD (br val is 0 aH (.slice G z'.gone.length c));replace k1:=k1.a7 (b:=b2) zO (br val is 0 aH (.slice G z'.gone.length c));replace k3:=k3.a7 (b:=b2) zO (br val is 0 aH (.slice G z'.gone.length c));replace k2:=k2.bL (br val is 0 aH (.slice G z'.gone.length c));replace fa:=fa.row (b:=b2) (.inl (by rw [HW.out];omega)) (br val is 0 aH (.slice G z'.gone.length c))
  refine hK.out _ _ k2 (fun ru=>?_)
  clear ru hK K
  (try simp only [aq,ao,an,Act.put])
  generalize Mi.setRow b2 (br val is 0 aH (.slice G z'.gone.length c))=JM at *;have q6:=k3.cell 0;have f6:=k3.free 0;have l6:=k3.lt;simp at q6;refine qw (rs:=[4]) zK zS ?_;refine AllReadyH.cons (o:=_) rfl (fun K hK=>?_) AllReadyH.nil
  (try simp only [aq,ao,an])
  go_simp;clear q6 f6 l6;replace qt:=qt.cell k3 zD 0 (ah true);replace k3:Bk (JM.setCell ⟨b3,0,none⟩ (ah true)) b3 4 #[ah true]:=k3.stored 0 (ah true);replace k1:=k1.other (p:=⟨b3,0,none⟩) (by dsimp only;omega) (ah true)
  replace k2:=k2.other (p:=⟨b3,0,none⟩) (by dsimp only;omega) (ah true)
  replace fa:=fa.cell (p:=⟨b3,0,none⟩) (.inl (by rw [HW.out];dsimp only;omega)) (ah true)
  refine hK.out _ _ k2 (fun ru=>?_)
  clear ru hK K
  (try simp only [aq,ao,an,Act.put,aj,ak,al])
  generalize JM.setCell ⟨b3,0,none⟩ (ah true)=w20 at *;refine wpAnyH_done zK ?_ _
  go_wp2
  refine leaves_cons (f:=182) (args:=#[ptr b1,ptr b0,ptr b2,ptr b3]) zS (by simp [go_sem]) ?_
  refine (j9 b1 b0 b2 b3 _).mono ?_;rintro e u' w21 ⟨rfl,rfl,rfl⟩;refine ⟨_,iH (p:=4) (q:=5) (t:=6) (t1:=67) (t2:=70) (t3:=4) rfl _ _ b1 b2 b3 bW (br val is 0 aH (.slice G z'.gone.length c)) (0,0) (0,0) _ _ _ rfl rfl rfl k1 k2 bU rfl zK aI rfl zK (ky _ b3 true k3),?_⟩;exact ⟨.inr ⟨val,is,aH,z',_,HP.out.1,rfl,qt⟩,fa⟩
theorem jX (th me:Int) (op:LOp) (x:LPh) (z:Pz) (l:Log):fM th me op x z l=doR (x.acc me op) z (fun r _ l'=>cS th me op (x.stp th op z r) l') l:=by
 cases l with
 | nil=>rfl
 | cons r l=>exact fp th me op x z r l
theorem yn (th me:Int) (op:LOp) (k:LK) (y:SX) (f:Ret->Pz->LX) (l:Log) (hf:∀ t s,f t s=jS op t s k):cS th me op (y.oX k f) l=eM th me (fun t z l=>cS th me op (jS op t z k) l) y l:=by
 cases y with
 | go x z=>exact mF th me op k l x z
 | ret t z=>show cS th me op (f t z) l=cS th me op (jS op t z k) l;rw [hf]
 | stuck=>rfl
theorem iv (n:Int) (w:World):Calls aw 190 #[aa ab n] w fun e w'=>e=ai (aa ab (a9 n))/\Below w.heap.size w w':=by
 go_enter Tryz.func190,Tryz.ntmps190
 go_wp2_with fail
 (with_reducible refine (iy n false 0 w).mono ?_)
 rintro e w1 ⟨rfl,hb⟩
 go_wp2_with fail
 go_ret
 exact ⟨rfl,hb⟩
theorem IX (n:Int) (w:World):Calls aw 193 #[aa ab n] w fun e w'=>e=ai (aa ab (gZ n))/\Below w.heap.size w w':=by
 go_enter Tryz.func193,Tryz.ntmps193
 go_wp2_with fail
 (with_reducible refine (iy n true 0 w).mono ?_)
 rintro e w1 ⟨rfl,hb⟩
 go_wp2_with fail
 go_ret
 exact ⟨rfl,hb⟩
abbrev fdC (k:Pk) (there:Bool) (prev cur next pt head:Int):Array Value:=#[ptr k.gp,.bool there,aa ab prev,aa ab cur,aa ab next,aa ab pt,aa ab head]
theorem Iu {l:List Value} {n:Nat} (h:l.length=n+1):∃ x l',l=x :: l'/\l'.length=n:=by
 cases l with
 | nil=>cases h
 | cons x l'=>exact ⟨x,l',rfl,by simpa using h⟩
theorem bI {o:Oper} {a:Act} {x:Operand} {w:World} {ty:bR} {g:Nat} {v:Value} (ho:o.op= .load ty x) (hx:a.eval x=ptr g) (hl:(dr ty ⟨g,0,none⟩).run aw w= .ok v w):(Av a.eval o).run aw w= .ok (.value v) w:=by
 unfold Av;simp only [ho,hx,ptr,Instr.loadAt,xG,di,dx,bQ,hl]
theorem zV {P:Cn} {a:Act} {w:World} {Q:Exit->Act->World->Prop} {r:Code} (l:Nat) (J:Act->World->Prop) (μ:Act->World->Nat) (hJ:J a w)
  (pass:∀ a w,J a w->r.wp P (Exit.jump l (fun a' w'=>J a' w'/\μ a' w' < μ a w) Q) a w):(Code.scope ((Code.label l).seq r)).wp P Q a w:=by
 refine wp_scope_jumps (rest:=.seq .skip r) l J μ (by simp [findLabel]) ?_ (fun a w h=>wp_seq (wp_skip (pass a w h)))
 refine wp_seq (wp_label ?_);refine wp_mono (pass a w hJ) (fun e a' w' h=>?_)
 cases e with
 | goto l'=>exact ⟨h.1,h.2.1⟩
 | _=>exact h
theorem Oi {w:World} {k:Pk} {gf:Nat} {there:Bool} {prev cur next pt head:Int} (h:Bk w gf 204 (fdC k there prev cur next pt head)):w.there gf 1 5:=by
 intro j hj;have:j=0\/j=1\/j=2\/j=3\/j=4:=zO;refine ⟨?_,h.free _⟩;rw [h.cell];rcases this with rfl | rfl | rfl | rfl | rfl <;> rfl
theorem lK {w w0:World} {k:Pk} {z:Pz} {log:Log} {gf:Nat} {cs:Array Value} (hp:df w k z log) (aG:cL k.gp gf w0 w) (kf:Bk w gf 204 cs) (hg:k.gp < gf) (i:Nat) (v:Value):
  df (w.setCell ⟨gf,i,none⟩ v) k z log/\cL k.gp gf w0 (w.setCell ⟨gf,i,none⟩ v)/\Bk (w.setCell ⟨gf,i,none⟩ v) gf 204 (cs.setIfInBounds i v):=
 ⟨hp.rB kf (by have:=hp.bp;omega) zD i v,aG.cell (.inr (.inr rfl)) v,kf.stored i v⟩
theorem fd_set5 {w w0:World} {k:Pk} {z:Pz} {log:Log} {gf:Nat} {there:Bool} {prev cur next pt head:Int} (hp:df w k z log) (aG:cL k.gp gf w0 w) (kf:Bk w gf 204 (fdC k there prev cur next pt head)) (hg:k.gp < gf) (t':Bool) (pv cu nx p:Int):
  df (((((w.setCell ⟨gf,1,none⟩ (.bool t')).setCell ⟨gf,1+1,none⟩ (aa ab pv)).setCell ⟨gf,1+1+1,none⟩ (aa ab cu)).setCell ⟨gf,1+1+1+1,none⟩ (aa ab nx)).setCell ⟨gf,1+1+1+1+1,none⟩ (aa ab p)) k z log/\
  cL k.gp gf w0 (((((w.setCell ⟨gf,1,none⟩ (.bool t')).setCell ⟨gf,1+1,none⟩ (aa ab pv)).setCell ⟨gf,1+1+1,none⟩ (aa ab cu)).setCell ⟨gf,1+1+1+1,none⟩ (aa ab nx)).setCell ⟨gf,1+1+1+1+1,none⟩ (aa ab p))/\
  Bk (((((w.setCell ⟨gf,1,none⟩ (.bool t')).setCell ⟨gf,1+1,none⟩ (aa ab pv)).setCell ⟨gf,1+1+1,none⟩ (aa ab cu)).setCell ⟨gf,1+1+1+1,none⟩ (aa ab nx)).setCell ⟨gf,1+1+1+1+1,none⟩ (aa ab p)) gf 204 (fdC k t' pv cu nx p head):=by
 obtain ⟨p1,s1,k1⟩:=lK hp aG kf hg 1 (.bool t');obtain ⟨p2,s2,k2⟩:=lK p1 s1 k1 hg (1+1) (aa ab pv);obtain ⟨p3,s3,k3⟩:=lK p2 s2 k2 hg (1+1+1) (aa ab cu);obtain ⟨p4,s4,k4⟩:=lK p3 s3 k3 hg (1+1+1+1) (aa ab nx);obtain ⟨p5,s5,k5⟩:=lK p4 s4 k4 hg (1+1+1+1+1) (aa ab p);exact ⟨p5,s5,k5⟩
def FdJ (k:Pk) (th:Int) (op:LOp) (K:FK) (log:Log) (q:An (dA × Pz)) (gf:Nat) (o:Int) (m0:Nat) (w0:World) (a:Act) (w:World):Prop:=
 a.defers=[]/\a.tmps.size=210/\a.tmps.getD 0 undef=ptr gf/\a.tmps.getD 1 undef=aa ab o/\
  ∃ z' there prev cur next pt,df w k z' log/\cL k.gp gf w0 w/\Bk w gf 204 (fdC k there prev cur next pt (nodeAt k.l op.h 0))/\m0<=z'.made/\q=fM th k.me op (.sub (.g1 0 (.nd op.h 0)) (.fh K)) z' (log.drop z'.made)
def FdJ2 (k:Pk) (th:Int) (op:LOp) (K:FK) (log:Log) (q:An (dA × Pz)) (gf:Nat) (m0:Nat) (w0:World) (m1:Nat) (w:World):Prop:=
 ∃ z' there prev cur next pt,df w k z' log/\cL k.gp gf w0 w/\Bk w gf 204 (fdC k there prev cur next pt (nodeAt k.l op.h 0))/\m1 < z'.made/\m0<=z'.made/\q=fM th k.me op (.sub (.g1 0 (.nd op.h 0)) (.fh K)) z' (log.drop z'.made)
theorem FdJ2.jump {k:Pk} {th:Int} {op:LOp} {K:FK} {log:Log} {q:An (dA × Pz)} {gf m0 m1:Nat} {w0 wj:World} {a:Act} {w:World} (h:FdJ2 k th op K log q gf m0 w0 m1 w) (hd:a.defers=[]) (hs:a.tmps.size=210) (h0:a.tmps.getD 0 undef=ptr gf) (h1:a.tmps.getD 1 undef=aa ab op.o)
  (hj:madeOf k.gp wj=m1) (hl:m1<=log.length):FdJ k th op K log q gf op.o m0 w0 a w/\log.length+1 - madeOf k.gp w < log.length+1 - madeOf k.gp wj:=by
 obtain ⟨z',there,prev,cur,next,pt,hp,r1,r2,r3,r4,r5⟩:=h
 refine ⟨⟨hd,hs,h0,h1,z',there,prev,cur,next,pt,hp,r1,r2,r4,r5⟩,?_⟩
 rw [dj hp,hj];have:=hp.mle;omega
def Ci (k:Pk) (th:Int) (op:LOp) (K:FK) (log:Log) (q:An (dA × Pz)) (gf:Nat) (m0:Nat) (u:Value) (w':World):Prop:=
 ∃ there prev cur next pt z',u= .tuple #[]/\df w' k z' log/\Bk w' gf 204 (fdC k there (nodeAt k.l prev 0) cur next (pt:Nat) (nodeAt k.l op.h 0))/\0<=cur/\cur < 65536/\m0 < z'.made/\q=cS th k.me op (kI op K there prev cur next pt z') (log.drop z'.made)
def Kz (k:Pk) (th:Int) (op:LOp) (K:FK) (log:Log) (q:An (dA × Pz)) (gf m1:Nat) (w0:World) (v4 v5 v6:Value) (w:World):Prop:=
 ∃ z' a b c prev cur pt,v4=aa ab (a:Nat)/\v5=aa ab (b:Nat)/\v6=aa ab (c:Nat)/\(a < 3/\b < 3/\c < 3)/\df w k z' log/\cL k.gp gf w0 w/\Bk w gf 204 (fdC k false (nodeAt k.l prev 0) cur 0 (pt:Nat) (nodeAt k.l op.h 0))/\
  (0<=cur/\cur < 65536/\prev<=9223372036854775807)/\m1 < z'.made/\q=cS th k.me op (fY op K ⟨a,b,c,prev,cur,pt⟩ z') (log.drop z'.made)
section
variable {w:World} {k:Pk} {z:Pz} {log:Log} {q:An (dA × Pz)}
theorem uw (th:Int) (op:LOp) (K:FK) (gf:Nat) (there:Bool) (prev cur next pt:Int) (h:df w k z log) (jl:th=2 * k.l.c.aM) (hs:1<=k.l.c.aM/\k.l.c.aM<=8) (zT:k.gp < gf) (hh:op.h<=9223372036854775807) (kf:Bk w gf 204 (fdC k there prev cur next pt (nodeAt k.l op.h 0)))
  (hq:q=fM th k.me op (.sub (.g1 0 (.nd op.h 0)) (.fh K)) z (log.drop z.made)) (gq:q≠ .stuck):
  Calls aw 183 #[ptr gf,aa ab op.o] w (ji k gf q w (Ci k th op K log q gf z.made)):=by
 have HNS:=ar (au gq (au jl (au hs hh)));have HJ0:=ar (show ∃ z' there prev cur next pt,df w k z' log/\cL k.gp gf w w/\Bk w gf 204 (fdC k there prev cur next pt (nodeAt k.l op.h 0))/\z.made<=z'.made/\q=fM th k.me op (.sub (.g1 0 (.nd op.h 0)) (.fh K)) z' (log.drop z'.made) from ⟨z,there,prev,cur,next,pt,h,cL.refl _ _ _,kf,az _,hq⟩)
 have lgf:=kf.lt;have HGF:=ar lgf;have HB:=ar zT;clear h jl hs hh kf hq gq there prev cur next pt lgf
 go_enter Tryz.func183,Tryz.ntmps183;refine zV 0 (FdJ k th op K log q gf op.o z.made w) (fun _ w=>log.length+1 - madeOf k.gp w) ⟨rfl,rfl,rfl,rfl,HJ0.out⟩ ?_
 clear HJ0;rintro ⟨tmps,ds⟩ wj ⟨hds,nX,ht0,ht1,z0,there,prev,cur,next,pt,hp,aG,kf,A5,hq⟩
 obtain rfl:ds=[]:=hds;obtain ⟨tmps,rfl⟩:∃ l:List Value,tmps=l.toArray:=⟨tmps.toList,zS⟩;replace nX:tmps.length=210:=by simpa using nX
 have hsy:=Iu nX;clear nX;obtain ⟨t0,tmps,rfl,nX⟩:=hsy;have hsy:=Iu nX;clear nX;obtain ⟨t1,tmps,rfl,nX⟩:=hsy;obtain rfl:t0=ptr gf:=ht0;obtain rfl:t1=aa ab op.o:=ht1
 iterate 208 (have hsy:=Iu nX;clear nX;obtain ⟨_,_,rfl,nX⟩:=hsy)
 obtain rfl:=List.eq_nil_of_length_eq_zero nX;clear nX;have HJ:=ar (au (dj hp) (au hp.mle A5));have HQ:=ar (hq.trans (mF _ _ _ _ _ _ _));clear hq A5
 go_upto_region 1 with fail
 refine aP (S:=fun w'=>Bk w' gf 204 (fdC k there prev cur next pt (nodeAt k.l op.h 0))) (E:=fun _=>false) zK ?_
 replace hp:df wj.drew k z0 log:=hp.ay (aU (Below.refl wj.heap.size wj));replace aG:=aG.drew;replace kf:=kf.drew;generalize wj.drew=w1 at *;refine wTk 9 [(0,16,ae (some ⟨gf,0,none⟩)),(1,17,ae (some ⟨gf,0,none⟩)),(2,18,ae (some ⟨gf,0,none⟩)),(3,19,ae (some ⟨k.gp,0,none⟩)),(4,20,aa ab 0),(5,21,ae (some ⟨gf,0,none⟩)),(6,22,ae (some ⟨gf,0,none⟩)),(7,23,ae (some ⟨gf,6,none⟩)),(8,24,aa ab (nodeAt k.l op.h 0))] ?_ kf ?_
 ·intro w' hS;have c0:=hS.cell 0;have c6:=hS.cell 6;simp at c0 c6;have fg:True:=aC
  (repeat' (first | exact aC | refine au ⟨_,rfl,.inl ⟨rfl,?_⟩⟩ ?_))
  all_goals exact zG
 simp only [aR,Act.put,aj,ak,al];have hd:Calls aw 196 #[ptr k.gp,aa ab 0,aa ab (nodeAt k.l op.h 0)] w1 _:=yz th 0 (.nd op.h 0) (nodeAt k.l op.h 0) _ hp zO rfl HQ.out;refine aE (i:=9) (o:=_) zK rfl (fun KK hK=>?_)
 (try simp only [aq,ao,an])
 go_simp
 (with_reducible refine (hd).mono ?_)
 rintro e w2 (⟨x,h1,rfl,h3⟩ | ⟨v,rfl,⟨x1,p,z1,rfl,eP,ei,mV,hpz⟩,cQ⟩)
 ·exact ⟨rfl,.inl ⟨x,h1,rfl,aG.trans h3.two⟩⟩
 replace aG:=aG.trans cQ.two;replace kf:=cQ.ay kf zO;have lh:=ar ei;have HM1:=ar mV;clear hd hp cQ ei mV hpz HQ;have hp:=eP;clear eP;refine hK.out _ _ (fun _=>kf) ?_
 clear hK KK
 (try simp only [Act.put,aj,ak,al])
 refine wTk 1 [(10,15,.tuple #[aa ab x1,aa ab (p:Nat)])] ?_ kf ?_
 ·intro w' hS;have fg:True:=aC
  (repeat' (first | exact aC | refine au ⟨_,rfl,.inl ⟨rfl,?_⟩⟩ ?_))
  all_goals exact zG
 simp only [aR,Act.put,aj,ak,al];refine wTk 2 [(11,26,aa ab x1),(12,27,aa ab (p:Nat))] ?_ kf ?_
 ·intro w' hS;have fg:True:=aC
  (repeat' (first | exact aC | refine au ⟨_,rfl,.inl ⟨rfl,?_⟩⟩ ?_))
  all_goals exact zG
 simp only [aR,Act.put,aj,ak,al];refine wTk 2 [(13,7,aa ab x1),(14,8,aa ab (p:Nat))] ?_ kf ?_
 ·intro w' hS;have fg:True:=aC
  (repeat' (first | exact aC | refine au ⟨_,rfl,.inl ⟨rfl,?_⟩⟩ ?_))
  all_goals exact zG
 simp only [aR,Act.put,aj,ak,al];refine aN zK ?_ _;have Dw:∀ (a:Int) (b:Bool) (c:Int) (w:World),(uP 81 (.agg #[aa ab a,.bool b,aa ab c]) 0).run aw w= .ok (aa ab a) w:=fun _ _ _ _=>by kernel_rfl
 go_upto_region 2 with fail
 refine aP (S:=fun w'=>Bk w' gf 204 (fdC k there prev cur next pt (nodeAt k.l op.h 0))) (E:=fun i=>i==12) zK ?_
 replace hp:df w2.drew k z1 log:=hp.ay (aU (Below.refl w2.heap.size w2));replace aG:=aG.drew;replace kf:=kf.drew;generalize w2.drew=w3 at *;refine wTk 7 [(0,28,ae (some ⟨gf,0,none⟩)),(1,29,ae (some ⟨gf,0,none⟩)),(2,30,ae (some ⟨gf,0,none⟩)),(3,31,ae (some ⟨gf,6,none⟩)),(4,32,aa ab (nodeAt k.l op.h 0)),(5,33,aa ab x1),(8,36,aa ab (p:Nat))] ?_ kf ?_
 ·intro w' hS;have c6:=hS.cell 6;simp at c6;have fg:True:=aC
  (repeat' (first | exact aC | refine au ⟨_,rfl,.inl ⟨rfl,?_⟩⟩ ?_))
  all_goals exact zG
 simp only [aR,Act.put,aj,ak,al];refine aE (i:=6) (o:=_) zK rfl (fun KK hK=>?_)
 (try simp only [aq,ao,an])
 go_simp
 (with_reducible refine (gV x1 _).mono ?_)
 rintro e w4 ⟨rfl,hb⟩;replace hp:=hp.ay hb;replace kf:=kf.ay hb;replace aG:=aG.trans (cL.aS _ _ hb);clear hb;obtain ⟨ix,jZ⟩:∃ z,x1 % 65536=z:=⟨_,rfl⟩;have L8:0<=ix/\ix < 65536:=zO;rw [jZ];have lj:=ar jZ;clear jZ;refine hK.out _ _ (fun _=>kf) ?_
 clear hK KK
 (try simp only [Act.put,aj,ak,al])
 refine wTk 1 [(7,35,aa ab ix)] ?_ kf ?_
 ·intro w' hS;have fg:True:=aC
  (repeat' (first | exact aC | refine au ⟨_,rfl,.inl ⟨rfl,?_⟩⟩ ?_))
  all_goals exact zG
 simp only [aR,Act.put,aj,ak,al];refine wTk 1 [(9,37,.agg #[ah false,aa ab (nodeAt k.l op.h 0),aa ab ix,aa ab 0,aa ab (p:Nat)])] ?_ kf ?_
 ·intro w' hS;have fg:True:=aC
  (repeat' (first | exact aC | refine au ⟨_,rfl,.inl ⟨rfl,?_⟩⟩ ?_))
  all_goals exact zG
 simp only [aR,Act.put,aj,ak,al];refine aE (i:=10) (o:=_) zK rfl (fun KK hK=>?_)
 (try simp only [aq,ao,an])
 go_simp;refine hK.out _ _ (fun _=>kf) ?_
 clear hK KK
 (try simp only [Act.put,aj,ak,al])
 refine aE (i:=11) (o:=_) zK rfl (fun KK hK=>?_)
 (try simp only [aq,ao,an])
 go_simp;refine hK.out _ _ (fun _=>kf) ?_
 clear hK KK
 (try simp only [Act.put,aj,ak,al])
 refine aE (i:=12) (o:=_) zK rfl (fun KK hK=>?_)
 (try simp only [aq,ao,an])
 rw [if_pos (by rfl)]
 refine wp_store_mid 202 (.tmp 39) (.tmp 37) rfl gf 1 #[ah false,aa ab (nodeAt k.l op.h 0),aa ab ix,aa ab 0,aa ab (p:Nat)] rfl rfl (Oi kf) zK (by simp [aD]) ?_
 simp only [World.setCells];refine hK.out _ _ (fun h=>absurd h zD) ?_
 clear hK KK
 (try simp only [aq,ao,an,Act.put])
 refine aN zK ?_ _;obtain ⟨mS,jP,ND⟩:=fd_set5 hp aG kf HB.out false (nodeAt k.l op.h 0) ix 0 (p:Nat);clear hp aG kf
 revert mS jP ND
 generalize ((((w4.setCell ⟨gf,1,none⟩ (ah false)).setCell ⟨gf,1+1,none⟩ (aa ab (nodeAt k.l op.h 0))).setCell ⟨gf,1+1+1,none⟩ (aa ab ix)).setCell ⟨gf,1+1+1+1,none⟩ (aa ab 0)).setCell ⟨gf,1+1+1+1+1,none⟩ (aa ab (p:Nat))=w5;intro hp aG kf;have HL:=ar (show Kz k th op K log q gf z0.made w (aa ab (0:Nat)) (aa ab (1:Nat)) (aa ab (2:Nat)) w5 from ⟨z1,0,1,2,op.h,ix,p,rfl,rfl,rfl,⟨zD,zD,zD⟩,hp,aG,kf,⟨L8.1,L8.2,HNS.out.2.2.2⟩,HM1.out,by rw [lh.out,<- lj.out];rfl⟩)
 have zU:=ar (dj hp);clear hp aG kf L8 lj HM1 lh Dw
 go_wp2_with fail
 go_loopw [4,5,6] (fun v4 v5 v6 wr=>Kz k th op K log q gf z0.made w v4 v5 v6 wr) (fun _ _ _ wr=>log.length+1 - madeOf k.gp wr)
 case atStart=>exact HL.out
 case round=>
  clear HL zU;obtain ⟨z2,a,b,c,prev,cur,pt,rfl,rfl,rfl,habc,hp,aG,kf,dD,hm,hq⟩:=hrel;have HQ:=ar hq;have HM:=ar (au (dj hp) (au hm hp.mle));have Es:=ar (au habc dD);clear hq hm habc dD
  by_cases hcz:cur=0
  ·subst hcz;have HP:=ar (show Ci k th op K log q gf z.made (.tuple #[]) wr from ⟨false,prev,0,0,pt,z2,rfl,hp,kf,zD,zD,by have:=HJ.out;have:=HM.out;omega,by rw [HQ.out];unfold fY;rw [if_pos rfl]⟩)
   have xC:=ar aG;have c3:=kf.cell 3;have lf:=kf.lt;simp at c3;clear hp aG kf
   go_wp2_with fail
   exact bodyPost_end (dY rfl _ _ _) rfl (.inr ⟨_,rfl,HP.out,xC.out⟩)
  have hce:(cur != 0)=true:=by simp [hcz]
  have fR:=ar (show q=jO th k.me (fun t z l=>cS th k.me op (jS op t z (.fn K ⟨a,b,c,prev,cur,pt⟩)) l) (.g1 b (.nd cur 0)) z2 (log.drop z2.made) by
   rw [HQ.out];unfold fY;rw [if_neg hcz];exact mF _ _ _ _ _ _ _)
  clear HQ;generalize hwr:wr=w6 at *;clear hwr;have c3:=kf.cell 3;have lf:=kf.lt;simp at c3
  go_upto_region 4 with fail
  clear c3 lf hce;refine aP (S:=fun w'=>Bk w' gf 204 (fdC k false (nodeAt k.l prev 0) cur 0 (pt:Nat) (nodeAt k.l op.h 0))) (E:=fun _=>false) zK ?_
  replace hp:=hp.ay (aU (Below.refl w6.heap.size w6));replace aG:=aG.drew;replace kf:=kf.drew;generalize w6.drew=w7 at *;refine wTk 14 [(0,47,ae (some ⟨gf,0,none⟩)),(1,48,ae (some ⟨gf,0,none⟩)),(2,49,ae (some ⟨gf,0,none⟩)),(3,50,ae (some ⟨k.gp,0,none⟩)),(4,51,aa ab (b:Nat)),(5,52,ae (some ⟨gf,0,none⟩)),(6,53,ae (some ⟨gf,0,none⟩)),(7,54,ae (some ⟨gf,0,none⟩)),(8,55,ae (some ⟨k.gp,0,none⟩)),(9,56,ae (some ⟨gf,0,none⟩)),(10,57,ae (some ⟨gf,0,none⟩)),(11,58,ae (some ⟨gf,1,none⟩)),(12,59,ae (some ⟨gf,3,none⟩)),(13,60,aa ab cur)] ?_ kf ?_
  ·intro w' hS;have c0:=hS.cell 0;have c3:=hS.cell 3;simp at c0 c3;have fg:True:=aC
   (repeat' (first | exact aC | refine au ⟨_,rfl,.inl ⟨rfl,?_⟩⟩ ?_))
   all_goals exact zG
  simp only [aR,Act.put,aj,ak,al];refine aE (i:=14) (o:=_) zK rfl (fun KK hK=>?_)
  (try simp only [aq,ao,an])
  go_simp
  (with_reducible refine (gY cur 0 hp (by have:=Es.out;omega)).mono ?_)
  rintro e w8 ⟨rfl,hb⟩;replace hp:=hp.ay hb;replace kf:=kf.ay hb;replace aG:=aG.trans (cL.aS _ _ hb);clear hb;refine hK.out _ _ (fun _=>kf) ?_
  clear hK KK
  (try simp only [Act.put,aj,ak,al])
  refine aE (i:=15) (o:=_) zK rfl (fun KK hK=>?_)
  (try simp only [aq,ao,an])
  go_simp
  (with_reducible refine (yz th b (.nd cur 0) (nodeAt k.l cur 0) _ hp Es.out.1.2.1 rfl fR.out).mono ?_)
  rintro e w9 (⟨x,h1,rfl,h3⟩ | ⟨v,rfl,⟨y1,p1,z3,rfl,eP,ei,mV,hpz⟩,cQ⟩)
  ·exact ⟨rfl,.inl ⟨x,h1,rfl,aG.trans h3.two⟩⟩
  replace aG:=aG.trans cQ.two;replace kf:=cQ.ay kf (by have:=HB.out;omega)
  have hY:=ar (show q=fM th k.me op (.fs K ⟨a,b,c,prev,cur,pt⟩ y1 p1) z3 (log.drop z3.made) from ei)
  clear hp cQ;have hp:=eP;clear eP;have Er:=ar mV;clear ei mV hpz fR;refine hK.out _ _ (fun _=>kf) ?_
  clear hK KK
  (try simp only [Act.put,aj,ak,al])
  refine wTk 1 [(16,46,.tuple #[aa ab y1,aa ab (p1:Nat)])] ?_ kf ?_
  ·intro w' hS;have fg:True:=aC
   (repeat' (first | exact aC | refine au ⟨_,rfl,.inl ⟨rfl,?_⟩⟩ ?_))
   all_goals exact zG
  simp only [aR,Act.put,aj,ak,al];refine wTk 2 [(17,63,aa ab y1),(18,64,aa ab (p1:Nat))] ?_ kf ?_
  ·intro w' hS;have fg:True:=aC
   (repeat' (first | exact aC | refine au ⟨_,rfl,.inl ⟨rfl,?_⟩⟩ ?_))
   all_goals exact zG
  simp only [aR,Act.put,aj,ak,al];refine wTk 2 [(19,9,aa ab y1),(20,10,aa ab (p1:Nat))] ?_ kf ?_
  ·intro w' hS;have fg:True:=aC
   (repeat' (first | exact aC | refine au ⟨_,rfl,.inl ⟨rfl,?_⟩⟩ ?_))
   all_goals exact zG
  simp only [aR,Act.put,aj,ak,al];refine aN zK ?_ _
  go_upto_region 5 with fail
  refine aP (S:=fun w'=>Bk w' gf 204 (fdC k false (nodeAt k.l prev 0) cur 0 (pt:Nat) (nodeAt k.l op.h 0))) (E:=fun _=>false) zK ?_
  replace hp:=hp.ay (aU (Below.refl w9.heap.size w9));replace aG:=aG.drew;replace kf:=kf.drew;generalize w9.drew=xo at *;refine wTk 9 [(0,65,ae (some ⟨gf,0,none⟩)),(1,66,ae (some ⟨gf,0,none⟩)),(2,67,ae (some ⟨gf,0,none⟩)),(3,68,ae (some ⟨k.gp,0,none⟩)),(4,69,ae (some ⟨gf,0,none⟩)),(5,70,ae (some ⟨gf,0,none⟩)),(6,71,ae (some ⟨gf,1,none⟩)),(7,72,ae (some ⟨gf,2,none⟩)),(8,73,aa ab (nodeAt k.l prev 0))] ?_ kf ?_
  ·intro w' hS;have c0:=hS.cell 0;have c2:=hS.cell 2;simp at c0 c2
   (repeat' (first | exact aC | refine au ⟨_,rfl,.inl ⟨rfl,?_⟩⟩ ?_))
   all_goals exact zG
  simp only [aR,Act.put,aj,ak,al];refine aE (i:=9) (o:=_) zK rfl (fun KK hK=>?_)
  (try simp only [aq,ao,an])
  go_simp
  (with_reducible refine (jt (.nd prev 0) (nodeAt k.l prev 0) _ hp rfl (hY.out.trans (jX _ _ _ _ _ _))).mono ?_)
  rintro e tZ (⟨x,h1,rfl,h3⟩ | ⟨v,rfl,⟨⟨s1,s2⟩,hx,rfl,eP,ei⟩,cQ⟩)
  ·exact ⟨rfl,.inl ⟨x,h1,rfl,aG.trans h3.two⟩⟩
  replace aG:=aG.trans cQ.two;replace kf:=cQ.ay kf (by have:=HB.out;omega)
  have gK:=ar (show q=cS th k.me op ((LPh.fs K ⟨a,b,c,prev,cur,pt⟩ y1 p1).stp th op z3 (s1,s2)) (log.drop z3.got.made) from ei)
  clear hp cQ;have hp:=eP;clear eP;clear hx ei hY;refine hK.out _ _ (fun _=>kf) ?_
  clear hK KK
  (try simp only [Act.put,aj,ak,al])
  refine wTk 1 [(10,11,aa ab s1)] ?_ kf ?_
  ·intro w' hS;have c0:=hS.cell 0;have c2:=hS.cell 2;simp at c0 c2
   (repeat' (first | exact aC | refine au ⟨_,rfl,.inl ⟨rfl,?_⟩⟩ ?_))
   all_goals exact zG
  simp only [aR,Act.put,aj,ak,al];refine aN zK ?_ _
  go_upto_region 6 with fail
  have c0:=kf.cell 0;have lf:=kf.lt;simp at c0
  go_wp2_with fail
  (with_reducible refine (ly hp (fu _ _)).mono ?_)
  rintro e wa ⟨rfl,rfl⟩;obtain ⟨lk,tJ⟩:∃ x,((z3.got.made - 1:Nat):Int)=x:=⟨_,rfl⟩;have HLK:=ar (show (z3.made:Int)=lk from tJ)
  rw [tJ];clear tJ;have c3:=kf.cell 3;simp at c3
  go_upto_region 7 with fail
  go_wp2_with fail
  (with_reducible refine (iv cur _).mono ?_)
  rintro e CC ⟨rfl,hb⟩;clear c0 c3 lf;replace hp:=hp.ay hb;replace kf:=kf.ay hb;replace aG:=aG.trans (cL.aS _ _ hb);clear hb;obtain ⟨pc,hpc⟩:∃ x,a9 cur=x:=⟨_,rfl⟩;have HPC:=ar hpc;rw [hpc];clear hpc
  by_cases xx:s1=pc
  case neg=>
   have hsb:(s1 != pc)=true:=by simp [xx]
   have HJ2:=ar (show FdJ2 k th op K log q gf z.made w z0.made CC from ⟨z3.got,false,_,_,_,_,hp,aG,kf,by have:=HM.out;have:=Er.out;show z0.made < z3.made+1;omega,by have:=HJ.out;have:=HM.out;have:=Er.out;show z.made<=z3.made+1;omega,by
    rw [gK.out];show cS th k.me op (if s1≠a9 cur then _ else _) _=_
    rw [if_pos (by rw [HPC.out];exact xx)]
    rfl⟩)
   clear hp aG kf gK xx
   go_wp2_with fail
   go_step3
   exact ⟨rfl,HJ2.out.jump rfl rfl rfl rfl HJ.out.1 HJ.out.2.1⟩
  have hsb:(s1 != pc)=false:=by simp [xx]
  have oh:=ar (show q=fM th k.me op (.fo K ⟨a,b,c,prev,cur,pt⟩ y1 p1) z3.got (log.drop z3.got.made) from by
   rw [gK.out];show cS th k.me op (if s1≠a9 cur then _ else _) _=_
   rw [if_neg (by rw [HPC.out];exact fun h=>h xx)]
   rfl)
  have HPC2:=ar (show a9 cur=s1 from HPC.out.trans xx.symm)
  clear gK xx
  go_upto_region 8 with fail
  clear hsb HPC;refine aP (S:=fun w'=>Bk w' gf 204 (fdC k false (nodeAt k.l prev 0) cur 0 (pt:Nat) (nodeAt k.l op.h 0))) (E:=fun _=>false) zK ?_
  replace hp:=hp.ay (aU (Below.refl CC.heap.size CC));replace aG:=aG.drew;replace kf:=kf.drew;generalize CC.drew=w13 at *;refine wTk 13 [(0,88,ae (some ⟨gf,0,none⟩)),(1,89,ae (some ⟨gf,0,none⟩)),(2,90,ae (some ⟨gf,0,none⟩)),(3,91,ae (some ⟨k.gp,0,none⟩)),(4,92,ae (some ⟨gf,0,none⟩)),(5,93,ae (some ⟨gf,0,none⟩)),(6,94,ae (some ⟨gf,0,none⟩)),(7,95,ae (some ⟨k.gp,0,none⟩)),(8,96,ae (some ⟨gf,0,none⟩)),(9,97,ae (some ⟨gf,0,none⟩)),(10,98,ae (some ⟨gf,1,none⟩)),(11,99,ae (some ⟨gf,3,none⟩)),(12,100,aa ab cur)] ?_ kf ?_
  ·intro w' hS;have c0:=hS.cell 0;have c3:=hS.cell 3;simp at c0 c3
   (repeat' (first | exact aC | refine au ⟨_,rfl,.inl ⟨rfl,?_⟩⟩ ?_))
   all_goals exact zG
  simp only [aR,Act.put,aj,ak,al];refine aE (i:=13) (o:=_) zK rfl (fun KK hK=>?_)
  (try simp only [aq,ao,an])
  go_simp
  (with_reducible refine (gY cur 1 hp (by have:=Es.out;omega)).mono ?_)
  rintro e w14 ⟨rfl,hb⟩;replace hp:=hp.ay hb;replace kf:=kf.ay hb;replace aG:=aG.trans (cL.aS _ _ hb);clear hb;refine hK.out _ _ (fun _=>kf) ?_
  clear hK KK
  (try simp only [Act.put,aj,ak,al])
  refine aE (i:=14) (o:=_) zK rfl (fun KK hK=>?_)
  (try simp only [aq,ao,an])
  go_simp
  (with_reducible refine (jt (.nd cur 1) (nodeAt k.l cur 1) _ hp rfl (oh.out.trans (jX _ _ _ _ _ _))).mono ?_)
  rintro e w15 (⟨x,h1,rfl,h3⟩ | ⟨v,rfl,⟨⟨o1,o2⟩,hx,rfl,eP,ei⟩,cQ⟩)
  ·exact ⟨rfl,.inl ⟨x,h1,rfl,aG.trans h3.two⟩⟩
  replace aG:=aG.trans cQ.two;replace kf:=cQ.ay kf (by have:=HB.out;omega)
  have qF:=ar (show q=cS th k.me op ((LPh.fo K ⟨a,b,c,prev,cur,pt⟩ y1 p1).stp th op z3.got (o1,o2)) (log.drop z3.got.got.made) from ei)
  clear hp cQ;have hp:=eP;clear eP;clear hx ei oh;refine hK.out _ _ (fun _=>kf) ?_
  clear hK KK
  (try simp only [Act.put,aj,ak,al])
  refine wTk 1 [(15,13,aa ab o1)] ?_ kf ?_
  ·intro w' hS;have c0:=hS.cell 0;have c3:=hS.cell 3;simp at c0 c3
   (repeat' (first | exact aC | refine au ⟨_,rfl,.inl ⟨rfl,?_⟩⟩ ?_))
   all_goals exact zG
  simp only [aR,Act.put,aj,ak,al];refine aN zK ?_ _
  go_upto_region 9 with fail
  go_wp2_with fail
  (with_reducible refine (gV y1 _).mono ?_)
  rintro e Co ⟨rfl,hb⟩;replace hp:=hp.ay hb;replace kf:=kf.ay hb;replace aG:=aG.trans (cL.aS _ _ hb);clear hb;obtain ⟨ix,jZ⟩:∃ z,y1 % 65536=z:=⟨_,rfl⟩;obtain ⟨mk,mU⟩:∃ b,(y1 / 65536 % 2==1)=b:=⟨_,rfl⟩;obtain ⟨ct,xb⟩:∃ z,y1 / 131072 % 268435456=z:=⟨_,rfl⟩;have L8:0<=ix/\ix < 65536:=zO;rw [jZ,mU,xb];have lj:=ar (show idxOf y1=ix/\fG y1=mk/\0<=ix/\ix < 65536 from ⟨jZ,mU,L8⟩)
  clear jZ mU xb L8
  go_upto_region 11 with fail
  have kr:=Bk.made Co 81 #[aa ab ix,.bool mk,aa ab ct];have zg:=kf.lt;replace hp:=hp.ay (aB (Below.refl _ _) (ag #[aa ab ix,.bool mk,aa ab ct] 81));replace kf:=kf.ay (aB (Below.refl _ _) (ag #[aa ab ix,.bool mk,aa ab ct] 81));replace aG:=aG.alloc (ag #[aa ab ix,.bool mk,aa ab ct] 81);generalize Co.alloc (ag #[aa ab ix,.bool mk,aa ab ct] 81)=w17 at *;generalize Co.heap.size=gr at *;have HR:=ar (show gf < gr/\k.gp < gr from ⟨zg,by have:=HB.out;omega⟩)
  clear zg;have r1:=kr.cell 1;have lr:=kr.lt;simp at r1
  cases mk
  case true=>
   have tV:=ar (show q=fM th k.me op (.fc K ⟨a,b,c,prev,cur,pt⟩ ix) z3.got.got (log.drop z3.got.got.made) from by
    rw [qF.out];show cS th k.me op (if fG y1 then _ else _) _=_
    rw [if_pos lj.out.2.1,lj.out.1];rfl)
   clear qF
   go_upto_region 12 with fail
   clear r1 lr;refine aP (S:=fun w'=>Bk w' gf 204 (fdC k false (nodeAt k.l prev 0) cur 0 (pt:Nat) (nodeAt k.l op.h 0))/\Bk w' gr 81 #[aa ab ix,ah true,aa ab ct]) (E:=fun _=>false) zK ?_
   replace hp:=hp.ay (aU (Below.refl w17.heap.size w17));replace aG:=aG.drew;replace kf:=kf.drew;replace kr:=kr.drew;generalize w17.drew=Mi at *;refine wTk 16 [(0,113,ae (some ⟨gf,0,none⟩)),(1,114,ae (some ⟨gf,0,none⟩)),(2,115,ae (some ⟨gf,0,none⟩)),(3,116,ae (some ⟨k.gp,0,none⟩)),(4,117,ae (some ⟨gf,0,none⟩)),(5,118,ae (some ⟨gf,0,none⟩)),(6,119,ae (some ⟨gf,1,none⟩)),(7,120,ae (some ⟨gf,2,none⟩)),(8,121,aa ab (nodeAt k.l prev 0)),(9,122,ae (some ⟨gf,0,none⟩)),(10,123,ae (some ⟨gf,0,none⟩)),(11,124,ae (some ⟨gf,1,none⟩)),(12,125,ae (some ⟨gf,3,none⟩)),(13,126,aa ab cur),(15,128,ae (some ⟨gr,0,none⟩)),(16,129,aa ab ix)] ?_ ⟨kf,kr⟩ ?_
   ·intro w' hS;have c0:=hS.1.cell 0;have c2:=hS.1.cell 2;have c3:=hS.1.cell 3;have r0:=hS.2.cell 0;simp at c0 c2 c3 r0
    (repeat' (first | exact aC | refine au ⟨_,rfl,.inl ⟨rfl,?_⟩⟩ ?_))
    all_goals exact zG
   simp only [aR,Act.put,aj,ak,al];refine aE (i:=14) (o:=_) zK rfl (fun KK hK=>?_)
   (try simp only [aq,ao,an])
   go_simp
   (with_reducible refine (iv cur _).mono ?_)
   rintro e JM ⟨rfl,hb⟩;replace hp:=hp.ay hb;replace kf:=kf.ay hb;replace kr:=kr.ay hb;replace aG:=aG.trans (cL.aS _ _ hb);clear hb;refine hK.out _ _ (fun _=>⟨kf,kr⟩) ?_
   clear hK KK
   (try simp only [Act.put,aj,ak,al])
   refine aE (i:=17) (o:=_) zK rfl (fun KK hK=>?_)
   (try simp only [aq,ao,an])
   go_simp
   (with_reducible refine (iv ix _).mono ?_)
   rintro e w20 ⟨rfl,hb⟩;replace hp:=hp.ay hb;replace kf:=kf.ay hb;replace kr:=kr.ay hb;replace aG:=aG.trans (cL.aS _ _ hb);clear hb;refine hK.out _ _ (fun _=>⟨kf,kr⟩) ?_
   clear hK KK
   (try simp only [Act.put,aj,ak,al])
   refine aE (i:=18) (o:=_) zK rfl (fun KK hK=>?_)
   (try simp only [aq,ao,an])
   go_simp
   (with_reducible refine (pX (.nd prev 0) (nodeAt k.l prev 0) (a9 cur) (a9 ix) _ hp rfl (tV.out.trans (jX _ _ _ _ _ _))).mono ?_)
   rintro e w21 (⟨x,h1,rfl,h3⟩ | ⟨v,rfl,⟨⟨t1,t2⟩,ht,rfl,eP,ei⟩,cQ⟩)
   ·exact ⟨rfl,.inl ⟨x,h1,rfl,aG.trans h3.two⟩⟩
   replace aG:=aG.trans cQ.two;replace kf:=cQ.ay kf (by have:=HB.out;omega)
   replace kr:=cQ.ay kr (by have:=HR.out;omega)
   have Cv:=ar (show q=cS th k.me op ((LPh.fc K ⟨a,b,c,prev,cur,pt⟩ ix).stp th op z3.got.got (t1,t2)) (log.drop z3.got.got.got.made) from ei)
   clear hp cQ;have hp:=eP;clear eP;clear ht ei tV;refine hK.out _ _ (fun _=>⟨kf,kr⟩) ?_
   clear hK KK
   (try simp only [Act.put,aj,ak,al])
   refine wTk 1 [(19,132,ah (!t2))] ?_ ⟨kf,kr⟩ ?_
   ·intro w' hS;have c0:=hS.1.cell 0;have c2:=hS.1.cell 2;have c3:=hS.1.cell 3;have r0:=hS.2.cell 0;simp at c0 c2 c3 r0
    (repeat' (first | exact aC | refine au ⟨_,rfl,.inl ⟨rfl,?_⟩⟩ ?_))
    all_goals exact zG
   simp only [aR,Act.put,aj,ak,al];refine aN zK ?_ _
   cases t2 with
   | false=>
    have HJ2:=ar (show FdJ2 k th op K log q gf z.made w z0.made w21 from ⟨z3.got.got.got,false,_,_,_,_,hp,aG,kf,by have:=HM.out;have:=Er.out;show z0.made < z3.made+1+1+1;omega,by have:=HJ.out;have:=HM.out;have:=Er.out;show z.made<=z3.made+1+1+1;omega,Cv.out⟩)
    clear hp aG kf kr Cv
    go_wp2_with fail
    go_step3
    exact ⟨rfl,HJ2.out.jump rfl rfl rfl rfl HJ.out.1 HJ.out.2.1⟩
   | true=>
    have As:=ar (show q=jO (2 * k.l.c.aM) k.me (fun t z l=>cS th k.me op (jS op t z (.fr K ⟨b,a,c,prev,ix,z3.got.got.made⟩)) l) (.r1 cur) z3.got.got.got (log.drop z3.got.got.got.made) from by
     rw [Cv.out,<- HNS.out.2.1];exact mF _ _ _ _ _ _ _)
    clear Cv
    go_upto_region 13 with fail
    have c0:=kf.cell 0;have c5:=kf.cell 5;have f5:=kf.free 5;have lf:=kf.lt;simp at c0 c5
    go_wp2_with fail
    (with_reducible refine (ly hp (fu _ _)).mono ?_)
    rintro e wb ⟨rfl,rfl⟩;obtain ⟨pl,lH⟩:∃ x,((z3.got.got.got.made - 1:Nat):Int)=x:=⟨_,rfl⟩;have HPL:=ar (show ((z3.got.got.made:Nat):Int)=pl from lH)
    rw [lH];clear lH
    go_upto_region 14 with fail
    obtain ⟨mS,jP,ND⟩:=lK hp aG kf HB.out 5 (aa ab pl);have NA:=kr.other (p:=⟨gf,5,none⟩) (by have:=HR.out;dsimp only;omega) (aa ab pl)
    clear hp aG kf kr c0 c5 f5 lf
    revert mS jP ND NA
    generalize wb.setCell ⟨gf,5,none⟩ (aa ab pl)=w22;intro hp aG kf kr;replace kf:Bk w22 gf 204 (fdC k false (nodeAt k.l prev 0) cur 0 pl (nodeAt k.l op.h 0)):=kf;refine aP (S:=fun w'=>Bk w' gf 204 (fdC k false (nodeAt k.l prev 0) cur 0 pl (nodeAt k.l op.h 0))/\Bk w' gr 81 #[aa ab ix,ah true,aa ab ct]) (E:=fun _=>false) zK ?_
    replace hp:=hp.ay (aU (Below.refl w22.heap.size w22));replace aG:=aG.drew;replace kf:=kf.drew;replace kr:=kr.drew;generalize w22.drew=w23 at *;refine wTk 9 [(0,142,ae (some ⟨gf,0,none⟩)),(1,143,ae (some ⟨gf,0,none⟩)),(2,144,ae (some ⟨gf,0,none⟩)),(3,145,ae (some ⟨k.gp,0,none⟩)),(4,146,ae (some ⟨gf,0,none⟩)),(5,147,ae (some ⟨gf,0,none⟩)),(6,148,ae (some ⟨gf,1,none⟩)),(7,149,ae (some ⟨gf,3,none⟩)),(8,150,aa ab cur)] ?_ ⟨kf,kr⟩ ?_
    ·intro w' hS;have c0:=hS.1.cell 0;have c3:=hS.1.cell 3;have r0:=hS.2.cell 0;simp at c0 c3 r0
     (repeat' (first | exact aC | refine au ⟨_,rfl,.inl ⟨rfl,?_⟩⟩ ?_))
     all_goals exact zG
    simp only [aR,Act.put,aj,ak,al];refine aE (i:=9) (o:=_) zK rfl (fun KK hK=>?_)
    (try simp only [aq,ao,an])
    go_simp
    (with_reducible refine (uh cur _ hp HNS.out.2.2.1 As.out HNS.out.1).mono ?_)
    rintro e w24 (⟨x,h1,rfl,h3⟩ | ⟨v,rfl,⟨z5,rfl,eP,ei,mV⟩,cQ⟩)
    ·exact ⟨rfl,.inl ⟨x,h1,rfl,aG.trans h3.two⟩⟩
    replace aG:=aG.trans cQ.two;replace kf:=cQ.ay kf (by have:=HB.out;omega)
    replace kr:=cQ.ay kr (by have:=HR.out;omega)
    have HQ10:=ar (show q=cS th k.me op (fY op K ⟨b,a,c,prev,ix,z3.got.got.made⟩ z5) (log.drop z5.made) from ei)
    clear hp cQ;have hp:=eP;clear eP;have zU:=ar (show z3.made+1+1+1<=z5.made from mV)
    clear ei mV As;refine hK.out _ _ (fun _=>⟨kf,kr⟩) ?_
    clear hK KK
    (try simp only [Act.put,aj,ak,al])
    refine aN zK ?_ _
    go_upto_region 15 with fail
    have c3:=kf.cell 3;have f3:=kf.free 3;have lf:=kf.lt;have r0:=kr.cell 0;have lr:=kr.lt;simp at c3 r0
    go_upto_region 16 with fail
    obtain ⟨mS,jP,ND⟩:=lK hp aG kf HB.out 3 (aa ab ix);clear hp aG kf kr c3 f3 lf r0 lr
    revert mS jP ND
    generalize w24.setCell ⟨gf,3,none⟩ (aa ab ix)=w25;intro hp aG kf;replace kf:Bk w25 gf 204 (fdC k false (nodeAt k.l prev 0) ix 0 pl (nodeAt k.l op.h 0)):=kf;have OU:=ar (show Kz k th op K log q gf z0.made w (aa ab (b:Nat)) (aa ab (a:Nat)) (aa ab (c:Nat)) w25 from ⟨z5,b,a,c,prev,ix,_,rfl,rfl,rfl,⟨Es.out.1.2.1,Es.out.1.1,Es.out.1.2.2⟩,hp,aG,by rw [HPL.out];exact kf,⟨lj.out.2.2.1,lj.out.2.2.2,Es.out.2.2.2⟩,by have:=HM.out;have:=Er.out;have:=zU.out;omega,HQ10.out⟩)
    have HMS:=ar (show log.length+1 - madeOf k.gp w25 < log.length+1 - madeOf k.gp w6 by
     rw [dj hp,HM.out.1];have:=hp.mle;have:=HM.out;have:=Er.out;have:=zU.out;omega)
    clear hp aG kf HQ10
    go_wp2_with fail
    go_roundw
    case rel=>exact OU.out
    case measure=>exact HMS.out
  case false=>
   by_cases dN:o1 < op.o
   case pos=>
    have hl1:decide (o1 < op.o)=true:=by simp [dN]
    have tV:=ar (show q=cS th k.me op (fY op K ⟨b,c,a,cur,ix,p1⟩ z3.got.got) (log.drop z3.got.got.made) from by
     rw [qF.out];show cS th k.me op (if fG y1 then _ else _) _=_
     rw [if_neg (by rw [lj.out.2.1];decide),if_pos dN,lj.out.1])
    clear qF dN
    go_upto_region 18 with fail
    clear hl1 r1 lr;refine aP (S:=fun w'=>w'.cell? ⟨gf,0,none⟩=some (ptr k.gp)/\Bk w' gr 81 #[aa ab ix,ah false,aa ab ct]) (E:=fun _=>false) zK ?_
    replace hp:=hp.ay (aU (Below.refl w17.heap.size w17));replace aG:=aG.drew;replace kf:=kf.drew;replace kr:=kr.drew;generalize w17.drew=Mi at *;have k0:Mi.cell? ⟨gf,0,none⟩=some (ptr k.gp):=kf.cell 0;refine wTk 14 [(0,164,ae (some ⟨gf,0,none⟩)),(1,165,ae (some ⟨gf,0,none⟩)),(2,166,ae (some ⟨gf,0,none⟩)),(3,167,ae (some ⟨gf,0,none⟩)),(4,168,ae (some ⟨gf,0,none⟩)),(5,169,ae (some ⟨gf,0,none⟩)),(6,170,ae (some ⟨k.gp,0,none⟩)),(7,171,ae (some ⟨gf,0,none⟩)),(8,172,ae (some ⟨gf,0,none⟩)),(9,173,ae (some ⟨gf,1,none⟩)),(10,174,ae (some ⟨gf,3,none⟩)),(13,177,ae (some ⟨gr,0,none⟩)),(14,178,aa ab ix),(15,179,aa ab (p1:Nat))] ?_ ⟨kf.cell 0,kr⟩ ?_
    ·intro w' hS;have c0:=hS.1;have r0:=hS.2.cell 0;simp at r0
     (repeat' (first | exact aC | refine au ⟨_,rfl,.inl ⟨rfl,?_⟩⟩ ?_))
     all_goals exact zG
    simp only [aR,Act.put,aj,ak,al];have c3:=kf.cell 3;have lf:=kf.lt;simp at c3;refine aE (i:=11) (o:=_) zK rfl (fun KK hK=>?_)
    (try simp only [aq,ao,an])
    go_simp;refine hK.out _ _ (fun _=>⟨kf.cell 0,kr⟩) ?_
    clear hK KK
    (try simp only [Act.put,aj,ak,al])
    clear c3 lf;refine aE (i:=12) (o:=_) zK rfl (fun KK hK=>?_)
    (try simp only [aq,ao,an])
    go_simp
    (with_reducible refine (gY cur 0 hp (by have:=Es.out;omega)).mono ?_)
    rintro e JM ⟨rfl,hb⟩;replace hp:=hp.ay hb;replace kf:=kf.ay hb;replace kr:=kr.ay hb;replace aG:=aG.trans (cL.aS _ _ hb);clear hb;refine hK.out _ _ (fun _=>⟨kf.cell 0,kr⟩) ?_
    clear hK KK
    (try simp only [Act.put,aj,ak,al])
    clear k0;refine wTk 3 [(16,180,ae (some ⟨gf,0,none⟩)),(17,181,ae (some ⟨gf,1,none⟩)),(18,182,ae (some ⟨gf,2,none⟩))] ?_ ⟨kf.cell 0,kr⟩ ?_
    ·intro w' hS;have c0:=hS.1;have r0:=hS.2.cell 0;simp at r0
     (repeat' (first | exact aC | refine au ⟨_,rfl,.inl ⟨rfl,?_⟩⟩ ?_))
     all_goals exact zG
    simp only [aR,Act.put,aj,ak,al];have c2:=kf.cell 2;have f2:=kf.free 2;have lf:=kf.lt;simp at c2;refine aE (i:=19) (o:=_) zK rfl (fun KK hK=>?_)
    (try simp only [aq,ao,an])
    go_simp;obtain ⟨mS,jP,ND⟩:=lK hp aG kf HB.out 2 (aa ab (nodeAt k.l cur 0));have NA:=kr.other (p:=⟨gf,2,none⟩) (by have:=HR.out;dsimp only;omega) (aa ab (nodeAt k.l cur 0))
    clear hp aG kf kr c2 f2 lf
    revert mS jP ND NA
    generalize JM.setCell ⟨gf,2,none⟩ (aa ab (nodeAt k.l cur 0))=w20 at *;intro hp aG kf kr;replace kf:Bk w20 gf 204 (fdC k false (nodeAt k.l cur 0) cur 0 (pt:Nat) (nodeAt k.l op.h 0)):=kf;refine hK.out _ _ (fun _=>⟨kf.cell 0,kr⟩) ?_
    clear hK KK
    (try simp only [Act.put,aj,ak,al])
    refine wTk 3 [(20,183,ae (some ⟨gf,0,none⟩)),(21,184,ae (some ⟨gf,1,none⟩)),(22,185,ae (some ⟨gf,3,none⟩))] ?_ ⟨kf.cell 0,kr⟩ ?_
    ·intro w' hS;have c0:=hS.1;have r0:=hS.2.cell 0;simp at r0
     (repeat' (first | exact aC | refine au ⟨_,rfl,.inl ⟨rfl,?_⟩⟩ ?_))
     all_goals exact zG
    simp only [aR,Act.put,aj,ak,al];have c3:=kf.cell 3;have f3:=kf.free 3;have lf:=kf.lt;simp at c3;refine aE (i:=23) (o:=_) zK rfl (fun KK hK=>?_)
    (try simp only [aq,ao,an])
    go_simp;obtain ⟨mS,jP,ND⟩:=lK hp aG kf HB.out 3 (aa ab ix);have NA:=kr.other (p:=⟨gf,3,none⟩) (by have:=HR.out;dsimp only;omega) (aa ab ix)
    clear hp aG kf kr c3 f3 lf
    revert mS jP ND NA
    generalize w20.setCell ⟨gf,3,none⟩ (aa ab ix)=w21 at *;intro hp aG kf kr;replace kf:Bk w21 gf 204 (fdC k false (nodeAt k.l cur 0) ix 0 (pt:Nat) (nodeAt k.l op.h 0)):=kf;refine hK.out _ _ (fun _=>⟨kf.cell 0,kr⟩) ?_
    clear hK KK
    (try simp only [Act.put,aj,ak,al])
    refine wTk 3 [(24,186,ae (some ⟨gf,0,none⟩)),(25,187,ae (some ⟨gf,1,none⟩)),(26,188,ae (some ⟨gf,5,none⟩))] ?_ ⟨kf.cell 0,kr⟩ ?_
    ·intro w' hS;have c0:=hS.1;have r0:=hS.2.cell 0;simp at r0
     (repeat' (first | exact aC | refine au ⟨_,rfl,.inl ⟨rfl,?_⟩⟩ ?_))
     all_goals exact zG
    simp only [aR,Act.put,aj,ak,al];have c5:=kf.cell 5;have f5:=kf.free 5;have lf:=kf.lt;simp at c5;refine aE (i:=27) (o:=_) zK rfl (fun KK hK=>?_)
    (try simp only [aq,ao,an])
    go_simp;obtain ⟨mS,jP,ND⟩:=lK hp aG kf HB.out 5 (aa ab (p1:Nat));have NA:=kr.other (p:=⟨gf,5,none⟩) (by have:=HR.out;dsimp only;omega) (aa ab (p1:Nat))
    clear hp aG kf kr c5 f5 lf
    revert mS jP ND NA
    generalize w21.setCell ⟨gf,5,none⟩ (aa ab (p1:Nat))=w22 at *;intro hp aG kf kr;replace kf:Bk w22 gf 204 (fdC k false (nodeAt k.l cur 0) ix 0 (p1:Nat) (nodeAt k.l op.h 0)):=kf;refine hK.out _ _ (fun _=>⟨kf.cell 0,kr⟩) ?_
    clear hK KK
    (try simp only [Act.put,aj,ak,al])
    refine aN zK ?_ _;have OU:=ar (show Kz k th op K log q gf z0.made w (aa ab (b:Nat)) (aa ab (c:Nat)) (aa ab (a:Nat)) w22 from ⟨z3.got.got,b,c,a,cur,ix,p1,rfl,rfl,rfl,⟨Es.out.1.2.1,Es.out.1.2.2,Es.out.1.1⟩,hp,aG,kf,⟨lj.out.2.2.1,lj.out.2.2.2,by have:=Es.out;omega⟩,by have:=HM.out;have:=Er.out;show z0.made < z3.made+1+1;omega,tV.out⟩)
    have HMS:=ar (show log.length+1 - madeOf k.gp w22 < log.length+1 - madeOf k.gp w6 by
     rw [dj hp,HM.out.1];have hh:=hp.mle;have:=HM.out;have:=Er.out
     revert hh;show z3.made+1+1<=_->log.length+1 - (z3.made+1+1) < _;omega)
    clear hp aG kf kr tV
    go_wp2_with fail
    go_roundw
    case rel=>exact OU.out
    case measure=>exact HMS.out
   have hl1:decide (o1 < op.o)=false:=by simp;omega
   by_cases heq:o1=op.o
   ·have Oa:(o1==op.o)=true:=by simp [heq]
    have HP:=ar (show ∀ w',df w' k z3.got.got log->Bk w' gf 204 (fdC k true (nodeAt k.l prev 0) cur y1 (p1:Nat) (nodeAt k.l op.h 0))->Ci k th op K log q gf z.made (.tuple #[]) w' from fun w' h1 h2=>⟨true,prev,cur,y1,p1,z3.got.got,rfl,h1,h2,Es.out.2.1,Es.out.2.2.1,by have:=HJ.out;have:=HM.out;have:=Er.out;show z.made < z3.made+1+1;omega,by
     rw [qF.out];show cS th k.me op (if fG y1 then _ else _) _=_
     rw [if_neg (by rw [lj.out.2.1];decide),if_neg dN,if_pos heq]⟩)
    clear qF heq dN
    go_upto_region 21 with fail
    have c1:=kf.cell 1;have f1:=kf.free 1;have c4:=kf.cell 4;have f4:=kf.free 4;have c5:=kf.cell 5;have f5:=kf.free 5;have lf:=kf.lt;simp at c1 c4 c5;clear hl1 Oa r1 lr
    go_wp2_with fail
    obtain ⟨p1',s1',k1'⟩:=lK hp aG kf HB.out 1 (ah true);obtain ⟨p2',s2',nB⟩:=lK p1' s1' k1' HB.out 4 (aa ab y1);obtain ⟨p3',s3',k3'⟩:=lK p2' s2' nB HB.out 5 (aa ab (p1:Nat));exact aX (dY rfl _ _ _) rfl (.inr ⟨_,rfl,HP.out _ p3' k3',s3'⟩)
   ·have Oa:(o1==op.o)=false:=by simp [heq]
    have HP:=ar (show ∀ w',df w' k z3.got.got log->Bk w' gf 204 (fdC k false (nodeAt k.l prev 0) cur 0 lk (nodeAt k.l op.h 0))->Ci k th op K log q gf z.made (.tuple #[]) w' from fun w' h1 h2=>⟨false,prev,cur,0,z3.made,z3.got.got,rfl,h1,by rw [HLK.out];exact h2,Es.out.2.1,Es.out.2.2.1,by have:=HJ.out;have:=HM.out;have:=Er.out;show z.made < z3.made+1+1;omega,by
     rw [qF.out];show cS th k.me op (if fG y1 then _ else _) _=_
     rw [if_neg (by rw [lj.out.2.1];decide),if_neg dN,if_neg heq]
     rfl⟩)
    clear qF heq dN
    go_upto_region 10 with fail
    have c5:=kf.cell 5;have f5:=kf.free 5;have lf:=kf.lt;simp at c5;clear hl1 Oa r1 lr
    go_wp2_with fail
    obtain ⟨p3',s3',k3'⟩:=lK hp aG kf HB.out 5 (aa ab lk);exact aX (dY rfl _ _ _) rfl (.inr ⟨_,rfl,HP.out _ p3' k3',s3'⟩)
end
def vP (k:Pk) (log:Log) (q:An (dA × Pz)) (u:Value) (w':World):Prop:=
 ∃ o z',q= .fin (o,z')/\u= .agg (bu o.val o.is 0 (o.aH:Nat))/\df w' k z' log
theorem kq (th me:Int) (op:LOp) (o:dA) (z:Pz) (l:Log):cS th me op (iE o z) l=eM th me (fun t z l=>cS th me op (jS op t z (.out o)) l) (dK z 0) l:=
 yn th me op (.out o) (dK z 0) _ l (fun _ _=>rfl)
section
variable {w:World} {k:Pk} {z:Pz} {log:Log} {q:An (dA × Pz)}
theorem get_any (th:Int) (op:LOp) (gf:Nat) (there:Bool) (prev cur next pt:Int) (h:df w k z log) (jl:th=2 * k.l.c.aM) (hs:1<=k.l.c.aM/\k.l.c.aM<=8) (zT:k.gp < gf) (hh:op.h<=9223372036854775807) (kf:Bk w gf 204 (fdC k there prev cur next pt (nodeAt k.l op.h 0)))
  (hq:q=fM th k.me op (.sub (.g1 0 (.nd op.h 0)) (.fh .get)) z (log.drop z.made)) (gq:q≠ .stuck):
  Calls aw 167 #[ptr gf,aa ab op.o] w (ji k gf q w (vP k log q)):=by
 have aG:cL k.gp gf w (w.alloc (ag aZ 70)):=(cL.refl _ _ _).alloc _;have kb:=Bk.made w 70 aZ;have zf:=kf.lt;have zp:=h.lt;have hp:=h.ay (aB (Below.refl _ _) (ag aZ 70));replace kf:=kf.alloc (ag aZ 70);have HNS:=ar (au gq (au jl (au hs hh)));have HQ:=ar hq;have mT:∃ g,w.heap.size=g:=⟨_,rfl⟩;clear h hq gq jl hs hh;go_enter Tryz.func167,Tryz.ntmps167
 go_upto_region 1 with fail
 generalize w.alloc (ag aZ 70)=w0 at *;obtain ⟨gb,mD⟩:=mT;rw [mD] at kb zf zp ⊢;have HN:=ar (show k.gp < gf/\gf < gb/\k.gp < gb/\w.heap.size=gb from ⟨zT,zf,zp,mD⟩)
 clear mD zf zp zT
 go_wp2_with fail
 (with_reducible refine (uw th op .get gf there prev cur next pt hp HNS.out.2.1 HNS.out.2.2.1 HN.out.1 HNS.out.2.2.2 kf HQ.out HNS.out.1).mono ?_)
 clear kf;rintro e w1 (⟨x,h1,rfl,h3⟩ | ⟨v,rfl,⟨there,prev,cur,next,pt,z1,rfl,eP,kf,xc,rr,hm,ei⟩,cQ⟩)
 ·exact ⟨rfl,.inl ⟨x,h1,rfl,aG.trans h3⟩⟩
 replace aG:=aG.trans cQ;replace kb:=cQ.ay kb (by have:=HN.out;omega) (by have:=HN.out;omega)
 have lh:=ar ei;have HCB:=ar (au xc rr);clear hp cQ ei hm xc rr HQ;have hp:=eP;clear eP
 go_upto_region 2 with fail
 refine aP (S:=fun w'=>Bk w' gf 204 (fdC k there (nodeAt k.l prev 0) cur next (pt:Nat) (nodeAt k.l op.h 0))) (E:=fun _=>false) zK ?_
 replace hp:=hp.ay (aU (Below.refl w1.heap.size w1));replace aG:=aG.drew;replace kf:=kf.drew;replace kb:=kb.drew;generalize w1.drew=w2 at *;refine wTk 10 [(0,9,ae (some ⟨gf,0,none⟩)),(1,10,ae (some ⟨gf,0,none⟩)),(2,11,ae (some ⟨gf,1,none⟩)),(3,12,ae (some ⟨gf,1,none⟩)),(4,13,.bool there),(5,14,ae (some ⟨gf,0,none⟩)),(6,15,ae (some ⟨gf,0,none⟩)),(7,16,ae (some ⟨gf,1,none⟩)),(8,17,ae (some ⟨gf,5,none⟩)),(9,18,aa ab (pt:Nat))] ?_ kf ?_
 ·intro w' hS;have c1:=hS.cell 1;have c5:=hS.cell 5;simp at c1 c5
  (repeat' (first | exact aC | refine au ⟨_,rfl,.inl ⟨rfl,?_⟩⟩ ?_))
  all_goals exact zG
 simp only [aR,Act.put,aj,ak,al];refine wTk 1 [(10,19,.agg (bu 0 there 0 (pt:Nat)))] ?_ kf ?_
 ·intro w' hS;have c1:=hS.cell 1;have c5:=hS.cell 5;simp at c1 c5
  (repeat' (first | exact aC | refine au ⟨_,rfl,.inl ⟨rfl,?_⟩⟩ ?_))
  all_goals exact zG
 simp only [aR,Act.put,aj,ak,al];refine aE (i:=11) (o:=_) zK rfl (fun KK hK=>?_)
 (try simp only [aq,ao,an])
 go_simp;have ko:=Bk.made w2 70 aZ;have zk:=kb.lt;have hb:=aB (Below.refl _ _) (ag aZ 70) (a:=w2);replace hp:=hp.ay hb;replace kf:=kf.ay hb;replace kb:=kb.ay hb;replace aG:=aG.trans (cL.aS _ _ hb);clear hb;generalize w2.alloc (ag aZ 70)=w3 at *;obtain ⟨go,qN⟩:∃ g,w2.heap.size=g:=⟨_,rfl⟩;rw [qN] at ko zk ⊢;have HO:=ar (show gb < go from zk)
 clear qN zk;refine hK.out _ _ (fun _=>kf) ?_
 clear hK KK
 (try simp only [Act.put,aj,ak,al])
 refine aE (i:=12) (o:=_) zK rfl (fun KK hK=>?_)
 (try simp only [aq,ao,an])
 rw [if_pos (by rfl)]
 refine dH 70 (.tmp 5) (.tmp 19) rfl go (bu 0 there 0 (pt:Nat)) rfl rfl 70 aZ ko zK rfl (by simp [aD]) ?_
 replace hp:=hp.dR ko (by have:=HN.out;have:=HO.out;omega) (bu 0 there 0 (pt:Nat))
 replace kf:=kf.a7 (b:=go) (by have:=HN.out;have:=HO.out;omega) (bu 0 there 0 (pt:Nat))
 replace kb:=kb.a7 (b:=go) (by have:=HO.out;omega) (bu 0 there 0 (pt:Nat))
 replace aG:=aG.row (b:=go) (.inl (by have:=HN.out;have:=HO.out;omega)) (bu 0 there 0 (pt:Nat))
 replace ko:=ko.bL (bu 0 there 0 (pt:Nat));generalize w3.setRow go (bu 0 there 0 (pt:Nat))=w4 at *;refine hK.out _ _ (fun _=>kf) ?_
 clear hK KK
 (try simp only [aq,ao,an,Act.put])
 refine aN zK ?_ _
 go_upto_region 3 with fail
 have xA:=kf.cell 1;have oU:=kf.lt;simp at xA
 cases there
 case false=>
  have fR:=ar (lh.out.trans (kq _ _ _ _ _ _));clear lh
  go_upto_region 5 with fail
  clear xA oU;have iF:=kf.cell 0;have oU:=kf.lt;simp at iF
  go_wp2_with fail
  (with_reducible refine (iJ th _ hp fR.out).mono ?_)
  rintro e w5 (⟨x,h1,rfl,h3⟩ | ⟨v,rfl,⟨z9,rfl,eP,ei⟩,cQ⟩)
  ·exact ⟨rfl,.inl ⟨x,h1,rfl,aG.trans h3.two⟩⟩
  replace aG:=aG.trans cQ.two;replace kf:=cQ.ay kf (by have:=HN.out;omega)
  replace kb:=cQ.ay kb (by have:=HN.out;omega)
  replace ko:=cQ.ay ko (by have:=HN.out;have:=HO.out;omega)
  have As:=ar (show q= .fin (⟨0,false,pt,0⟩,z9) from ei)
  clear hp cQ;have hp:=eP;clear eP;clear ei fR iF oU
  go_wp2_with (first
   | (refine aL rfl 70 (.tmp 5) rfl go rfl 70 (bu 0 false 0 (pt:Nat)) (0,0) _ ko aI rfl zK ?_)
   | (refine aK rfl 70 (.tmp 4) (.tmp 46) rfl rfl gb (bu 0 false 0 (pt:Nat)) rfl rfl 70 aZ kb zK rfl (by simp [aD]) ?_))
  have lI:=hp.dR kb (by have:=HN.out;omega) (bu 0 false 0 (pt:Nat))
  replace kb:=kb.bL (bu 0 false 0 (pt:Nat));replace aG:=aG.row (b:=gb) (.inl (by have:=HN.out;omega)) (bu 0 false 0 (pt:Nat))
  exact aX (v:=.agg (bu 0 false 0 (pt:Nat))) (cb (p:=4) (ty:=70) rfl _ _ gb 70 _ (0,0) _ rfl kb aI rfl zK) rfl (.inr ⟨_,rfl,⟨_,_,As.out,rfl,lI⟩,aG⟩)
 case true=>
  have fR:=ar (show q=fM th k.me op (.gv cur pt) z1 (log.drop z1.made) from lh.out)
  clear lh
  go_upto_region 4 with fail
  clear xA oU;refine aP (S:=fun w'=>Bk w' gf 204 (fdC k true (nodeAt k.l prev 0) cur next (pt:Nat) (nodeAt k.l op.h 0))) (E:=fun _=>false) zK ?_
  replace hp:=hp.ay (aU (Below.refl w4.heap.size w4));replace aG:=aG.drew;replace kf:=kf.drew;replace kb:=kb.drew;replace ko:=ko.drew;generalize w4.drew=w5 at *;refine wTk 13 [(0,25,ae (some ⟨gf,0,none⟩)),(1,26,ae (some ⟨gf,0,none⟩)),(2,27,ae (some ⟨gf,0,none⟩)),(3,28,ae (some ⟨k.gp,0,none⟩)),(4,29,ae (some ⟨gf,0,none⟩)),(5,30,ae (some ⟨gf,0,none⟩)),(6,31,ae (some ⟨gf,0,none⟩)),(7,32,ae (some ⟨k.gp,0,none⟩)),(8,33,ae (some ⟨gf,0,none⟩)),(9,34,ae (some ⟨gf,0,none⟩)),(10,35,ae (some ⟨gf,1,none⟩)),(11,36,ae (some ⟨gf,3,none⟩)),(12,37,aa ab cur)] ?_ kf ?_
  ·intro w' hS;have c0:=hS.cell 0;have c3:=hS.cell 3;simp at c0 c3
   (repeat' (first | exact aC | refine au ⟨_,rfl,.inl ⟨rfl,?_⟩⟩ ?_))
   all_goals exact zG
  simp only [aR,Act.put,aj,ak,al];refine aE (i:=13) (o:=_) zK rfl (fun KK hK=>?_)
  (try simp only [aq,ao,an])
  go_simp
  (with_reducible refine (gY cur 2 hp (by have:=HCB.out;omega)).mono ?_)
  rintro e w6 ⟨rfl,hb⟩;replace hp:=hp.ay hb;replace kf:=kf.ay hb;replace kb:=kb.ay hb;replace ko:=ko.ay hb;replace aG:=aG.trans (cL.aS _ _ hb);clear hb;refine hK.out _ _ (fun _=>kf) ?_
  clear hK KK
  (try simp only [Act.put,aj,ak,al])
  refine aE (i:=14) (o:=_) zK rfl (fun KK hK=>?_)
  (try simp only [aq,ao,an])
  go_simp
  (with_reducible refine (jt (.nd cur 2) (nodeAt k.l cur 2) _ hp rfl (fR.out.trans (jX _ _ _ _ _ _))).mono ?_)
  rintro e w7 (⟨x,h1,rfl,h3⟩ | ⟨v,rfl,⟨⟨x1,x2⟩,hx,rfl,eP,ei⟩,cQ⟩)
  ·exact ⟨rfl,.inl ⟨x,h1,rfl,aG.trans h3.two⟩⟩
  replace aG:=aG.trans cQ.two;replace kf:=cQ.ay kf (by have:=HN.out;omega)
  replace kb:=cQ.ay kb (by have:=HN.out;omega)
  replace ko:=cQ.ay ko (by have:=HN.out;have:=HO.out;omega)
  have hY:=ar (show q=cS th k.me op (iE ⟨x1,true,pt,cur⟩ z1.got) (log.drop z1.got.made) from ei)
  clear hp cQ;have hp:=eP;clear eP;clear ei hx fR;refine hK.out _ _ (fun _=>kf) ?_
  clear hK KK
  (try simp only [Act.put,aj,ak,al])
  refine wTk 1 [(15,40,ae (some ⟨go,0,none⟩))] ?_ kf ?_
  ·intro w' hS;have c0:=hS.cell 0;have c3:=hS.cell 3;simp at c0 c3
   (repeat' (first | exact aC | refine au ⟨_,rfl,.inl ⟨rfl,?_⟩⟩ ?_))
   all_goals exact zG
  simp only [aR,Act.put,aj,ak,al];have c0:=ko.cell 0;have f0:=ko.free 0;have lo:=ko.lt;simp at c0;refine aE (i:=16) (o:=_) zK rfl (fun KK hK=>?_)
  (try simp only [aq,ao,an])
  go_simp;replace hp:=hp.rB ko (by have:=HN.out;have:=HO.out;have:=hp.bp;omega) zD 0 (aa ab x1)
  replace kf:=kf.other (p:=⟨go,0,none⟩) (by have:=HN.out;have:=HO.out;dsimp only;omega) (aa ab x1)
  replace kb:=kb.other (p:=⟨go,0,none⟩) (by have:=HN.out;have:=HO.out;dsimp only;omega) (aa ab x1)
  replace aG:=aG.cell (p:=⟨go,0,none⟩) (.inl (by have:=HN.out;have:=HO.out;dsimp only;omega)) (aa ab x1)
  replace ko:Bk (w7.setCell ⟨go,0,none⟩ (aa ab x1)) go 70 (bu x1 true 0 (pt:Nat)):=ko.stored 0 (aa ab x1);clear c0 f0 lo;generalize w7.setCell ⟨go,0,none⟩ (aa ab x1)=w8 at *;refine hK.out _ _ (fun _=>kf) ?_
  clear hK KK
  (try simp only [Act.put,aj,ak,al])
  refine aN zK ?_ _;have gK:=ar (hY.out.trans (kq _ _ _ _ _ _));clear hY;have iF:=kf.cell 0;have oU:=kf.lt;simp at iF
  go_wp2_with fail
  (with_reducible refine (iJ th _ hp gK.out).mono ?_)
  rintro e w9 (⟨x,h1,rfl,h3⟩ | ⟨v,rfl,⟨z9,rfl,eP,ei⟩,cQ⟩)
  ·exact ⟨rfl,.inl ⟨x,h1,rfl,aG.trans h3.two⟩⟩
  replace aG:=aG.trans cQ.two;replace kf:=cQ.ay kf (by have:=HN.out;omega)
  replace kb:=cQ.ay kb (by have:=HN.out;omega)
  replace ko:=cQ.ay ko (by have:=HN.out;have:=HO.out;omega)
  have As:=ar (show q= .fin (⟨x1,true,pt,cur⟩,z9) from ei)
  clear hp cQ;have hp:=eP;clear eP;clear ei gK iF oU
  go_wp2_with (first
   | (refine aL rfl 70 (.tmp 5) rfl go rfl 70 (bu x1 true 0 (pt:Nat)) (0,0) _ ko aI rfl zK ?_)
   | (refine aK rfl 70 (.tmp 4) (.tmp 46) rfl rfl gb (bu x1 true 0 (pt:Nat)) rfl rfl 70 aZ kb zK rfl (by simp [aD]) ?_))
  have lI:=hp.dR kb (by have:=HN.out;omega) (bu x1 true 0 (pt:Nat))
  replace kb:=kb.bL (bu x1 true 0 (pt:Nat));replace aG:=aG.row (b:=gb) (.inl (by have:=HN.out;omega)) (bu x1 true 0 (pt:Nat))
  exact aX (v:=.agg (bu x1 true 0 (pt:Nat))) (cb (p:=4) (ty:=70) rfl _ _ gb 70 _ (0,0) _ rfl kb aI rfl zK) rfl (.inr ⟨_,rfl,⟨_,_,As.out,rfl,lI⟩,aG⟩)
end
def JL (k:Pk) (th:Int) (op:LOp) (gf gb:Nat) (log:Log) (q:An (dA × Pz)) (w wr:World):Prop:=
 ∃ z' there prev cur next pt,df wr k z' log/\cL k.gp gf w wr/\Bk wr gf 204 (fdC k there prev cur next pt (nodeAt k.l op.h 0))/\Bk wr gb 70 aZ/\q=fM th k.me op (.sub (.g1 0 (.nd op.h 0)) (.fh .del)) z' (log.drop z'.made)
section
variable {w:World} {k:Pk} {z:Pz} {log:Log} {q:An (dA × Pz)}
theorem del_any (th:Int) (op:LOp) (gf:Nat) (there:Bool) (prev cur next pt:Int) (h:df w k z log) (jl:th=2 * k.l.c.aM) (hs:1<=k.l.c.aM/\k.l.c.aM<=8) (zT:k.gp < gf) (hh:op.h<=9223372036854775807) (kf:Bk w gf 204 (fdC k there prev cur next pt (nodeAt k.l op.h 0)))
  (hq:q=fM th k.me op (.sub (.g1 0 (.nd op.h 0)) (.fh .del)) z (log.drop z.made)) (gq:q≠ .stuck):
  Calls aw 171 #[ptr gf,aa ab op.o] w (ji k gf q w (vP k log q)):=by
 have aG:cL k.gp gf w (w.alloc (ag aZ 70)):=(cL.refl _ _ _).alloc _;have kb:=Bk.made w 70 aZ;have zf:=kf.lt;have zp:=h.lt;have hp:=h.ay (aB (Below.refl _ _) (ag aZ 70));replace kf:=kf.alloc (ag aZ 70);have HNS:=ar (au gq (au jl (au hs hh)));have HQ:=ar hq;have mT:∃ g,w.heap.size=g:=⟨_,rfl⟩;clear h hq gq jl hs hh;go_enter Tryz.func171,Tryz.ntmps171
 go_wp2_with fail
 generalize w.alloc (ag aZ 70)=w0 at *;obtain ⟨gb,mD⟩:=mT;rw [mD] at kb zf zp ⊢;have HN:=ar (show k.gp < gf/\gf < gb/\k.gp < gb/\w.heap.size=gb from ⟨zT,zf,zp,mD⟩)
 clear mD zf zp zT;have HR:=ar (show JL k th op gf gb log q w w0 from ⟨z,there,prev,cur,next,pt,hp,aG,kf,kb,HQ.out⟩)
 have lp:=hp.lt;clear hp aG HQ kf kb
 go_loopw [7] (fun _ wr=>JL k th op gf gb log q w wr) (fun _ wr=>log.length+1 - madeOf k.gp wr)
 case atStart=>exact HR.out
 case round=>
 clear HR lp there prev cur next pt
 obtain ⟨z2,there,prev,cur,next,pt,hp,aG,kf,kb,hq⟩:=hrel
 have HM:=ar (au (dj hp) hp.mle);have HQ:=ar hq;clear hq
 go_wp2_with fail
 (with_reducible refine (uw th op .del gf _ _ _ _ _ hp HNS.out.2.1 HNS.out.2.2.1 HN.out.1 HNS.out.2.2.2 kf HQ.out HNS.out.1).mono ?_)
 clear kf;rintro e w1 (⟨x,h1,rfl,h3⟩ | ⟨v,rfl,⟨there,prev,cur,next,pt,z3,rfl,eP,kf,xc,rr,hm,ei⟩,cQ⟩)
 ·exact ⟨rfl,.inl ⟨x,h1,rfl,aG.trans h3⟩⟩
 replace aG:=aG.trans cQ;replace kb:=cQ.ay kb (by have:=HN.out;omega) (by have:=HN.out;omega)
 have lh:=ar ei;have OX:=ar (au xc (au rr hm));clear hp cQ ei hm xc rr HQ;have hp:=eP;clear eP;have xA:=kf.cell 1;have oU:=kf.lt;simp at xA
 cases there
 case false=>
  have fR:=ar (lh.out.trans (kq _ _ _ _ _ _));clear lh
  go_upto_region 3 with fail
  clear xA oU;have iF:=kf.cell 0;have oU:=kf.lt;simp at iF
  go_wp2_with fail
  (with_reducible refine (iJ th _ hp fR.out).mono ?_)
  rintro e w2 (⟨x,h1,rfl,h3⟩ | ⟨v,rfl,⟨z9,rfl,eP,ei⟩,cQ⟩)
  ·exact ⟨rfl,.inl ⟨x,h1,rfl,aG.trans h3.two⟩⟩
  replace aG:=aG.trans cQ.two;replace kf:=cQ.ay kf (by have:=HN.out;omega)
  replace kb:=cQ.ay kb (by have:=HN.out;omega)
  have As:=ar (show q= .fin (⟨0,false,pt,0⟩,z9) from ei)
  clear hp cQ;have hp:=eP;clear eP;clear ei fR iF oU;have Ow:=kf.cell 5;have oU:=kf.lt;simp at Ow
  go_wp2_with (refine aK rfl 70 (.tmp 4) (.tmp 26) rfl rfl gb (bu 0 false 0 (pt:Nat)) rfl rfl 70 aZ kb zK rfl (by simp [aD]) ?_)
  have lI:=hp.dR kb (by have:=HN.out;omega) (bu 0 false 0 (pt:Nat))
  replace kb:=kb.bL (bu 0 false 0 (pt:Nat));replace aG:=aG.row (b:=gb) (.inl (by have:=HN.out;omega)) (bu 0 false 0 (pt:Nat))
  exact aX (v:=.agg (bu 0 false 0 (pt:Nat))) (cb (p:=4) (ty:=70) rfl _ _ gb 70 _ (0,0) _ rfl kb aI rfl zK) rfl (.inr ⟨_,rfl,⟨_,_,As.out,rfl,lI⟩,aG⟩)
 case true=>
  have fR:=ar (show q=fM th k.me op (.dm prev cur next) z3 (log.drop z3.made) from lh.out)
  clear lh;have Dw:∀ (a:Int) (b:Bool) (c:Int) (w:World),(uP 81 (.agg #[aa ab a,.bool b,aa ab c]) 0).run aw w= .ok (aa ab a) w:=fun _ _ _ _=>by kernel_rfl
  go_upto_region 5 with fail
  clear xA oU;have ckf4:=kf.cell 4;have oU:=kf.lt;simp at ckf4
  go_wp2_with fail
  (with_reducible refine (gV next _).mono ?_)
  rintro e w2 ⟨rfl,hb⟩;replace hp:=hp.ay hb;replace kf:=kf.ay hb;replace kb:=kb.ay hb;replace aG:=aG.trans (cL.aS _ _ hb);clear hb;obtain ⟨ix,jZ⟩:∃ z,next % 65536=z:=⟨_,rfl⟩
  have lj:=ar (show idxOf next=ix from jZ)
  rw [jZ];clear jZ ckf4 oU;have HD1:=ar (show q=doR ⟨3,.nd cur 0,next,gZ ix⟩ z3 (fun r _ l'=>cS th k.me op ((LPh.dm prev cur next).stp th op z3 r) l') (log.drop z3.made) from by rw [<- lj.out];exact fR.out.trans (jX _ _ _ _ _ _))
  go_upto_region 6 with fail
  clear Dw;refine aP (S:=fun w'=>Bk w' gf 204 (fdC k true (nodeAt k.l prev 0) cur next (pt:Nat) (nodeAt k.l op.h 0))) (E:=fun _=>false) zK ?_
  replace hp:=hp.ay (aU (Below.refl w2.heap.size w2));replace aG:=aG.drew;replace kf:=kf.drew;replace kb:=kb.drew;generalize w2.drew=w3 at *;refine wTk 19 [(0,34,ae (some ⟨gf,0,none⟩)),(1,35,ae (some ⟨gf,0,none⟩)),(2,36,ae (some ⟨gf,0,none⟩)),(3,37,ae (some ⟨k.gp,0,none⟩)),(4,38,ae (some ⟨gf,0,none⟩)),(5,39,ae (some ⟨gf,0,none⟩)),(6,40,ae (some ⟨gf,0,none⟩)),(7,41,ae (some ⟨k.gp,0,none⟩)),(8,42,ae (some ⟨gf,0,none⟩)),(9,43,ae (some ⟨gf,0,none⟩)),(10,44,ae (some ⟨gf,1,none⟩)),(11,45,ae (some ⟨gf,3,none⟩)),(12,46,aa ab cur),(14,48,ae (some ⟨gf,0,none⟩)),(15,49,ae (some ⟨gf,0,none⟩)),(16,50,ae (some ⟨gf,1,none⟩)),(17,51,ae (some ⟨gf,4,none⟩)),(18,52,aa ab next),(19,53,aa ab ix)] ?_ kf ?_
  ·intro w' hS;have c0:=hS.cell 0;have c3:=hS.cell 3;have c4:=hS.cell 4;simp at c0 c3 c4
   (repeat' (first | exact aC | refine au ⟨_,rfl,.inl ⟨rfl,?_⟩⟩ ?_))
   all_goals exact zG
  simp only [aR,Act.put,aj,ak,al];refine aE (i:=13) (o:=_) zK rfl (fun KK hK=>?_)
  (try simp only [aq,ao,an])
  go_simp
  (with_reducible refine (gY cur 0 hp (by have:=OX.out;omega)).mono ?_)
  rintro e w4 ⟨rfl,hb⟩;replace hp:=hp.ay hb;replace kf:=kf.ay hb;replace kb:=kb.ay hb;replace aG:=aG.trans (cL.aS _ _ hb);clear hb;refine hK.out _ _ (fun _=>kf) ?_
  clear hK KK
  (try simp only [Act.put,aj,ak,al])
  refine aE (i:=20) (o:=_) zK rfl (fun KK hK=>?_)
  (try simp only [aq,ao,an])
  go_simp
  (with_reducible refine (IX ix _).mono ?_)
  rintro e w5 ⟨rfl,hb⟩;replace hp:=hp.ay hb;replace kf:=kf.ay hb;replace kb:=kb.ay hb;replace aG:=aG.trans (cL.aS _ _ hb);clear hb;refine hK.out _ _ (fun _=>kf) ?_
  clear hK KK
  (try simp only [Act.put,aj,ak,al])
  refine aE (i:=21) (o:=_) zK rfl (fun KK hK=>?_)
  (try simp only [aq,ao,an])
  go_simp
  (with_reducible refine (pX (.nd cur 0) (nodeAt k.l cur 0) next (gZ ix) _ hp rfl HD1.out).mono ?_)
  rintro e w6 (⟨x,h1,rfl,h3⟩ | ⟨v,rfl,⟨⟨t1,t2⟩,ht,rfl,eP,ei⟩,cQ⟩)
  ·exact ⟨rfl,.inl ⟨x,h1,rfl,aG.trans h3.two⟩⟩
  replace aG:=aG.trans cQ.two;replace kf:=cQ.ay kf (by have:=HN.out;omega)
  replace kb:=cQ.ay kb (by have:=HN.out;omega)
  have hY:=ar (show q=cS th k.me op ((LPh.dm prev cur next).stp th op z3 (t1,t2)) (log.drop z3.got.made) from ei)
  clear hp cQ;have hp:=eP;clear eP;clear ei ht fR HD1;refine hK.out _ _ (fun _=>kf) ?_
  clear hK KK
  (try simp only [Act.put,aj,ak,al])
  refine wTk 1 [(22,56,ah (!t2))] ?_ kf ?_
  ·intro w' hS;have c0:=hS.cell 0;have c3:=hS.cell 3;have c4:=hS.cell 4;simp at c0 c3 c4
   (repeat' (first | exact aC | refine au ⟨_,rfl,.inl ⟨rfl,?_⟩⟩ ?_))
   all_goals exact zG
  simp only [aR,Act.put,aj,ak,al];refine aN zK ?_ _
  cases t2 with
  | false=>
   have OU:=ar (show JL k th op gf gb log q w w6 from ⟨_,_,_,_,_,_,hp,aG,kf,kb,hY.out⟩)
   have HMS:=ar (show log.length+1 - madeOf k.gp w6 < log.length+1 - madeOf k.gp wr by
    rw [dj hp,HM.out.1];have hh:=hp.mle;have:=HM.out;have:=OX.out
    revert hh;show z3.made+1<=_->log.length+1 - (z3.made+1) < _;omega)
   clear hp aG kf kb hY
   go_wp2_with fail
   go_roundw
   case rel=>exact OU.out
   case measure=>exact HMS.out
  | true=>
   have gK:=ar (show q=fM th k.me op (.du prev cur next z3.made) z3.got (log.drop z3.got.made) from hY.out)
   have HD2:=ar (show q=doR ⟨3,.nd prev 0,a9 cur,a9 ix⟩ z3.got (fun r _ l'=>cS th k.me op ((LPh.du prev cur next z3.made).stp th op z3.got r) l') (log.drop z3.got.made) from by rw [<- lj.out];exact gK.out.trans (jX _ _ _ _ _ _))
   clear hY
   go_upto_region 7 with fail
   have iF:=kf.cell 0;have oU:=kf.lt;simp at iF
   go_wp2_with fail
   (with_reducible refine (ly hp (fu _ _)).mono ?_)
   rintro e x6 ⟨rfl,rfl⟩;obtain ⟨pl,lH⟩:∃ x,((z3.got.made - 1:Nat):Int)=x:=⟨_,rfl⟩;have HPL:=ar (show ((z3.made:Nat):Int)=pl from lH)
   rw [lH];clear lH
   go_upto_region 8 with fail
   clear iF oU;refine aP (S:=fun w'=>Bk w' gf 204 (fdC k true (nodeAt k.l prev 0) cur next (pt:Nat) (nodeAt k.l op.h 0))) (E:=fun _=>false) zK ?_
   replace hp:=hp.ay (aU (Below.refl x6.heap.size x6));replace aG:=aG.drew;replace kf:=kf.drew;replace kb:=kb.drew;generalize x6.drew=w8 at *;refine wTk 15 [(0,62,ae (some ⟨gf,0,none⟩)),(1,63,ae (some ⟨gf,0,none⟩)),(2,64,ae (some ⟨gf,0,none⟩)),(3,65,ae (some ⟨k.gp,0,none⟩)),(4,66,ae (some ⟨gf,0,none⟩)),(5,67,ae (some ⟨gf,0,none⟩)),(6,68,ae (some ⟨gf,1,none⟩)),(7,69,ae (some ⟨gf,2,none⟩)),(8,70,aa ab (nodeAt k.l prev 0)),(9,71,ae (some ⟨gf,0,none⟩)),(10,72,ae (some ⟨gf,0,none⟩)),(11,73,ae (some ⟨gf,1,none⟩)),(12,74,ae (some ⟨gf,3,none⟩)),(13,75,aa ab cur),(15,77,aa ab ix)] ?_ kf ?_
   ·intro w' hS;have c0:=hS.cell 0;have c2:=hS.cell 2;have c3:=hS.cell 3;simp at c0 c2 c3
    (repeat' (first | exact aC | refine au ⟨_,rfl,.inl ⟨rfl,?_⟩⟩ ?_))
    all_goals exact zG
   simp only [aR,Act.put,aj,ak,al];refine aE (i:=14) (o:=_) zK rfl (fun KK hK=>?_)
   (try simp only [aq,ao,an])
   go_simp
   (with_reducible refine (iv cur _).mono ?_)
   rintro e w9 ⟨rfl,hb⟩;replace hp:=hp.ay hb;replace kf:=kf.ay hb;replace kb:=kb.ay hb;replace aG:=aG.trans (cL.aS _ _ hb);clear hb;refine hK.out _ _ (fun _=>kf) ?_
   clear hK KK
   (try simp only [Act.put,aj,ak,al])
   refine aE (i:=16) (o:=_) zK rfl (fun KK hK=>?_)
   (try simp only [aq,ao,an])
   go_simp
   (with_reducible refine (iv ix _).mono ?_)
   rintro e xo ⟨rfl,hb⟩;replace hp:=hp.ay hb;replace kf:=kf.ay hb;replace kb:=kb.ay hb;replace aG:=aG.trans (cL.aS _ _ hb);clear hb;refine hK.out _ _ (fun _=>kf) ?_
   clear hK KK
   (try simp only [Act.put,aj,ak,al])
   refine aE (i:=17) (o:=_) zK rfl (fun KK hK=>?_)
   (try simp only [aq,ao,an])
   go_simp
   (with_reducible refine (pX (.nd prev 0) (nodeAt k.l prev 0) (a9 cur) (a9 ix) _ hp rfl HD2.out).mono ?_)
   rintro e tZ (⟨x,h1,rfl,h3⟩ | ⟨v,rfl,⟨⟨u1,u2⟩,ht,rfl,eP,ei⟩,cQ⟩)
   ·exact ⟨rfl,.inl ⟨x,h1,rfl,aG.trans h3.two⟩⟩
   replace aG:=aG.trans cQ.two;replace kf:=cQ.ay kf (by have:=HN.out;omega)
   replace kb:=cQ.ay kb (by have:=HN.out;omega)
   have oh:=ar (show q=cS th k.me op ((LPh.du prev cur next z3.made).stp th op z3.got (u1,u2)) (log.drop z3.got.got.made) from ei)
   clear hp cQ;have hp:=eP;clear eP;clear ei ht gK HD2;refine hK.out _ _ (fun _=>kf) ?_
   clear hK KK
   (try simp only [Act.put,aj,ak,al])
   refine aN zK ?_ _
   cases u2 with
   | true=>
    have qF:=ar (oh.out.trans (yn th k.me op (.dc cur ⟨0,true,z3.made,0⟩) (dK z3.got.got 0) _ _ (fun _ _=>rfl)))
    clear oh
    go_upto_region 9 with fail
    have iF:=kf.cell 0;have oU:=kf.lt;simp at iF
    go_wp2_with fail
    (with_reducible refine (iJ th _ hp qF.out).mono ?_)
    rintro e CC (⟨x,h1,rfl,h3⟩ | ⟨v,rfl,⟨z9,rfl,eP,ei⟩,cQ⟩)
    ·exact ⟨rfl,.inl ⟨x,h1,rfl,aG.trans h3.two⟩⟩
    replace aG:=aG.trans cQ.two;replace kf:=cQ.ay kf (by have:=HN.out;omega)
    replace kb:=cQ.ay kb (by have:=HN.out;omega)
    have tV:=ar (show q=cS th k.me op (retL cur ⟨0,true,z3.made,0⟩ z9) (log.drop z9.made) from ei)
    clear hp cQ;have hp:=eP;clear eP;clear ei qF iF oU;have Cv:=ar (show q=jO (2 * k.l.c.aM) k.me (fun t z l=>cS th k.me op (jS op t z (.out ⟨0,true,z3.made,0⟩)) l) (.r1 cur) z9 (log.drop z9.made) from by
     rw [tV.out,<- HNS.out.2.1];exact mF _ _ _ _ _ _ _)
    clear tV
    go_upto_region 10 with fail
    refine aP (S:=fun w'=>Bk w' gf 204 (fdC k true (nodeAt k.l prev 0) cur next (pt:Nat) (nodeAt k.l op.h 0))) (E:=fun _=>false) zK ?_
    replace hp:=hp.ay (aU (Below.refl CC.heap.size CC));replace aG:=aG.drew;replace kf:=kf.drew;replace kb:=kb.drew;generalize CC.drew=w13 at *;refine wTk 9 [(0,85,ae (some ⟨gf,0,none⟩)),(1,86,ae (some ⟨gf,0,none⟩)),(2,87,ae (some ⟨gf,0,none⟩)),(3,88,ae (some ⟨k.gp,0,none⟩)),(4,89,ae (some ⟨gf,0,none⟩)),(5,90,ae (some ⟨gf,0,none⟩)),(6,91,ae (some ⟨gf,1,none⟩)),(7,92,ae (some ⟨gf,3,none⟩)),(8,93,aa ab cur)] ?_ kf ?_
    ·intro w' hS;have c0:=hS.cell 0;have c3:=hS.cell 3;simp at c0 c3
     (repeat' (first | exact aC | refine au ⟨_,rfl,.inl ⟨rfl,?_⟩⟩ ?_))
     all_goals exact zG
    simp only [aR,Act.put,aj,ak,al];refine aE (i:=9) (o:=_) zK rfl (fun KK hK=>?_)
    (try simp only [aq,ao,an])
    go_simp
    (with_reducible refine (uh cur _ hp HNS.out.2.2.1 Cv.out HNS.out.1).mono ?_)
    rintro e w14 (⟨x,h1,rfl,h3⟩ | ⟨v,rfl,⟨z10,rfl,eP,ei,mV⟩,cQ⟩)
    ·exact ⟨rfl,.inl ⟨x,h1,rfl,aG.trans h3.two⟩⟩
    replace aG:=aG.trans cQ.two;replace kf:=cQ.ay kf (by have:=HN.out;omega)
    replace kb:=cQ.ay kb (by have:=HN.out;omega)
    have As:=ar (show q= .fin (⟨0,true,z3.made,0⟩,z10) from ei)
    clear hp cQ;have hp:=eP;clear eP;clear ei mV Cv;refine hK.out _ _ (fun _=>kf) ?_
    clear hK KK
    (try simp only [Act.put,aj,ak,al])
    refine aN zK ?_ _;have Ch:=ar (show ∃ o z',q= .fin (o,z')/\bu 0 true 0 pl=bu o.val o.is 0 (o.aH:Nat)/\z'=z10 from ⟨_,_,As.out,by rw [<- HPL.out],rfl⟩)
    clear As
    go_wp2_with (refine aK rfl 70 (.tmp 4) (.tmp 104) rfl rfl gb (bu 0 true 0 pl) rfl rfl 70 aZ kb zK rfl (by simp [aD]) ?_)
    have lI:=hp.dR kb (by have:=HN.out;omega) (bu 0 true 0 pl)
    replace kb:=kb.bL (bu 0 true 0 pl);replace aG:=aG.row (b:=gb) (.inl (by have:=HN.out;omega)) (bu 0 true 0 pl)
    obtain ⟨oo,zz,e1,e2,e3⟩:=Ch.out;exact aX (v:=.agg (bu 0 true 0 pl)) (cb (p:=4) (ty:=70) rfl _ _ gb 70 _ (0,0) _ rfl kb aI rfl zK) rfl (.inr ⟨_,rfl,⟨oo,zz,e1,congrArg Value.agg e2,e3 ▸ lI⟩,aG⟩)
   | false=>
    have qF:=ar (show q=fM th k.me op (.sub (.g1 0 (.nd op.h 0)) (.fh (.fin z3.made))) z3.got.got (log.drop z3.got.got.made) from oh.out)
    clear oh
    go_upto_region 11 with fail
    go_wp2_with fail
    (with_reducible refine (uw th op (.fin z3.made) gf _ _ _ _ _ hp HNS.out.2.1 HNS.out.2.2.1 HN.out.1 HNS.out.2.2.2 kf qF.out HNS.out.1).mono ?_)
    clear kf;rintro e CC (⟨x,h1,rfl,h3⟩ | ⟨v,rfl,⟨there2,prev2,cur2,next2,pt2,z4,rfl,eP,kf,xc,rr,hm,ei⟩,cQ⟩)
    ·exact ⟨rfl,.inl ⟨x,h1,rfl,aG.trans h3⟩⟩
    replace aG:=aG.trans cQ;replace kb:=cQ.ay kb (by have:=HN.out;omega) (by have:=HN.out;omega)
    have tV:=ar (show q=eM th k.me _ (dK z4 0) _ from ei.trans (kq _ _ _ ⟨0,true,z3.made,0⟩ _ _))
    clear hp cQ ei hm xc rr qF;have hp:=eP;clear eP
    go_upto_region 12 with fail
    have iF:=kf.cell 0;have oU:=kf.lt;simp at iF
    go_wp2_with fail
    (with_reducible refine (iJ th _ hp tV.out).mono ?_)
    rintro e w13 (⟨x,h1,rfl,h3⟩ | ⟨v,rfl,⟨z9,rfl,eP,ei⟩,cQ⟩)
    ·exact ⟨rfl,.inl ⟨x,h1,rfl,aG.trans h3.two⟩⟩
    replace aG:=aG.trans cQ.two;replace kf:=cQ.ay kf (by have:=HN.out;omega)
    replace kb:=cQ.ay kb (by have:=HN.out;omega)
    have As:=ar (show q= .fin (⟨0,true,z3.made,0⟩,z9) from ei)
    clear hp cQ;have hp:=eP;clear eP;clear ei tV iF oU;have Ch:=ar (show ∃ o z',q= .fin (o,z')/\bu 0 true 0 pl=bu o.val o.is 0 (o.aH:Nat)/\z'=z9 from ⟨_,_,As.out,by rw [<- HPL.out],rfl⟩)
    clear As
    go_wp2_with (refine aK rfl 70 (.tmp 4) (.tmp 104) rfl rfl gb (bu 0 true 0 pl) rfl rfl 70 aZ kb zK rfl (by simp [aD]) ?_)
    have lI:=hp.dR kb (by have:=HN.out;omega) (bu 0 true 0 pl)
    replace kb:=kb.bL (bu 0 true 0 pl);replace aG:=aG.row (b:=gb) (.inl (by have:=HN.out;omega)) (bu 0 true 0 pl)
    obtain ⟨oo,zz,e1,e2,e3⟩:=Ch.out;exact aX (v:=.agg (bu 0 true 0 pl)) (cb (p:=4) (ty:=70) rfl _ _ gb 70 _ (0,0) _ rfl kb aI rfl zK) rfl (.inr ⟨_,rfl,⟨oo,zz,e1,congrArg Value.agg e2,e3 ▸ lI⟩,aG⟩)
end
end Go.Proofs.YtikdaeddbkopeaaGreatR.list
