/- A part of the proof. -/
import Derived.Test.YtikdaeddbkopeaaGreatRV3
import Derived.Test.YtikdaeddbkopeaaGreatRV8
set_option linter.unusedVariables false
set_option linter.unusedSimpArgs false
set_option maxRecDepth 100000
set_option maxHeartbeats 16000000
open And renaming intro → au
open Go renaming execOp → Av, setRow_heap → Cm, wpList_store_rowTo → aK, wpList_load_row → aL, wp_at_zero → aV, wp_at_succ → aW, bodyPost_ret → aX, TypeId → bR, run_loadVar_row → be, results_cell_row → cb, wp_store_row → dH, rounds_succ → dI, results_none → dY, loadVar → dr, Ending → lb, wpAnyH_ready → qw
open Go.Ending renaming returned → ai
open Go.Instr renaming makeFunc → kZ, sureAddr → xG
open Go.IntKind renaming i64 → ab
open Go.IntWalk renaming i64_in → cV
open Go.Lib renaming hid → ar
open Go.Obj renaming cells → ag
open Go.Proofs.Tryz renaming underlying70 → aI, underlying34 → aJ, prog → aw, underlying67 → bU
open Go.Result renaming andThen_ok → bQ
open Go.Sem renaming run_bind → di, run_pure → dx
open Go.Value renaming oneCell' → aD, bool → ah, int → aa, pointer → ae
open List renaming setIfInBounds_toArray → aj, set_cons_zero → ak, set_cons_succ → al, getElem_cons_zero → an, getElem_cons_succ → ao, getElem_toArray → aq, mem_of_getElem? → bX
open Nat renaming le_trans → aQ, zero_le → aY, le_refl → az, lt_of_lt_of_le → bg, le_add_left → fu
open Or renaming inl → jL
open True renaming intro → aC
namespace Go.Proofs.YtikdaeddbkopeaaGreatR.segment
open Go.RowKit
attribute [local go_sem ↓] aV aW
def lA (w:World) (l:Ly) (me:Nat) (A:Option Addr) (cap:Nat):Pk:=⟨l,me,A,cap,w.heap.size,w.heap.size+1+1,w.heap.size+1+1+1,w.heap.size+1⟩
abbrev pcZ (l:Ly) (me:Nat) (gv:Value):Array Value:=#[aa ab l.c.aM,aa ab l.c.nodes,aa ab l.c.buckets,aa ab l.c.slots,aa ab l.c.tasks,aa ab l.c.cells,aa ab l.c.maps,aa ab l.c.stacks,aa ab l.c.chans,aa ab l.done,aa ab l.count,aa ab l.era,aa ab l.free,aa ab l.alive,aa ab l.owner,aa ab l.resv,aa ab l.deque,aa ab l.ring,aa ab l.task,aa ab l.cell,aa ab l.map,aa ab l.stack,aa ab l.chan,aa ab l.node,aa ab l.size,aa ab me,gv,aa ab 0,aa ab 0,aa ab 0,aa ab 0,.nilFunc]
theorem yA (l:Ly) (me:Nat) (gv:Value) (g:cG) (A:Option Addr) (cap:Nat) (log:Log) (w:World) (f:dU l) (hg:bN w gv g) (hs:hH w w.heap.size A log) (hl:log.length<=100000):
  Calls aw 101 #[lyV l,aa ab me,gv,.slice A log.length cap] w fun e w'=>e=ai (ptr (w.heap.size+1+1))/\df w' (lA w l me A cap) ⟨[0,0,0],g,0⟩ log/\Below w.heap.size w w':=by
 obtain ⟨G,gc,rfl,hN,qP⟩:=hg;obtain ⟨gv,hgv⟩:∃ v,v=Value.slice G g.length gc:=⟨_,rfl⟩;have HG:=ar (show bN w (.slice G g.length gc) g from ⟨G,gc,rfl,hN,qP⟩)
 have HS:=ar hs;have k1:=((Bk.new (w.alloc (ag (lyC l) 34)) (g:=w.heap.size+1) zS 43 #[.slice A log.length cap]).alloc (ag (pcZ l me (.slice G g.length gc)) 186)).alloc (ag #[ptr (w.heap.size+1+1)] 158);have k2:=(Bk.new ((w.alloc (ag (lyC l) 34)).alloc (ag #[.slice A log.length cap] 43)) (g:=w.heap.size+1+1) zS 186 (pcZ l me (.slice G g.length gc))).alloc (ag #[ptr (w.heap.size+1+1)] 158);have k3:=Bk.new (((w.alloc (ag (lyC l) 34)).alloc (ag #[.slice A log.length cap] 43)).alloc (ag (pcZ l me (.slice G g.length gc)) 186)) (g:=w.heap.size+1+1+1) zS 158 #[ptr (w.heap.size+1+1)];have bz:=aB (aB (aB (aB (Below.refl w.heap.size w) (ag (lyC l) 34)) (ag #[.slice A log.length cap] 43)) (ag (pcZ l me (.slice G g.length gc)) 186)) (ag #[ptr (w.heap.size+1+1)] 158);have k0:=(Bk.made w 34 (lyC l)).alloc (ag #[.slice A log.length cap] 43);clear hN qP hs hgv gv;have Dv:∀ (fn:Fn) (first cap:Array Value) (w:World),(kZ fn first cap).run aw w= .ok (.func fn first cap) w:=fun _ _ _ _=>rfl
 go_enter Tryz.func101,Tryz.ntmps101
 go_upto_region 2 with (refine aL rfl 34 (.tmp 4) rfl w.heap.size rfl 34 (lyC l) (0,0) _ k0 aJ rfl zK ?_)
 generalize ((((w.alloc (ag (lyC l) 34)).alloc (ag #[.slice A log.length cap] 43)).alloc (ag (pcZ l me (.slice G g.length gc)) 186)).alloc (ag #[ptr (w.heap.size+1+1)] 158))=w4 at *;clear k0;obtain ⟨b1,h1⟩:∃ x,w.heap.size+1=x:=⟨_,rfl⟩;obtain ⟨b2,h2⟩:∃ x,b1+1=x:=⟨_,rfl⟩;obtain ⟨b3,h3⟩:∃ x,b2+1=x:=⟨_,rfl⟩;rw [h1] at k1;rw [h1,h2] at k2;rw [h1,h2,h3] at k3 ⊢;have z1:w.heap.size < b1:=zO;have z2:b1 < b2:=zO;have z3:b2 < b3:=zO;have c3:=k3.cell 0;have Ba:=k2.cell 31;have f31:=k2.free 31;have l2:=k2.lt;simp at c3 Ba
 go_upto_region 3 with fail
 clear Ba f31 l2 c3;replace k1:=k1.other (p:=⟨b2,31,none⟩) (by dsimp only;omega) (.func (.func 143) #[] #[ptr b3,ptr b1])
 replace k3:=k3.other (p:=⟨b2,31,none⟩) (by dsimp only;omega) (.func (.func 143) #[] #[ptr b3,ptr b1])
 replace bz:=bK bz (p:=⟨b2,31,none⟩) (by dsimp only;omega) (.func (.func 143) #[] #[ptr b3,ptr b1])
 replace k2:Bk (w4.setCell ⟨b2,31,none⟩ (.func (.func 143) #[] #[ptr b3,ptr b1])) b2 186 #[aa ab l.c.aM,aa ab l.c.nodes,aa ab l.c.buckets,aa ab l.c.slots,aa ab l.c.tasks,aa ab l.c.cells,aa ab l.c.maps,aa ab l.c.stacks,aa ab l.c.chans,aa ab l.done,aa ab l.count,aa ab l.era,aa ab l.free,aa ab l.alive,aa ab l.owner,aa ab l.resv,aa ab l.deque,aa ab l.ring,aa ab l.task,aa ab l.cell,aa ab l.map,aa ab l.stack,aa ab l.chan,aa ab l.node,aa ab l.size,aa ab me,.slice G g.length gc,aa ab 0,aa ab 0,aa ab 0,aa ab 0,.func (.func 143) #[] #[ptr b3,ptr b1]]:=k2.stored 31 (.func (.func 143) #[] #[ptr b3,ptr b1]);generalize w4.setCell ⟨b2,31,none⟩ (.func (.func 143) #[] #[ptr b3,ptr b1])=w6 at *;have c3:=k3.cell 0;simp at c3
 go_wp2_with fail
 go_ret
 subst h3 h2 h1;refine ⟨rfl,⟨⟨_,0,0,0,k2,(HG.out.gnV (gp:=w.heap.size+1+1) zO).ay bz,rfl⟩,k3,k1,HS.out.below bz,⟨by unfold lA;dsimp only;omega,by unfold lA;dsimp only;omega⟩,by unfold lA;dsimp only;omega,hl,aY _,f⟩,bz⟩
theorem jz (l:Ly) (x:LAc) (ga g7 go gb:Nat) (w:World) (ka:Bk w ga 67 bW):
  CallsD aw 157 #[ptr ga,ptr g7,ptr go,ptr gb] (.panicking [{ v:=np l x,recovered:=false }]) w fun e u' w'=>
   e=ai (.tuple #[])/\u'= .panicking [{ v:=np l x,recovered:=true }]/\Bk w' ga 67 (bj x.k (adr l x.c) x.o x.v)/\Stp ga w w':=by
 obtain ⟨k,c,o,v⟩:=x;generalize Ka:adr l c=ci;have e0:np l ⟨k,c,o,v⟩= .iface 188 (.agg (bj k ci o v)):=by unfold np D3;rw [Ka];(try rfl)
 rw [e0];clear e0 Ka;refine callsD_of_wpS Tryz.func157 rfl fun c₀ cs hu=>?_
 apply wpS_seq;apply wpS_region;simp [wpOpsS,go_sem,recoverD,hu,Tryz.ntmps157,Exit.thenS];refine wpS_of_wp ?_;have hn:∀ w:World,(binOp .eql 20 (.iface 188 (.agg (bj k ci o v))) .nilIface).run aw w= .ok (ah false) w:=fun _=>by kernel_rfl
 have heq:∀ w:World,(eqGuard .eql 20 (.tmp 7) (.const .nilIface) (.iface 188 (.agg (bj k ci o v))) .nilIface).run aw w= .ok () w:=fun _=>by kernel_rfl
 have rp:(#[ptr ga,ptr g7,ptr go,ptr gb]++(Array.replicate 19 undef).setIfInBounds 3 (.iface 188 (.agg (bj k ci o v))))=#[ptr ga,ptr g7,ptr go,ptr gb,undef,undef,undef,.iface 188 (.agg (bj k ci o v)),undef,undef,undef,undef,undef,undef,undef,undef,undef,undef,undef,undef,undef,undef,undef]:=zK;rw [rp];clear rp;have hta:∀ w:World,(Instr.typeAssert (.iface 188 (.agg (bj k ci o v))) 20 188 true).run aw w= .ok (.tuple #[.agg (bj k ci o v),ah true]) w:=fun _=>by kernel_rfl
 have l0:=ka.lt;have kx:=Bk.made w 188 (bj k ci o v);have NF:=ka.alloc (ag (bj k ci o v) 188);have aG:Stp ga w (w.alloc (ag (bj k ci o v) 188)):=(Stp.refl ga w).alloc _
 go_wp2_with (first
  | (refine dJ rfl 188 (.tmp 5) (.tmp 20) rfl rfl w.heap.size _ _ (bj k ci o v) rfl rfl rfl rfl zK rfl (by simp [aD]) ?_)
  | (refine aL rfl 67 (.tmp 21) rfl w.heap.size rfl 188 (bj k ci o v) (0,0) _ kx bU rfl zK ?_)
  | (refine aK rfl 67 (.tmp 0) (.tmp 22) rfl rfl ga (bj k ci o v) rfl rfl 67 bW NF zK rfl (by simp [aD]) ?_))
 have h1:Bk ((w.alloc (ag (bj k ci o v) 188)).setRow ga (bj k ci o v)) ga 67 (bj k ci o v):=Cm _ _ bW (bj k ci o v) 67 (0,0) NF;have h2:Stp ga w ((w.alloc (ag (bj k ci o v) 188)).setRow ga (bj k ci o v)):=
  ⟨aG.os,aG.tape,aG.output,by simp [World.setRow],fun b hb hn=>(setRow_other _ ga b _ hn).trans (aG.block b hb hn)⟩
 exact ⟨rfl,_,rfl,_,dY rfl _ _ _,rfl,rfl,h1,h2⟩
theorem j9 (ga g7 go gb:Nat) (w:World):
  CallsD aw 157 #[ptr ga,ptr g7,ptr go,ptr gb] .returning w fun e u' w'=>e=ai (.tuple #[])/\u'= .returning/\w'=w:=by
 refine callsD_of_wpS Tryz.func157 rfl fun c₀ cs hu=>?_
 apply wpS_seq;apply wpS_region;simp [wpOpsS,go_sem,recoverD,hu,Tryz.ntmps157,Exit.thenS];refine wpS_of_wp ?_;have hn:∀ w:World,(binOp .eql 20 .nilIface .nilIface).run aw w= .ok (ah true) w:=fun _=>by kernel_rfl
 have heq:∀ w:World,(eqGuard .eql 20 (.tmp 7) (.const .nilIface) .nilIface .nilIface).run aw w= .ok () w:=fun _=>by kernel_rfl
 have rp:(#[ptr ga,ptr g7,ptr go,ptr gb]++(Array.replicate 19 undef).setIfInBounds 3 .nilIface)=#[ptr ga,ptr g7,ptr go,ptr gb,undef,undef,undef,.nilIface,undef,undef,undef,undef,undef,undef,undef,undef,undef,undef,undef,undef,undef,undef,undef]:=zK;rw [rp];clear rp
 go_wp2
 cases c₀
 simp only at hu;subst hu;exact ⟨rfl,_,rfl,_,dY rfl _ _ _,rfl,rfl,rfl⟩
def tO {β:Type} (l:Ly) (q:An β) (T:Int->Bool->Int->Pz->Prop) (gp bm:Nat) (w:World) (e:lb) (w':World):Prop:=
 ((∃ a,q= .ask a/\e=ai (.tuple #[.agg (bj a.k (adr l a.c) a.o a.v),.agg aZ,ah false]))\/
  (∃ val is aH z' gv,T val is aH z'/\e=ai (.tuple #[.agg bW,.agg (br val is 0 aH gv),ah true])/\bN w' gv z'.gone))/\cL gp bm w w'
theorem q9 {β:Type} {k:Pk} {z:Pz} {log:Log} (q:An β) (T:Int->Bool->Int->Pz->Prop) (BV:Nat) (qg:Array Value) (bm:Nat) (w:World) (hbm:bm < w.heap.size) (h:df w k z log) (hcf:∀ w:World,(callFunc BV qg).run aw w= .ok (.enter BV qg) w)
  (hT:∀ val is aH z',T val is aH z'->z'.gone.length<=1000)
  (hc:∀ w2,Below w.heap.size w w2->Calls aw BV qg w2 (ji k bm q w2 fun v w3=>∃ val is aH z',T val is aH z'/\v= .agg (bu val is 0 aH)/\df w3 k z' log)):
  Calls aw 104 #[ptr k.gp,.func (.func BV) #[] qg] w (tO k.l q T k.gp bm w):=by
 have k0:=(((Bk.made w 158 #[ptr k.gp]).alloc (ag bW 67)).alloc (ag aZ 70)).alloc (ag #[ah false] 4);have k1:=((Bk.new (w.alloc (ag #[ptr k.gp] 158)) (g:=w.heap.size+1) zS 67 bW).alloc (ag aZ 70)).alloc (ag #[ah false] 4);have k2:=(Bk.new ((w.alloc (ag #[ptr k.gp] 158)).alloc (ag bW 67)) (g:=w.heap.size+1+1) zS 70 aZ).alloc (ag #[ah false] 4);have k3:=Bk.new (((w.alloc (ag #[ptr k.gp] 158)).alloc (ag bW 67)).alloc (ag aZ 70)) (g:=w.heap.size+1+1+1) zS 4 #[ah false];have bz:=aB (aB (aB (aB (Below.refl w.heap.size w) (ag #[ptr k.gp] 158)) (ag bW 67)) (ag aZ 70)) (ag #[ah false] 4);have zp:=h.lt;have zv:=h.kv.lt;have zl:=h.kl.lt;have HH:=ar h;have HT:=ar hT;have HC:=ar hc;clear h hT hc;have Dv:∀ (fn:Fn) (first cap:Array Value) (w:World),(kZ fn first cap).run aw w= .ok (.func fn first cap) w:=fun _ _ _ _=>rfl
 go_enter_defers Tryz.func104,Tryz.ntmps104
 go_upto_region 2 with fail
 generalize ((((w.alloc (ag #[ptr k.gp] 158)).alloc (ag bW 67)).alloc (ag aZ 70)).alloc (ag #[ah false] 4))=w4 at *;obtain ⟨b0,h0⟩:∃ x,w.heap.size=x:=⟨_,rfl⟩;have HW:=ar h0;rw [h0] at k0 k1 k2 k3 bz zp zv zl hbm ⊢;clear h0;obtain ⟨b1,h1⟩:∃ x,b0+1=x:=⟨_,rfl⟩;obtain ⟨b2,h2⟩:∃ x,b1+1=x:=⟨_,rfl⟩;obtain ⟨b3,h3⟩:∃ x,b2+1=x:=⟨_,rfl⟩;rw [h1] at k1;rw [h1,h2] at k2;rw [h1,h2,h3] at k3 ⊢;have z1:b0 < b1:=zO;have z2:b1 < b2:=zO;have z3:b2 < b3:=zO;clear h1 h2 h3;have y0:=k0.lt;have y1:=k1.lt;have y2:=k2.lt;have y3:=k3.lt
 go_wp2_with fail
 (with_reducible refine (HC.out w4 (by rw [HW.out];exact bz)).mono ?_)
 rintro e w5 (⟨a,hq,rfl,hs⟩ | ⟨v,rfl,⟨val,is,aH,z',hT,rfl,hp⟩,hs⟩)
 ·have HQ:=ar hq;clear hq;replace k1:=hs.ay k1 zO zO;replace k2:=hs.ay k2 zO zO;replace k3:=hs.ay k3 zO zO;have fa:=(cL.aS k.gp bm (by rw [HW.out];exact bz:Below w.heap.size w w4)).trans hs
  refine leaves_cons (f:=157) (args:=#[ptr b1,ptr b0,ptr b2,ptr b3]) zS (by simp [go_sem]) ?_
  refine (jz k.l a b1 b0 b2 b3 _ k1).mono ?_;rintro e u' w6 ⟨rfl,rfl,ka,dB⟩;replace k2:=dB.ay k2 zO;replace k3:=dB.ay k3 zO;refine ⟨_,iH (p:=4) (q:=5) (t:=6) (t1:=67) (t2:=70) (t3:=4) rfl _ _ b1 b2 b3 (bj a.k (adr k.l a.c) a.o a.v) aZ (0,0) (0,0) _ _ _ rfl rfl rfl ka k2 bU rfl zK aI rfl zK (ky _ b3 false k3),?_⟩;refine ⟨.inl ⟨a,HQ.out,rfl⟩,?_⟩;exact ⟨dB.os.trans fa.os,dB.tape.trans fa.tape,dB.output.trans fa.output,aQ fa.size dB.size,fun b hb hn uL=>(dB.block b (bg hb fa.size) (by rw [HW.out] at hb;omega)).trans (fa.block b hb hn uL)⟩
 ·have HP:=ar (au hT hp);have hg:=HT.out _ _ _ _ hT;obtain ⟨gv,e0,e1,e2,kp,kg,-⟩:=hp.kp;clear hT hp;replace k0:=hs.ay k0 zO zO;replace k1:=hs.ay k1 zO zO;replace k2:=hs.ay k2 zO zO;replace k3:=hs.ay k3 zO zO;have fa:=(cL.aS k.gp bm (by rw [HW.out];exact bz:Below w.heap.size w w4)).trans hs
  clear hs bz;obtain ⟨v,hv⟩:∃ v,v=Value.agg (bu val is 0 aH):=⟨_,rfl⟩
  go_upto_region 3 with (refine aK rfl 70 (.tmp 5) (.tmp 9) rfl rfl b2 (bu val is 0 aH) rfl rfl 70 aZ k2 zK rfl (by simp [aD]) ?_)
  clear hv v;have NC:=kg.row k2 zD (bu val is 0 aH);replace kp:=Bk.a7 kp (b:=b2) zO (bu val is 0 aH);replace k0:=k0.a7 (b:=b2) zO (bu val is 0 aH);replace k1:=k1.a7 (b:=b2) zO (bu val is 0 aH);replace k3:=k3.a7 (b:=b2) zO (bu val is 0 aH);replace k2:=k2.bL (bu val is 0 aH);replace fa:=fa.row (b:=b2) (.inl (by rw [HW.out];omega)) (bu val is 0 aH)
  clear kg;generalize w5.setRow b2 (bu val is 0 aH)=w6 at *;have c0:=k0.cell 0;have jI:=Bk.cell kp 26;simp at c0 jI;have lp6:=Bk.lt kp
  go_wp2_with fail
  (with_reducible refine (GnV.clone NC hg).mono ?_)
  rintro e w7 ⟨G,n,c,rfl,hn,yU,bn,hb⟩;subst hn;have HG:=ar (show bN w7 (.slice G z'.gone.length c) z'.gone from ⟨G,c,rfl,yU,nK bn rfl⟩)
  replace kp:=Bk.ay kp hb;replace k0:=Bk.ay k0 hb;replace k1:=Bk.ay k1 hb;replace k2:=Bk.ay k2 hb;replace k3:=Bk.ay k3 hb;replace fa:=fa.trans (.aS k.gp bm hb);clear hb c0 jI NC bn yU lp6;have q4:=k2.cell 4;have f4:=k2.free 4;have l4:=k2.lt;simp at q4
  go_upto_region 4 with fail
  clear q4 f4 l4;have qt:=HG.out.cell k2 zD 4 (.slice G z'.gone.length c);replace k2:Bk (w7.setCell ⟨b2,4,none⟩ (.slice G z'.gone.length c)) b2 70 (br val is 0 aH (.slice G z'.gone.length c)):=k2.stored 4 (.slice G z'.gone.length c);replace k1:=k1.other (p:=⟨b2,4,none⟩) (by dsimp only;omega) (.slice G z'.gone.length c)
  replace k3:=k3.other (p:=⟨b2,4,none⟩) (by dsimp only;omega) (.slice G z'.gone.length c)
  replace fa:=fa.cell (p:=⟨b2,4,none⟩) (.inl (by rw [HW.out];dsimp only;omega)) (.slice G z'.gone.length c)
  clear HG kp k0;obtain ⟨gv2,hgv2⟩:∃ v,v=Value.slice G z'.gone.length c:=⟨_,rfl⟩;generalize w7.setCell ⟨b2,4,none⟩ (.slice G z'.gone.length c)=Co at *;refine wp_region_held_drew (S:=fun w'=>Bk w' b2 70 (br val is 0 aH (.slice G z'.gone.length c))) zK k2.drew (fun uu=>?_)
  clear uu;replace k1:=k1.drew;replace k2:=k2.drew;replace k3:=k3.drew;replace fa:=fa.drew;replace qt:bN Co.drew (.slice G z'.gone.length c) z'.gone:=qt;generalize Co.drew=w17 at *;have lJ:∀ (d:Nat),d≠4/\d≠5/\d≠6->∀ (v:Value) {R:lb->World->Prop} {K:Act->World->Prop} {c:List PanicEntry} {a:Act} {w:World},Exit.then K (bodyPostD aw Tryz.f104 R) (Exit.panic c) (a.put (some d) v) w->Exit.then K (bodyPostD aw Tryz.f104 R) (Exit.panic c) a w:=fun d hd v _ _ _ _ _ h=>uj (p:=4) (q:=5) (t:=6) (t1:=67) (t2:=70) (t3:=4) Tryz.results104 hd h
  refine wpAnyH_take (i:=0) (oi:=_) (v:=.agg bW) rfl zK zK zK (fun _ _ _ h=>lJ 16 zO _ h) (jL ⟨by rfl,?_⟩) k2 ?_
  ·intro w' hSw
   (try simp only [aq,an])
   go_simp
  (try simp only [aq,an,Act.put,aj,ak,al])
  refine wpAnyH_take (i:=1) (oi:=_) (v:=.agg (br val is 0 aH (.slice G z'.gone.length c))) rfl zK zK zK (fun _ _ _ h=>lJ 17 zO _ h) (jL ⟨by rfl,?_⟩) k2 ?_
  ·intro w' hSw
   (try simp only [aq,ao,an])
   simp only [Av,Instr.loadAt,xG,di,dx];rw [show (Act.eval _ (Operand.tmp 5))=Value.pointer (some ⟨b2,0,none⟩) from rfl]
   simp only [dx,bQ,be w' b2 70 70 (br val is 0 aH (.slice G z'.gone.length c)) (0,0) _ hSw aI rfl zK]
  (try simp only [aq,ao,an,Act.put,aj,ak,al])
  refine qw (rs:=[2]) zK zS ?_;refine AllReadyH.cons (o:=_) rfl (fun K hK=>?_) AllReadyH.nil
  rw [if_pos (by rfl)]
  refine dH 67 (.tmp 4) (.tmp 16) rfl b1 bW rfl rfl 67 bW k1 zK rfl (by simp [aD]) ?_
  replace qt:=qt.row k1 zD bW;replace k2:=k2.a7 (b:=b1) zO bW;replace k3:=k3.a7 (b:=b1) zO bW;replace k1:=k1.bL bW;replace fa:=fa.row (b:=b1) (.inl (by rw [HW.out];omega)) bW
  refine hK.out _ _ k2 (fun ru=>?_)
  clear ru hK K
  (try simp only [aq,ao,an,Act.put])
  generalize w17.setRow b1 bW=Mi at *;refine qw (rs:=[3]) zK zS ?_;refine AllReadyH.cons (o:=_) rfl (fun K hK=>?_) AllReadyH.nil
  rw [if_pos (by rfl)]
  refine dH 70 (.tmp 5) (.tmp 17) rfl b2 (br val is 0 aH (.slice G z'.gone.length c)) rfl rfl 70 (br val is 0 aH (.slice G z'.gone.length c)) k2 zK rfl (by simp [aD]) ?_
  replace qt:=qt.row k2 zD (br val is 0 aH (.slice G z'.gone.length c));replace k1:=k1.a7 (b:=b2) zO (br val is 0 aH (.slice G z'.gone.length c));replace k3:=k3.a7 (b:=b2) zO (br val is 0 aH (.slice G z'.gone.length c));replace k2:=k2.bL (br val is 0 aH (.slice G z'.gone.length c));replace fa:=fa.row (b:=b2) (.inl (by rw [HW.out];omega)) (br val is 0 aH (.slice G z'.gone.length c))
  refine hK.out _ _ k2 (fun ru=>?_)
  clear ru hK K
  (try simp only [aq,ao,an,Act.put])
  generalize Mi.setRow b2 (br val is 0 aH (.slice G z'.gone.length c))=JM at *;have q6:=k3.cell 0;have f6:=k3.free 0;have l6:=k3.lt;simp at q6;refine qw (rs:=[4]) zK zS ?_;refine AllReadyH.cons (o:=_) rfl (fun K hK=>?_) AllReadyH.nil
  (try simp only [aq,ao,an])
  go_simp;clear q6 f6 l6;replace qt:=qt.cell k3 zD 0 (ah true);replace k3:Bk (JM.setCell ⟨b3,0,none⟩ (ah true)) b3 4 #[ah true]:=k3.stored 0 (ah true);replace k1:=k1.other (p:=⟨b3,0,none⟩) (by dsimp only;omega) (ah true)
  replace k2:=k2.other (p:=⟨b3,0,none⟩) (by dsimp only;omega) (ah true)
  replace fa:=fa.cell (p:=⟨b3,0,none⟩) (.inl (by rw [HW.out];dsimp only;omega)) (ah true)
  refine hK.out _ _ k2 (fun ru=>?_)
  clear ru hK K
  (try simp only [aq,ao,an,Act.put,aj,ak,al])
  generalize JM.setCell ⟨b3,0,none⟩ (ah true)=w20 at *;refine wpAnyH_done zK ?_ _
  go_wp2
  refine leaves_cons (f:=157) (args:=#[ptr b1,ptr b0,ptr b2,ptr b3]) zS (by simp [go_sem]) ?_
  refine (j9 b1 b0 b2 b3 _).mono ?_;rintro e u' w21 ⟨rfl,rfl,rfl⟩;refine ⟨_,iH (p:=4) (q:=5) (t:=6) (t1:=67) (t2:=70) (t3:=4) rfl _ _ b1 b2 b3 bW (br val is 0 aH (.slice G z'.gone.length c)) (0,0) (0,0) _ _ _ rfl rfl rfl k1 k2 bU rfl zK aI rfl zK (ky _ b3 true k3),?_⟩;exact ⟨.inr ⟨val,is,aH,z',_,HP.out.1,rfl,qt⟩,fa⟩
theorem gI (th me a:Int) (x:CPh) (z:Pz) (l:Log):hZ th me a x z l=doR (x.acc me a) z (fun r _ l'=>eR th me a (x.stp th a z r) l') l:=by
 cases l with
 | nil=>rfl
 | cons r l=>exact vd th me a x z r l
theorem j8 (th me a:Int) (k:CK) (y:SX) (f:Ret->Pz->CX) (l:Log) (hf:∀ t s,f t s=sy t s k):eR th me a (y.qS k f) l=eM th me (fun t z l=>eR th me a (sy t z k) l) y l:=by
 cases y with
 | go x z=>exact o9 th me a k l x z
 | ret t z=>show eR th me a (f t z) l=eR th me a (sy t z k) l;rw [hf]
 | stuck=>rfl
section
variable {w:World} {k:Pk} {z:Pz} {log:Log} {q:An Out}
theorem Oh (th a n bF:Int) (h:df w k z log) (hn:n<=9223372036854775807) (ha:0<=a/\a < 4294967296) (hq:q=hZ th k.me a (.fl n bF 0) z (log.drop z.made)):
  Calls aw 154 #[ptr k.gp,aa ab n,aa ab a] w (ki k q w fun u w'=>∃ z':Pz,u= .tuple #[]/\df w' k z' log/\z.made<=z'.made/\q=hZ th k.me a (.s6 n bF) z' (log.drop z'.made)):=by
 have HQ:=ar hq;have lp:=h.lt;clear hq;go_enter Tryz.func154,Tryz.ntmps154
 go_wp2_with fail
 (with_reducible refine (gY n 0 h hn).mono ?_)
 rintro e w1 ⟨rfl,hb⟩;replace h:=h.ay hb;have aG:=Stp.aS k.gp hb;clear hb
 go_wp2_with fail
 (with_reducible refine (js (.nd n 0) (nodeAt k.l n 0) 0 (fun r _ l'=>eR th k.me a (CPh.stp th a z (.fl n bF 0) r) l') h rfl (HQ.out.trans (gI _ _ _ _ _ _))).mono ?_)
 rintro e w2 (⟨x,h1,rfl,h3⟩ | ⟨v,rfl,⟨⟨x1,x2⟩,hx,rfl,hp,ei⟩,dB⟩)
 ·exact ⟨rfl,.inl ⟨x,h1,rfl,aG.trans h3⟩⟩
 replace aG:=aG.trans dB;have lh:=ar (show q=hZ th k.me a (.fl n bF 1) z.got (log.drop z.got.made) from ei)
 clear h dB hx ei HQ lp
 go_wp2_with fail
 (with_reducible refine (gY n 1 hp hn).mono ?_)
 rintro e w3 ⟨rfl,hb⟩;replace hp:=hp.ay hb;replace aG:=aG.trans (Stp.aS k.gp hb);clear hb;have hw:IntKind.i64.wrap (a+2)=a+2:=cV _ zO
 go_wp2_with fail
 (with_reducible refine (js (.nd n 1) (nodeAt k.l n 1) (a+2) (fun r _ l'=>eR th k.me a (CPh.stp th a z.got (.fl n bF 1) r) l') hp rfl (lh.out.trans (gI _ _ _ _ _ _))).mono ?_)
 rintro e w4 (⟨x,h1,rfl,h3⟩ | ⟨v,rfl,⟨⟨y1,y2⟩,hx,rfl,eB,mP⟩,dB⟩)
 ·exact ⟨rfl,.inl ⟨x,h1,rfl,aG.trans h3⟩⟩
 replace aG:=aG.trans dB;have fR:=ar (show q=hZ th k.me a (.fl n bF 2) z.got.got (log.drop z.got.got.made) from mP)
 clear hp dB hx mP lh hw
 go_wp2_with fail
 refine wp_loop_rounds 5 ?_;rw [dI]
 go_wp2_with fail
 (with_reducible refine (gY n 2 eB hn).mono ?_)
 rintro e w5 ⟨rfl,hb⟩;replace eB:=eB.ay hb;replace aG:=aG.trans (Stp.aS k.gp hb);clear hb
 go_wp2_with fail
 (with_reducible refine (js (.nd n 2) (nodeAt k.l n 2) 0 (fun r _ l'=>eR th k.me a (CPh.stp th a z.got.got (.fl n bF 2) r) l') eB rfl (fR.out.trans (gI _ _ _ _ _ _))).mono ?_)
 rintro e w6 (⟨x,h1,rfl,h3⟩ | ⟨v,rfl,⟨⟨y1,y2⟩,hx,rfl,fT,mJ⟩,dB⟩)
 ·exact ⟨rfl,.inl ⟨x,h1,rfl,aG.trans h3⟩⟩
 replace aG:=aG.trans dB;have hY:=ar (show q=hZ th k.me a (.fl n bF 3) z.got.got.got (log.drop z.got.got.got.made) from mJ)
 clear eB dB hx mJ fR
 go_wp2_with fail
 rw [dI]
 go_wp2_with fail
 (with_reducible refine (gY n 3 fT hn).mono ?_)
 rintro e w5 ⟨rfl,hb⟩;replace fT:=fT.ay hb;replace aG:=aG.trans (Stp.aS k.gp hb);clear hb
 go_wp2_with fail
 (with_reducible refine (js (.nd n 3) (nodeAt k.l n 3) 0 (fun r _ l'=>eR th k.me a (CPh.stp th a z.got.got.got (.fl n bF 3) r) l') fT rfl (hY.out.trans (gI _ _ _ _ _ _))).mono ?_)
 rintro e w6 (⟨x,h1,rfl,h3⟩ | ⟨v,rfl,⟨⟨y1,y2⟩,hx,rfl,kz,pq⟩,dB⟩)
 ·exact ⟨rfl,.inl ⟨x,h1,rfl,aG.trans h3⟩⟩
 replace aG:=aG.trans dB;have gK:=ar (show q=hZ th k.me a (.fl n bF 4) z.got.got.got.got (log.drop z.got.got.got.got.made) from pq)
 clear fT dB hx pq hY
 go_wp2_with fail
 rw [dI]
 go_wp2_with fail
 (with_reducible refine (gY n 4 kz hn).mono ?_)
 rintro e w5 ⟨rfl,hb⟩;replace kz:=kz.ay hb;replace aG:=aG.trans (Stp.aS k.gp hb);clear hb
 go_wp2_with fail
 (with_reducible refine (js (.nd n 4) (nodeAt k.l n 4) 0 (fun r _ l'=>eR th k.me a (CPh.stp th a z.got.got.got.got (.fl n bF 4) r) l') kz rfl (gK.out.trans (gI _ _ _ _ _ _))).mono ?_)
 rintro e w6 (⟨x,h1,rfl,h3⟩ | ⟨v,rfl,⟨⟨y1,y2⟩,hx,rfl,mS,Dq⟩,dB⟩)
 ·exact ⟨rfl,.inl ⟨x,h1,rfl,aG.trans h3⟩⟩
 replace aG:=aG.trans dB;have oh:=ar (show q=hZ th k.me a (.fl n bF 5) z.got.got.got.got.got (log.drop z.got.got.got.got.got.made) from Dq)
 clear kz dB hx Dq gK
 go_wp2_with fail
 rw [dI]
 go_wp2_with fail
 (with_reducible refine (gY n 5 mS hn).mono ?_)
 rintro e w5 ⟨rfl,hb⟩;replace mS:=mS.ay hb;replace aG:=aG.trans (Stp.aS k.gp hb);clear hb
 go_wp2_with fail
 (with_reducible refine (js (.nd n 5) (nodeAt k.l n 5) 0 (fun r _ l'=>eR th k.me a (CPh.stp th a z.got.got.got.got.got (.fl n bF 5) r) l') mS rfl (oh.out.trans (gI _ _ _ _ _ _))).mono ?_)
 rintro e w6 (⟨x,h1,rfl,h3⟩ | ⟨v,rfl,⟨⟨y1,y2⟩,hx,rfl,Le,hq6⟩,dB⟩)
 ·exact ⟨rfl,.inl ⟨x,h1,rfl,aG.trans h3⟩⟩
 replace aG:=aG.trans dB;have qF:=ar (show q=hZ th k.me a (.s6 n bF) z.got.got.got.got.got.got (log.drop z.got.got.got.got.got.got.made) from hq6)
 clear mS dB hx hq6 oh
 go_wp2_with fail
 rw [dI]
 go_wp2_with fail
 exact aX (v:=.tuple #[]) (dY rfl _ _ _) rfl (.inr ⟨_,rfl,⟨_,rfl,Le,by show z.made<=z.made+1+1+1+1+1+1;omega,qF.out⟩,aG⟩)
end
def SL (k:Pk) (a:Int) (bp bt bv bm:Nat) (bP:Int) (gb gr:Nat) (ix:Int) (mk:Bool) (ct:Int):List (Nat × bR × Array Value):=
 [(bp,158,#[ptr k.gp]),(bt,3,#[aa ab (fB k.l 0)]),(bv,3,#[aa ab a]),(bm,3,#[aa ab bP]),(gb,70,aZ),(gr,81,#[aa ab ix,.bool mk,aa ab ct])]
theorem SL.set {w:World} {k:Pk} {a:Int} {bp bt bv bm:Nat} {bP:Int} {gb gr:Nat} {ix:Int} {mk:Bool} {ct:Int} (h:Bks w k.gp (SL k a bp bt bv bm bP gb gr ix mk ct)) (hn:bp≠bm/\bt≠bm/\bv≠bm/\gb≠bm/\gr≠bm) (n:Int):
  Bks (w.setCell ⟨bm,0,none⟩ (aa ab n)) k.gp (SL k a bp bt bv bm n gb gr ix mk ct):=by
 have g:∀ (i:Nat) (x:Nat × bR × Array Value),(SL k a bp bt bv bm bP gb gr ix mk ct)[i]? =some x->Bk w x.1 x.2.1 x.2.2/\x.1≠k.gp:=fun i x hx=>h x (bX hx)
 have km:Bk (w.setCell ⟨bm,0,none⟩ (aa ab n)) bm 3 #[aa ab n]:=Bk.stored (g 3 _ rfl).1 0 (aa ab n);exact .cons (Bk.other (p:=⟨bm,0,none⟩) (g 0 _ rfl).1 hn.1 _) (g 0 _ rfl).2 (.cons (Bk.other (p:=⟨bm,0,none⟩) (g 1 _ rfl).1 hn.2.1 _) (g 1 _ rfl).2 (.cons (Bk.other (p:=⟨bm,0,none⟩) (g 2 _ rfl).1 hn.2.2.1 _) (g 2 _ rfl).2 (.cons km (g 3 _ rfl).2
  (.cons (Bk.other (p:=⟨bm,0,none⟩) (g 4 _ rfl).1 hn.2.2.2.1 _) (g 4 _ rfl).2 (.cons (Bk.other (p:=⟨bm,0,none⟩) (g 5 _ rfl).1 hn.2.2.2.2 _) (g 5 _ rfl).2 .nil)))))
def SnPost (k:Pk) (th a:Int) (log:Log) (q:An Out) (bm:Nat) (m0:Nat) (u:Value) (w':World):Prop:=
 (∃ val is aH z',q= .fin ⟨val,is,aH,z'.gone⟩/\u= .tuple #[.agg (bu val is 0 aH),ah true]/\df w' k z' log)\/
 (∃ bP z',u= .tuple #[.agg aZ,ah false]/\df w' k z' log/\Bk w' bm 3 #[aa ab bP]/\0<=bP/\bP < 65536/\m0 < z'.made/\q=hZ th k.me a (.sub (.g1 0 .tail) (.sg bP)) z' (log.drop z'.made))
def Kt (k:Pk) (th a:Int) (log:Log) (q:An Out) (L:List (Nat × bR × Array Value)) (bm:Nat) (m0:Nat) (bP bF:Int) (w:World) (v:Value) (wr:World):Prop:=
 ∃ (i:Nat) (z':Pz),v=aa ab (i:Nat)/\i<=5/\df wr k z' log/\cL k.gp bm w wr/\Bks wr k.gp L/\m0 < z'.made/\
  (i < 5->q=hZ th k.me a (.s2 bP bF i) z' (log.drop z'.made))/\(i=5->q=hZ th k.me a (.s4 bP bF) z' (log.drop z'.made))
theorem bI {o:Oper} {a:Act} {x:Operand} {w:World} {ty:bR} {g:Nat} {v:Value} (ho:o.op= .load ty x) (hx:a.eval x=ptr g) (hl:(dr ty ⟨g,0,none⟩).run aw w= .ok v w):(Av a.eval o).run aw w= .ok (.value v) w:=by
 unfold Av;simp only [ho,hx,ptr,Instr.loadAt,xG,di,dx,bQ,hl]
section
variable {w:World} {k:Pk} {z:Pz} {log:Log} {q:An Out}
theorem AP (th a bP bF:Int) (i:Nat) (z':Pz) (hi:i < 5) (hq:q=eR th k.me a (mY bP bF i z') (log.drop z'.made)):
  (i+1 < 5->q=hZ th k.me a (.s2 bP bF (i+1)) z' (log.drop z'.made))/\(i+1=5->q=hZ th k.me a (.s4 bP bF) z' (log.drop z'.made)):=by
 unfold mY at hq
 constructor
 ·intro h;rw [hq,if_pos zO];rfl
 ·intro h;rw [hq,if_neg zO];rfl
theorem ID (th a bP:Int) (bp bt bv bm:Nat) (h:df w k z log) (ha:0<=a/\a < 4294967296) (hm:0<=bP/\bP < 65536) (hn:bp≠bm/\bt≠bm/\bv≠bm) (hg:bp≠k.gp/\bt≠k.gp/\bv≠k.gp/\bm≠k.gp) (hBm:k.B<=bm)
  (kp:Bk w bp 158 #[ptr k.gp]) (kt:Bk w bt 3 #[aa ab (fB k.l 0)]) (kv:Bk w bv 3 #[aa ab a]) (km:Bk w bm 3 #[aa ab bP])
  (hq:q=hZ th k.me a (.sub (.g1 0 .tail) (.sg bP)) z (log.drop z.made)) (gq:q≠ .stuck):
  Calls aw 144 #[ptr bp,ptr bt,ptr bv,ptr bm] w (ji k bm q w (SnPost k th a log q bm z.made)):=by
 have HQ:=ar (hq.trans (o9 _ _ _ _ _ _ _));have HNS:=ar gq;have kb:=Bk.made w 70 aZ;have lpg:=h.lt;have lbm:=km.lt;have aG:=(cL.refl k.gp bm w).alloc (ag aZ 70);replace h:=h.ay (aB (Below.refl _ _) (ag aZ 70));replace kp:=kp.alloc (ag aZ 70);replace kt:=kt.alloc (ag aZ 70);replace kv:=kv.alloc (ag aZ 70);replace km:=km.alloc (ag aZ 70);clear hq gq;go_enter Tryz.func144,Tryz.ntmps144
 go_upto_region 1 with fail
 generalize w.alloc (ag aZ 70)=w1 at *;obtain ⟨gb,mD⟩:∃ x,w.heap.size=x:=⟨_,rfl⟩;have nV:=ar mD;rw [mD] at kb lpg lbm ⊢;clear mD;have cp:=kp.cell 0;have ia:=kp.lt;have ct:=kt.cell 0;have lt0:=kt.lt;simp at cp ct
 go_wp2_with fail
 have hd:Calls aw 145 #[ptr k.gp,aa ab 0,aa ab (fB k.l 0)] w1 _:=yz th 0 .tail (fB k.l 0) _ h zO rfl HQ.out
 (with_reducible refine hd.mono ?_)
 rintro e w2 (⟨x,h1,rfl,h3⟩ | ⟨v,rfl,⟨x1,p,z1,rfl,hp,ei,mV,-⟩,hs⟩)
 ·exact ⟨rfl,.inl ⟨x,h1,rfl,aG.trans h3.two⟩⟩
 replace aG:=aG.trans hs.two;replace kp:=hs.ay kp hg.1;replace kt:=hs.ay kt hg.2.1;replace kv:=hs.ay kv hg.2.2.1;replace km:=hs.ay km hg.2.2.2;replace kb:=hs.ay kb zO;have lh:=ar (show q=hZ th k.me a (.s2 bP x1 0) z1 (log.drop z1.made) from ei)
 have HM1:=ar mV;clear h hd hs ei mV HQ cp ia ct lt0
 go_wp2_with fail
 (with_reducible refine (gV x1 _).mono ?_)
 rintro e w3 ⟨rfl,hb⟩;replace hp:=hp.ay hb;replace aG:=aG.trans (cL.aS _ _ hb);replace kp:=kp.ay hb;replace kt:=kt.ay hb;replace kv:=kv.ay hb;replace km:=km.ay hb;replace kb:=kb.ay hb;clear hb;obtain ⟨ix,jZ⟩:∃ z,x1 % 65536=z:=⟨_,rfl⟩;obtain ⟨mk,mU⟩:∃ b,(x1 / 65536 % 2==1)=b:=⟨_,rfl⟩;obtain ⟨ct,xb⟩:∃ z,x1 / 131072 % 268435456=z:=⟨_,rfl⟩;have L8:0<=ix/\ix < 65536:=zO;rw [jZ,mU,xb];have lj:=ar (au jZ xb);clear jZ mU xb
 go_upto_region 3 with fail
 have kr:=Bk.made w3 81 #[aa ab ix,.bool mk,aa ab ct];have zg3:=hp.lt;have zb3:=kb.lt;have zm3:=km.lt;replace hp:=hp.ay (aB (Below.refl _ _) (ag #[aa ab ix,.bool mk,aa ab ct] 81));replace aG:=aG.alloc (ag #[aa ab ix,.bool mk,aa ab ct] 81);replace kp:=kp.alloc (ag #[aa ab ix,.bool mk,aa ab ct] 81);replace kt:=kt.alloc (ag #[aa ab ix,.bool mk,aa ab ct] 81);replace kv:=kv.alloc (ag #[aa ab ix,.bool mk,aa ab ct] 81);replace km:=km.alloc (ag #[aa ab ix,.bool mk,aa ab ct] 81);replace kb:=kb.alloc (ag #[aa ab ix,.bool mk,aa ab ct] 81);generalize w3.alloc (ag #[aa ab ix,.bool mk,aa ab ct] 81)=w4 at *;obtain ⟨gr,N3⟩:∃ x,w3.heap.size=x:=⟨_,rfl⟩;rw [N3] at kr zg3 zb3 zm3 ⊢;clear N3;have hB:Bks w4 k.gp (SL k a bp bt bv bm bP gb gr ix mk ct):=.cons kp hg.1 (.cons kt hg.2.1 (.cons kv hg.2.2.1 (.cons km hg.2.2.2 (.cons kb zO (.cons kr zO .nil)))));have Lh:bp≠bm/\bt≠bm/\bv≠bm/\gb≠bm/\gr≠bm:=⟨hn.1,hn.2.1,hn.2.2,zO,zO⟩;clear kp kt kv km kb kr;have HR:=ar (show Kt k th a log q (SL k a bp bt bv bm bP gb gr ix mk ct) bm z.made bP x1 w (aa ab 0) w4 from ⟨0,z1,rfl,zO,hp,aG,hB,HM1.out,fun _=>lh.out,fun e=>by cases e⟩)
 clear hp aG hB lh;have JH:=ar (au Lh (au hBm (au hg.2.2.2 hm)));have yR:k.gp<=gb:=zO;have jQ:0<=a/\a < 4294967296:=ha;have zR:0<=bP/\bP < 65536:=hm;clear Lh hn hg hBm lpg lbm zg3 zb3 zm3 ha hm
 go_wp2_with fail
 go_loopw [25] (fun v25 wr=>Kt k th a log q (SL k a bp bt bv bm bP gb gr ix mk ct) bm z.made bP x1 w v25 wr) (fun v25 _=>5 - (intOf v25).toNat)
 case atStart=>exact HR.out
 case round=>
 clear HR;obtain ⟨i,z2,rfl,hi,hp,aG,hB,J7,hqa,hqb⟩:=hrel;have KA:=ar J7;clear J7
 by_cases dN:i < 5
 ·have Ch:=ar (hqa dN);have hib5:decide ((i:Int) < 5)=true:=by simp;omega
  clear hqa hqb;have cp:=(hB.at_ 0 rfl).cell 0;have ia:=(hB.at_ 0 rfl).lt;simp at cp ia;have cr:=(hB.at_ 5 rfl).cell 0;have lr0:=(hB.at_ 5 rfl).lt;simp at cr lr0
  go_wp2_with fail
  (with_reducible refine (gY ix (1+i) hp zO).mono ?_)
  rintro e w5 ⟨rfl,hb⟩;replace hp:=hp.ay hb;replace hB:=hB.ay hb;replace aG:=aG.trans (cL.aS _ _ hb);clear hb;clear cp ia cr lr0;have cp:=(hB.at_ 0 rfl).cell 0;have ia:=(hB.at_ 0 rfl).lt;simp at cp ia
  go_wp2_with fail
  (with_reducible refine (jt (.nd (idxOf x1) (1+i)) (nodeAt k.l ix (1+i)) (fun r _ l'=>eR th k.me a (CPh.stp th a z2 (.s2 bP x1 i) r) l') hp (by rw [<- lj.out.1];simp only [adr,idxOf]) (Ch.out.trans (gI _ _ _ _ _ _))).mono ?_)
  rintro e w6 (⟨x,h1,rfl,h3⟩ | ⟨v,rfl,⟨⟨y1,y2⟩,hy,rfl,eB,mP⟩,dB⟩)
  ·exact ⟨rfl,.inl ⟨x,h1,rfl,aG.trans h3.two⟩⟩
  replace aG:=aG.trans dB.two;replace hB:=hB.stp dB;have fR:=ar mP;clear cp ia;clear hp dB hy mP Ch;have hp:=eB;clear eB
  by_cases hz:y1=0
  ·subst hz;have hY:=ar (show q=hZ th k.me a (.s3 bP x1 i) z2.got (log.drop z2.got.made) from fR.out)
   clear fR;have hw:IntKind.i64.wrap (a+2)=a+2:=cV _ zO;have cp:=(hB.at_ 0 rfl).cell 0;have ia:=(hB.at_ 0 rfl).lt;simp at cp ia;have cv:=(hB.at_ 2 rfl).cell 0;have lv0:=(hB.at_ 2 rfl).lt;simp at cv lv0
   go_wp2_with fail
   (with_reducible refine (pX (.nd (idxOf x1) (1+i)) (nodeAt k.l ix (1+i)) 0 (a+2) (fun r _ l'=>eR th k.me a (CPh.stp th a z2.got (.s3 bP x1 i) r) l') hp (by rw [<- lj.out.1];simp only [adr,idxOf]) (hY.out.trans (gI _ _ _ _ _ _))).mono ?_)
   rintro e w7 (⟨x,h1,rfl,h3⟩ | ⟨v,rfl,⟨⟨t1,t2⟩,hy,rfl,fT,mJ⟩,lV⟩)
   ·exact ⟨rfl,.inl ⟨x,h1,rfl,aG.trans h3.two⟩⟩
   replace aG:=aG.trans lV.two;replace hB:=hB.stp lV;have gK:=ar mJ;clear cp ia cv lv0;clear hp lV hy mJ hY hw;have hp:=fT;clear fT
   cases t2 with
   | false=>
    have lJ:=AP th a bP x1 i z2.got.got dN gK.out;have HR:=ar (show Kt k th a log q (SL k a bp bt bv bm bP gb gr ix mk ct) bm z.made bP x1 w (aa ab ((i+1:Nat):Int)) w7 from ⟨i+1,_,rfl,zO,hp,aG,hB,by have:=KA.out;show z.made < z2.made+1+1;omega,lJ.1,lJ.2⟩)
    clear hp aG hB lJ gK
    go_wp2_with fail
    go_roundw
    case rel=>exact HR.out
    case measure=>simp [intOf];omega
   | true=>
    obtain ⟨pm,qI⟩:∃ x,z2.got.made=x:=⟨_,rfl⟩;have HPM:=ar qI;have mV:((z2.got.got.made - 1:Nat):Int)=(pm:Nat):=by rw [<- qI];show ((z2.got.made+1 - 1:Nat):Int)=_;rw [Nat.add_sub_cancel]
    clear qI;have cp:=(hB.at_ 0 rfl).cell 0;have ia:=(hB.at_ 0 rfl).lt;simp at cp ia
    go_upto_region 8 with fail
    go_wp2_with fail
    (with_reducible refine (ly hp (fu _ _)).mono ?_)
    rintro e w8 ⟨rfl,rfl⟩;rw [mV];clear mV;clear cp ia
    by_cases L7:bP=0
    ·have oh:=ar ((show q=eR th k.me a (lN 0 true (pm:Nat) z2.got.got) (log.drop z2.got.got.made) by
      rw [gK.out,<- HPM.out];simp only [CPh.stp];rw [if_pos trivial,if_neg (by simpa using L7)]
      rfl).trans (j8 th k.me a (.oc ⟨0,true,(pm:Nat),[]⟩) (dK z2.got.got 0) _ _ (fun _ _=>rfl)))
     have hmb:(bP != 0)=false:=by simp [L7]
     clear gK;have cm:=(hB.at_ 3 rfl).cell 0;have J3:=(hB.at_ 3 rfl).lt;simp at cm J3
     go_upto_region 11 with fail
     clear hmb;clear cm J3;have cp:=(hB.at_ 0 rfl).cell 0;have ia:=(hB.at_ 0 rfl).lt;simp at cp ia
     go_wp2_with fail
     (with_reducible refine (iJ th _ hp oh.out).mono ?_)
     rintro e wc (⟨x,h1,rfl,h3⟩ | ⟨v,rfl,⟨zc,rfl,uK,sH⟩,tT⟩)
     ·exact ⟨rfl,.inl ⟨x,h1,rfl,aG.trans h3.two⟩⟩
     replace aG:=aG.trans tT.two;replace hB:=hB.stp tT;have zJ:=ar (show q= .fin ⟨0,true,(pm:Nat),zc.gone⟩ from sH)
     clear cp ia;clear hp tT sH
     rename df wc k zc log=>hp
     go_wp2_with (refine aK rfl 70 (.tmp 4) (.tmp 55) rfl rfl gb (bu 0 true 0 (pm:Nat)) rfl rfl 70 aZ (hB.at_ 4 rfl) zK rfl (by simp [aD]) ?_)
     have lI:=hp.dR (hB.at_ 4 rfl) yR (bu 0 true 0 (pm:Nat));have BH:=Bk.bL (hB.at_ 4 rfl) (bu 0 true 0 (pm:Nat));replace aG:=aG.row (b:=gb) (.inl (by rw [nV.out];omega)) (bu 0 true 0 (pm:Nat))
     exact aX (v:=.tuple #[.agg (bu 0 true 0 (pm:Nat)),ah true]) (gT (p:=4) (t:=5) (t1:=70) rfl _ _ gb _ (0,0) _ _ rfl rfl BH aI rfl zK) rfl (.inr ⟨_,rfl,.inl ⟨_,_,_,_,zJ.out,rfl,lI⟩,aG⟩)
    ·have oh:=ar ((show q=hZ th k.me a (.sub (.v1 bP) (.sv pm)) z2.got.got (log.drop z2.got.got.made) by
      rw [gK.out,<- HPM.out];simp only [CPh.stp];rw [if_pos trivial,if_pos (by simpa using L7)]
      rfl).trans (o9 _ _ _ _ _ _ _))
     have hmb:(bP != 0)=true:=by simp [L7]
     clear gK;have cm:=(hB.at_ 3 rfl).cell 0;have J3:=(hB.at_ 3 rfl).lt;simp at cm J3;have cp:=(hB.at_ 0 rfl).cell 0;have ia:=(hB.at_ 0 rfl).lt;simp at cp ia
     go_upto_region 10 with fail
     clear hmb
     go_wp2_with fail
     (with_reducible refine (M0 th bP _ hp zO oh.out).mono ?_)
     rintro e wg (⟨x,h1,rfl,h3⟩ | ⟨v,rfl,⟨zg,rfl,uK,hqg,-⟩,hsg⟩)
     ·exact ⟨rfl,.inl ⟨x,h1,rfl,aG.trans h3.two⟩⟩
     replace aG:=aG.trans hsg.two;replace hB:=hB.stp hsg;have qF:=ar ((show q=eR th k.me a (lN 0 true (pm:Nat) zg) (log.drop zg.made) from hqg).trans (j8 th k.me a (.oc ⟨0,true,(pm:Nat),[]⟩) (dK zg 0) _ _ (fun _ _=>rfl)))
     clear cm J3 cp ia;clear hp hsg hqg oh
     rename df wg k zg log=>hp
     have cp:=(hB.at_ 0 rfl).cell 0;have ia:=(hB.at_ 0 rfl).lt;simp at cp ia
     go_wp2_with fail
     (with_reducible refine (iJ th _ hp qF.out).mono ?_)
     rintro e wc (⟨x,h1,rfl,h3⟩ | ⟨v,rfl,⟨zc,rfl,uK,sH⟩,tT⟩)
     ·exact ⟨rfl,.inl ⟨x,h1,rfl,aG.trans h3.two⟩⟩
     replace aG:=aG.trans tT.two;replace hB:=hB.stp tT;have zJ:=ar (show q= .fin ⟨0,true,(pm:Nat),zc.gone⟩ from sH)
     clear cp ia;clear hp tT sH
     rename df wc k zc log=>hp
     go_wp2_with (refine aK rfl 70 (.tmp 4) (.tmp 55) rfl rfl gb (bu 0 true 0 (pm:Nat)) rfl rfl 70 aZ (hB.at_ 4 rfl) zK rfl (by simp [aD]) ?_)
     have lI:=hp.dR (hB.at_ 4 rfl) yR (bu 0 true 0 (pm:Nat));have BH:=Bk.bL (hB.at_ 4 rfl) (bu 0 true 0 (pm:Nat));replace aG:=aG.row (b:=gb) (.inl (by rw [nV.out];omega)) (bu 0 true 0 (pm:Nat))
     exact aX (v:=.tuple #[.agg (bu 0 true 0 (pm:Nat)),ah true]) (gT (p:=4) (t:=5) (t1:=70) rfl _ _ gb _ (0,0) _ _ rfl rfl BH aI rfl zK) rfl (.inr ⟨_,rfl,.inl ⟨_,_,_,_,zJ.out,rfl,lI⟩,aG⟩)
  ·have lJ:=AP th a bP x1 i z2.got dN (show q=eR th k.me a (mY bP x1 i z2.got) (log.drop z2.got.made) by
    rw [fR.out];simp only [CPh.stp];rw [if_neg (by simpa using hz)]
    rfl)
   have HR:=ar (show Kt k th a log q (SL k a bp bt bv bm bP gb gr ix mk ct) bm z.made bP x1 w (aa ab ((i+1:Nat):Int)) w6 from ⟨i+1,_,rfl,zO,hp,aG,hB,by have:=KA.out;show z.made < z2.made+1;omega,lJ.1,lJ.2⟩)
   have sZ:(y1==0)=false:=by simp [hz]
   clear hp aG hB lJ fR hz
   go_wp2_with fail
   go_roundw
   case rel=>exact HR.out
   case measure=>simp [intOf];omega
 ·have yQ:i=5:=zO;subst yQ;have Ch:=ar (hqb rfl);clear hqa hqb dN hi
  go_upto_region 14 with fail
  refine aP (S:=fun w'=>Bks w' k.gp (SL k a bp bt bv bm bP gb gr ix mk ct)) (E:=fun _=>false) zK ?_
  replace hp:df wr.drew k _ log:=hp.ay (aU (Below.refl wr.heap.size wr));replace aG:=aG.drew;replace hB:=hB.drew;generalize wr.drew=wrd at *;refine wTk 4 [(0,57,ptr k.gp),(1,58,ptr k.gp),(2,59,ae (some ⟨gr,0,none⟩)),(3,60,aa ab ix)] ?_ hB ?_
  ·intro w' hS;have cp:=(hS.at_ 0 rfl).cell 0;simp at cp;have cr:=(hS.at_ 5 rfl).cell 0;simp at cr;have fg:(dr 81 ⟨gr,0,none⟩).run aw w'= .ok (oL ix mk ct) w':=be w' gr 81 81 #[aa ab ix,.bool mk,aa ab ct] (0,0) _ (hS.at_ 5 rfl) Tryz.underlying81 rfl zK
   (repeat' (first | exact aC | refine au ⟨_,rfl,.inl ⟨rfl,?_⟩⟩ ?_))
   all_goals first | exact bI rfl rfl fg | ((try simp only [aq,ao,an,Act.put,aj,ak,al]);go_simp;done)
  simp only [aR,Act.put,aj,ak,al];refine aE (i:=4) (o:=_) zK rfl (fun K hK=>?_)
  (try simp only [aq,ao,an])
  go_simp
  (with_reducible refine (gY ix 0 hp zO).mono ?_)
  rintro e w5 ⟨rfl,hb⟩;replace hp:=hp.ay hb;replace hB:=hB.ay hb;replace aG:=aG.trans (cL.aS _ _ hb);clear hb;refine hK.out _ _ (fun _=>hB) ?_
  clear hK K
  (try simp only [Act.put,aj,ak,al])
  refine aE (i:=5) (o:=_) zK rfl (fun K hK=>?_)
  (try simp only [aq,ao,an])
  go_simp
  (with_reducible refine (jt (.nd (idxOf x1) 0) (nodeAt k.l ix 0) (fun r _ l'=>eR th k.me a (CPh.stp th a z2 (.s4 bP x1) r) l') hp (by rw [<- lj.out.1];simp only [adr,idxOf]) (Ch.out.trans (gI _ _ _ _ _ _))).mono ?_)
  rintro e w6 (⟨x,h1,rfl,h3⟩ | ⟨v,rfl,⟨⟨nx,nx2⟩,hy,rfl,eB,mP⟩,dB⟩)
  ·exact ⟨rfl,.inl ⟨x,h1,rfl,aG.trans h3.two⟩⟩
  replace aG:=aG.trans dB.two;replace hB:=hB.stp dB;have fR:=ar mP;clear hp dB hy mP Ch;have hp:=eB;clear eB;refine hK.out _ _ (fun _=>hB) ?_
  clear hK K
  (try simp only [Act.put,aj,ak,al])
  refine wTk 1 [(6,12,aa ab nx)] ?_ hB ?_
  ·intro w' hS;have fg:(dr 81 ⟨gr,0,none⟩).run aw w'= .ok (oL ix mk ct) w':=be w' gr 81 81 #[aa ab ix,.bool mk,aa ab ct] (0,0) _ (hS.at_ 5 rfl) Tryz.underlying81 rfl zK
   (repeat' (first | exact aC | refine au ⟨_,rfl,.inl ⟨rfl,?_⟩⟩ ?_))
   all_goals first | exact bI rfl rfl fg | ((try simp only [aq,ao,an,Act.put,aj,ak,al]);go_simp;done)
  simp only [aR,Act.put,aj,ak,al];refine aN zK ?_ _
  by_cases hz:nx=0
  ·have sZ:(nx != 0)=false:=by simp [hz]
   by_cases L7:bP=0
   ·subst L7;have hY:=ar ((show q=hZ th k.me a (.sub .t1 (.st x1)) z2.got (log.drop z2.got.made) by
     rw [fR.out];simp only [CPh.stp];rw [if_neg (by simpa using hz),if_pos trivial]
     rfl).trans (o9 _ _ _ _ _ _ _))
    clear fR hz;have cm:=(hB.at_ 3 rfl).cell 0;have J3:=(hB.at_ 3 rfl).lt;simp at cm J3;have cp:=(hB.at_ 0 rfl).cell 0;have ia:=(hB.at_ 0 rfl).lt;simp at cp ia
    go_upto_region 19 with fail
    go_wp2_with fail
    (with_reducible refine (MY th _ hp hY.out).mono ?_)
    rintro e w7 (⟨x,h1,rfl,h3⟩ | ⟨v,rfl,⟨n,p2,ok,z3,rfl,eB,mJ,vt,A3,hm3⟩,dB⟩)
    ·exact ⟨rfl,.inl ⟨x,h1,rfl,aG.trans h3.two⟩⟩
    replace aG:=aG.trans dB.two;replace hB:=hB.stp dB;have gK:=ar mJ;have Er:=ar (show z2.made+1<=z3.made from hm3)
    clear cm J3 cp ia;clear hp dB mJ hY hm3 sZ;have hp:=eB;clear eB
    cases ok with
    | false=>exact absurd gK.out HNS.out
    | true=>
    have oh:=ar (show q=hZ th k.me a (.fl n x1 0) z3 (log.drop z3.made) from gK.out)
    clear gK
    go_upto_region 23 with fail
    have cm:=(hB.at_ 3 rfl).cell 0;have fm:=(hB.at_ 3 rfl).free 0;have lm:=(hB.at_ 3 rfl).lt;simp at cm lm
    go_upto_region 24 with fail
    clear cm fm lm;replace hp:=hp.rB (show Bk w7 bm 3 #[aa ab 0] from hB.at_ 3 rfl) JH.out.2.1 zD 0 (aa ab n)
    have hB2:=SL.set hB JH.out.1 n;replace aG:=aG.cell (p:=⟨bm,0,none⟩) (.inr (.inr rfl)) (aa ab n);clear hB;have hB:=hB2;clear hB2;generalize w7.setCell ⟨bm,0,none⟩ (aa ab n)=w8 at *;have cp:=(hB.at_ 0 rfl).cell 0;have ia:=(hB.at_ 0 rfl).lt;simp at cp ia;have cm:=(hB.at_ 3 rfl).cell 0;have J3:=(hB.at_ 3 rfl).lt;simp at cm J3;have cv:=(hB.at_ 2 rfl).cell 0;have lv0:=(hB.at_ 2 rfl).lt;simp at cv lv0
    go_wp2_with fail
    (with_reducible refine (Oh th a n x1 hp zO jQ oh.out).mono ?_)
    rintro e w9 (⟨x,h1,rfl,h3⟩ | ⟨v,rfl,⟨z4,rfl,eB,hm4,pq⟩,dB⟩)
    ·exact ⟨rfl,.inl ⟨x,h1,rfl,aG.trans h3.two⟩⟩
    replace aG:=aG.trans dB.two;replace hB:=hB.stp dB;have qF:=ar pq;have HM4:=ar hm4;clear cp ia cm J3 cv lv0;clear hp dB pq oh hm4;have hp:=eB;clear eB
    go_upto_region 25 with fail
    refine aP (S:=fun w'=>Bks w' k.gp (SL k a bp bt bv bm n gb gr ix mk ct)) (E:=fun _=>false) zK ?_
    replace hp:df w9.drew k _ log:=hp.ay (aU (Below.refl w9.heap.size w9));replace aG:=aG.drew;replace hB:=hB.drew;generalize w9.drew=w9d at *;refine wTk 5 [(0,93,ptr k.gp),(1,94,ptr k.gp),(2,95,ae (some ⟨gr,0,none⟩)),(3,96,aa ab ix),(5,98,aa ab n)] ?_ hB ?_
    ·intro w' hS;have cp:=(hS.at_ 0 rfl).cell 0;simp at cp;have cr:=(hS.at_ 5 rfl).cell 0;simp at cr;have cm:=(hS.at_ 3 rfl).cell 0;simp at cm;have fg:(dr 81 ⟨gr,0,none⟩).run aw w'= .ok (oL ix mk ct) w':=be w' gr 81 81 #[aa ab ix,.bool mk,aa ab ct] (0,0) _ (hS.at_ 5 rfl) Tryz.underlying81 rfl zK
     (repeat' (first | exact aC | refine au ⟨_,rfl,.inl ⟨rfl,?_⟩⟩ ?_))
     all_goals first | exact bI rfl rfl fg | ((try simp only [aq,ao,an,Act.put,aj,ak,al]);go_simp;done)
    simp only [aR,Act.put,aj,ak,al];refine aE (i:=4) (o:=_) zK rfl (fun K hK=>?_)
    (try simp only [aq,ao,an])
    go_simp
    (with_reducible refine (gY ix 0 hp zO).mono ?_)
    rintro e wa ⟨rfl,hb⟩;replace hp:=hp.ay hb;replace hB:=hB.ay hb;replace aG:=aG.trans (cL.aS _ _ hb);clear hb;refine hK.out _ _ (fun _=>hB) ?_
    clear hK K
    (try simp only [Act.put,aj,ak,al])
    refine aE (i:=6) (o:=_) zK rfl (fun K hK=>?_)
    (try simp only [aq,ao,an])
    go_simp
    (with_reducible refine (pX (.nd (idxOf x1) 0) (nodeAt k.l ix 0) 0 n (fun r _ l'=>eR th k.me a (CPh.stp th a (z4) (.s6 n x1) r) l') hp (by rw [<- lj.out.1];simp only [adr,idxOf]) (qF.out.trans (gI _ _ _ _ _ _))).mono ?_)
    rintro e wb (⟨x,h1,rfl,h3⟩ | ⟨v,rfl,⟨⟨s1,s2⟩,hy,rfl,eB,NV⟩,dB⟩)
    ·exact ⟨rfl,.inl ⟨x,h1,rfl,aG.trans h3.two⟩⟩
    replace aG:=aG.trans dB.two;replace hB:=hB.stp dB;have tV:=ar NV;clear hp dB hy NV;have hp:=eB;clear eB;refine hK.out _ _ (fun _=>hB) ?_
    clear hK K
    (try simp only [Act.put,aj,ak,al])
    refine wTk 1 [(7,100,ah (!s2))] ?_ hB ?_
    ·intro w' hS;have fg:(dr 81 ⟨gr,0,none⟩).run aw w'= .ok (oL ix mk ct) w':=be w' gr 81 81 #[aa ab ix,.bool mk,aa ab ct] (0,0) _ (hS.at_ 5 rfl) Tryz.underlying81 rfl zK
     (repeat' (first | exact aC | refine au ⟨_,rfl,.inl ⟨rfl,?_⟩⟩ ?_))
     all_goals first | exact bI rfl rfl fg | ((try simp only [aq,ao,an,Act.put,aj,ak,al]);go_simp;done)
    simp only [aR,Act.put,aj,ak,al];refine aN zK ?_ _
    cases s2 with
    | false=>
     go_wp2_with (refine aK rfl 70 (.tmp 4) (.tmp 101) rfl rfl gb aZ rfl rfl 70 aZ (hB.at_ 4 rfl) zK rfl (by simp [aD]) ?_)
     have lI:=hp.dR (hB.at_ 4 rfl) yR aZ;have BH:=Bk.bL (hB.at_ 4 rfl) aZ;have hgm:bm≠gb:=fun e=>JH.out.1.2.2.2.1 e.symm
     have km9:=Bk.a7 (hB.at_ 3 rfl) hgm aZ;replace aG:=aG.row (b:=gb) (.inl (by rw [nV.out];omega)) aZ
     exact aX (v:=.tuple #[.agg aZ,ah false]) (gT (p:=4) (t:=5) (t1:=70) rfl _ _ gb _ (0,0) _ _ rfl rfl BH aI rfl zK) rfl (.inr ⟨_,rfl,.inr ⟨n,_,rfl,lI,km9,vt,A3,by have h1:=KA.out;have h2:=Er.out;have h3:=HM4.out;show z.made < z4.made+1;omega,tV.out⟩,aG⟩)
    | true=>
     obtain ⟨pm,qI⟩:∃ x,(z4).made=x:=⟨_,rfl⟩;have mV:(((z4).got.made - 1:Nat):Int)=(pm:Nat):=by rw [<- qI];show (((z4).made+1 - 1:Nat):Int)=_;rw [Nat.add_sub_cancel]
     have Cv:=ar (show q=hZ th k.me a (.s7 n x1 pm) (z4).got (log.drop (z4).got.made) by rw [<- qI];exact tV.out)
     clear qI tV;have cp:=(hB.at_ 0 rfl).cell 0;have ia:=(hB.at_ 0 rfl).lt;simp at cp ia
     go_upto_region 27 with fail
     go_wp2_with fail
     (with_reducible refine (ly hp (fu _ _)).mono ?_)
     rintro e we ⟨rfl,rfl⟩;rw [mV];clear mV;clear cp ia
     go_upto_region 28 with fail
     refine aP (S:=fun w'=>Bks w' k.gp (SL k a bp bt bv bm n gb gr ix mk ct)) (E:=fun _=>false) zK ?_
     replace hp:df we.drew k _ log:=hp.ay (aU (Below.refl we.heap.size we));replace aG:=aG.drew;replace hB:=hB.drew;generalize we.drew=wed at *;refine wTk 5 [(0,104,ptr k.gp),(1,105,aa ab (fB k.l 0)),(2,106,aa ab x1),(3,107,oL ix mk ct),(4,108,aa ab n)] ?_ hB ?_
     ·intro w' hS;have cp:=(hS.at_ 0 rfl).cell 0;simp at cp;have td:=(hS.at_ 1 rfl).cell 0;simp at td;have cm:=(hS.at_ 3 rfl).cell 0;simp at cm;have fg:(dr 81 ⟨gr,0,none⟩).run aw w'= .ok (oL ix mk ct) w':=be w' gr 81 81 #[aa ab ix,.bool mk,aa ab ct] (0,0) _ (hS.at_ 5 rfl) Tryz.underlying81 rfl zK
      (repeat' (first | exact aC | refine au ⟨_,rfl,.inl ⟨rfl,?_⟩⟩ ?_))
      all_goals first | exact bI rfl rfl fg | ((try simp only [aq,ao,an,Act.put,aj,ak,al]);go_simp;done)
     simp only [aR,Act.put,aj,ak,al];refine aE (i:=5) (o:=_) zK rfl (fun K hK=>?_)
     (try simp only [aq,ao,an])
     go_simp
     (with_reducible refine (lZ ix mk ct n _).mono ?_)
     rintro e wf ⟨rfl,hb⟩;replace hp:=hp.ay hb;replace hB:=hB.ay hb;replace aG:=aG.trans (cL.aS _ _ hb);clear hb;refine hK.out _ _ (fun _=>hB) ?_
     clear hK K
     (try simp only [Act.put,aj,ak,al])
     refine aE (i:=6) (o:=_) zK rfl (fun K hK=>?_)
     (try simp only [aq,ao,an])
     go_simp
     (with_reducible refine (iy (n % 65536) false ((ct+1) % 268435456) _).mono ?_)
     rintro e wg ⟨rfl,hb⟩;replace hp:=hp.ay hb;replace hB:=hB.ay hb;replace aG:=aG.trans (cL.aS _ _ hb);clear hb;have AX:dS (n % 65536) false ((ct+1) % 268435456)=ed x1 n:=by unfold ed mM;rw [lj.out.2]
     rw [AX];clear AX;refine hK.out _ _ (fun _=>hB) ?_
     clear hK K
     (try simp only [Act.put,aj,ak,al])
     refine aE (i:=7) (o:=_) zK rfl (fun K hK=>?_)
     (try simp only [aq,ao,an])
     go_simp
     (with_reducible refine (pX .tail (fB k.l 0) x1 (ed x1 n) (fun r _ l'=>eR th k.me a (CPh.stp th a (z4).got (.s7 n x1 pm) r) l') hp rfl (Cv.out.trans (gI _ _ _ _ _ _))).mono ?_)
     rintro e wh (⟨x,h1,rfl,h3⟩ | ⟨v,rfl,⟨⟨s3,s4⟩,hy,rfl,eB,hq9⟩,dB⟩)
     ·exact ⟨rfl,.inl ⟨x,h1,rfl,aG.trans h3.two⟩⟩
     replace aG:=aG.trans dB.two;replace hB:=hB.stp dB;have As:=ar ((show q=eR th k.me a (lN 0 true (pm:Nat) (z4).got.got) (log.drop (z4).got.got.made) from hq9).trans (j8 th k.me a (.oc ⟨0,true,(pm:Nat),[]⟩) (dK (z4).got.got 0) _ _ (fun _ _=>rfl)))
     clear hp dB hy hq9;have hp:=eB;clear eB;refine hK.out _ _ (fun _=>hB) ?_
     clear hK K
     (try simp only [Act.put,aj,ak,al])
     refine aN zK ?_ _
     go_upto_region 29 with fail
     have cp:=(hB.at_ 0 rfl).cell 0;have ia:=(hB.at_ 0 rfl).lt;simp at cp ia
     go_wp2_with fail
     (with_reducible refine (iJ th _ hp As.out).mono ?_)
     rintro e wc (⟨x,h1,rfl,h3⟩ | ⟨v,rfl,⟨zc,rfl,uK,sH⟩,tT⟩)
     ·exact ⟨rfl,.inl ⟨x,h1,rfl,aG.trans h3.two⟩⟩
     replace aG:=aG.trans tT.two;replace hB:=hB.stp tT;have zJ:=ar (show q= .fin ⟨0,true,(pm:Nat),zc.gone⟩ from sH)
     clear cp ia;clear hp tT sH
     rename df wc k zc log=>hp
     go_wp2_with (refine aK rfl 70 (.tmp 4) (.tmp 115) rfl rfl gb (bu 0 true 0 (pm:Nat)) rfl rfl 70 aZ (hB.at_ 4 rfl) zK rfl (by simp [aD]) ?_)
     have lI:=hp.dR (hB.at_ 4 rfl) yR (bu 0 true 0 (pm:Nat));have BH:=Bk.bL (hB.at_ 4 rfl) (bu 0 true 0 (pm:Nat));replace aG:=aG.row (b:=gb) (.inl (by rw [nV.out];omega)) (bu 0 true 0 (pm:Nat))
     exact aX (v:=.tuple #[.agg (bu 0 true 0 (pm:Nat)),ah true]) (gT (p:=4) (t:=5) (t1:=70) rfl _ _ gb _ (0,0) _ _ rfl rfl BH aI rfl zK) rfl (.inr ⟨_,rfl,.inl ⟨_,_,_,_,zJ.out,rfl,lI⟩,aG⟩)
   ·have qF:=ar (show q=hZ th k.me a (.s6 bP x1) z2.got (log.drop z2.got.made) by
     rw [fR.out];simp only [CPh.stp];rw [if_neg (by simpa using hz),if_neg L7]
     rfl)
    have hmb:(bP==0)=false:=by simp [L7]
    clear fR hz L7;have cm:=(hB.at_ 3 rfl).cell 0;have J3:=(hB.at_ 3 rfl).lt;simp at cm J3
    go_upto_region 18 with fail
    go_upto_region 25 with fail
    clear hmb sZ;clear cm J3
    go_upto_region 25 with fail
    refine aP (S:=fun w'=>Bks w' k.gp (SL k a bp bt bv bm bP gb gr ix mk ct)) (E:=fun _=>false) zK ?_
    replace hp:df w6.drew k _ log:=hp.ay (aU (Below.refl w6.heap.size w6));replace aG:=aG.drew;replace hB:=hB.drew;generalize w6.drew=w6d at *;refine wTk 5 [(0,93,ptr k.gp),(1,94,ptr k.gp),(2,95,ae (some ⟨gr,0,none⟩)),(3,96,aa ab ix),(5,98,aa ab bP)] ?_ hB ?_
    ·intro w' hS;have cp:=(hS.at_ 0 rfl).cell 0;simp at cp;have cr:=(hS.at_ 5 rfl).cell 0;simp at cr;have cm:=(hS.at_ 3 rfl).cell 0;simp at cm;have fg:(dr 81 ⟨gr,0,none⟩).run aw w'= .ok (oL ix mk ct) w':=be w' gr 81 81 #[aa ab ix,.bool mk,aa ab ct] (0,0) _ (hS.at_ 5 rfl) Tryz.underlying81 rfl zK
     (repeat' (first | exact aC | refine au ⟨_,rfl,.inl ⟨rfl,?_⟩⟩ ?_))
     all_goals first | exact bI rfl rfl fg | ((try simp only [aq,ao,an,Act.put,aj,ak,al]);go_simp;done)
    simp only [aR,Act.put,aj,ak,al];refine aE (i:=4) (o:=_) zK rfl (fun K hK=>?_)
    (try simp only [aq,ao,an])
    go_simp
    (with_reducible refine (gY ix 0 hp zO).mono ?_)
    rintro e wa ⟨rfl,hb⟩;replace hp:=hp.ay hb;replace hB:=hB.ay hb;replace aG:=aG.trans (cL.aS _ _ hb);clear hb;refine hK.out _ _ (fun _=>hB) ?_
    clear hK K
    (try simp only [Act.put,aj,ak,al])
    refine aE (i:=6) (o:=_) zK rfl (fun K hK=>?_)
    (try simp only [aq,ao,an])
    go_simp
    (with_reducible refine (pX (.nd (idxOf x1) 0) (nodeAt k.l ix 0) 0 bP (fun r _ l'=>eR th k.me a (CPh.stp th a (z2.got) (.s6 bP x1) r) l') hp (by rw [<- lj.out.1];simp only [adr,idxOf]) (qF.out.trans (gI _ _ _ _ _ _))).mono ?_)
    rintro e wb (⟨x,h1,rfl,h3⟩ | ⟨v,rfl,⟨⟨s1,s2⟩,hy,rfl,eB,NV⟩,dB⟩)
    ·exact ⟨rfl,.inl ⟨x,h1,rfl,aG.trans h3.two⟩⟩
    replace aG:=aG.trans dB.two;replace hB:=hB.stp dB;have tV:=ar NV;clear hp dB hy NV;have hp:=eB;clear eB;refine hK.out _ _ (fun _=>hB) ?_
    clear hK K
    (try simp only [Act.put,aj,ak,al])
    refine wTk 1 [(7,100,ah (!s2))] ?_ hB ?_
    ·intro w' hS;have fg:(dr 81 ⟨gr,0,none⟩).run aw w'= .ok (oL ix mk ct) w':=be w' gr 81 81 #[aa ab ix,.bool mk,aa ab ct] (0,0) _ (hS.at_ 5 rfl) Tryz.underlying81 rfl zK
     (repeat' (first | exact aC | refine au ⟨_,rfl,.inl ⟨rfl,?_⟩⟩ ?_))
     all_goals first | exact bI rfl rfl fg | ((try simp only [aq,ao,an,Act.put,aj,ak,al]);go_simp;done)
    simp only [aR,Act.put,aj,ak,al];refine aN zK ?_ _
    cases s2 with
    | false=>
     go_wp2_with (refine aK rfl 70 (.tmp 4) (.tmp 101) rfl rfl gb aZ rfl rfl 70 aZ (hB.at_ 4 rfl) zK rfl (by simp [aD]) ?_)
     have lI:=hp.dR (hB.at_ 4 rfl) yR aZ;have BH:=Bk.bL (hB.at_ 4 rfl) aZ;have hgm:bm≠gb:=fun e=>JH.out.1.2.2.2.1 e.symm
     have km9:=Bk.a7 (hB.at_ 3 rfl) hgm aZ;replace aG:=aG.row (b:=gb) (.inl (by rw [nV.out];omega)) aZ
     exact aX (v:=.tuple #[.agg aZ,ah false]) (gT (p:=4) (t:=5) (t1:=70) rfl _ _ gb _ (0,0) _ _ rfl rfl BH aI rfl zK) rfl (.inr ⟨_,rfl,.inr ⟨bP,_,rfl,lI,km9,zR.1,zR.2,by have h1:=KA.out;show z.made < z2.made+1+1;omega,tV.out⟩,aG⟩)
    | true=>
     obtain ⟨pm,qI⟩:∃ x,(z2.got).made=x:=⟨_,rfl⟩;have mV:(((z2.got).got.made - 1:Nat):Int)=(pm:Nat):=by rw [<- qI];show (((z2.got).made+1 - 1:Nat):Int)=_;rw [Nat.add_sub_cancel]
     have Cv:=ar (show q=hZ th k.me a (.s7 bP x1 pm) (z2.got).got (log.drop (z2.got).got.made) by rw [<- qI];exact tV.out)
     clear qI tV;have cp:=(hB.at_ 0 rfl).cell 0;have ia:=(hB.at_ 0 rfl).lt;simp at cp ia
     go_upto_region 27 with fail
     go_wp2_with fail
     (with_reducible refine (ly hp (fu _ _)).mono ?_)
     rintro e we ⟨rfl,rfl⟩;rw [mV];clear mV;clear cp ia
     go_upto_region 28 with fail
     refine aP (S:=fun w'=>Bks w' k.gp (SL k a bp bt bv bm bP gb gr ix mk ct)) (E:=fun _=>false) zK ?_
     replace hp:df we.drew k _ log:=hp.ay (aU (Below.refl we.heap.size we));replace aG:=aG.drew;replace hB:=hB.drew;generalize we.drew=wed at *;refine wTk 5 [(0,104,ptr k.gp),(1,105,aa ab (fB k.l 0)),(2,106,aa ab x1),(3,107,oL ix mk ct),(4,108,aa ab bP)] ?_ hB ?_
     ·intro w' hS;have cp:=(hS.at_ 0 rfl).cell 0;simp at cp;have td:=(hS.at_ 1 rfl).cell 0;simp at td;have cm:=(hS.at_ 3 rfl).cell 0;simp at cm;have fg:(dr 81 ⟨gr,0,none⟩).run aw w'= .ok (oL ix mk ct) w':=be w' gr 81 81 #[aa ab ix,.bool mk,aa ab ct] (0,0) _ (hS.at_ 5 rfl) Tryz.underlying81 rfl zK
      (repeat' (first | exact aC | refine au ⟨_,rfl,.inl ⟨rfl,?_⟩⟩ ?_))
      all_goals first | exact bI rfl rfl fg | ((try simp only [aq,ao,an,Act.put,aj,ak,al]);go_simp;done)
     simp only [aR,Act.put,aj,ak,al];refine aE (i:=5) (o:=_) zK rfl (fun K hK=>?_)
     (try simp only [aq,ao,an])
     go_simp
     (with_reducible refine (lZ ix mk ct bP _).mono ?_)
     rintro e wf ⟨rfl,hb⟩;replace hp:=hp.ay hb;replace hB:=hB.ay hb;replace aG:=aG.trans (cL.aS _ _ hb);clear hb;refine hK.out _ _ (fun _=>hB) ?_
     clear hK K
     (try simp only [Act.put,aj,ak,al])
     refine aE (i:=6) (o:=_) zK rfl (fun K hK=>?_)
     (try simp only [aq,ao,an])
     go_simp
     (with_reducible refine (iy (bP % 65536) false ((ct+1) % 268435456) _).mono ?_)
     rintro e wg ⟨rfl,hb⟩;replace hp:=hp.ay hb;replace hB:=hB.ay hb;replace aG:=aG.trans (cL.aS _ _ hb);clear hb;have AX:dS (bP % 65536) false ((ct+1) % 268435456)=ed x1 bP:=by unfold ed mM;rw [lj.out.2]
     rw [AX];clear AX;refine hK.out _ _ (fun _=>hB) ?_
     clear hK K
     (try simp only [Act.put,aj,ak,al])
     refine aE (i:=7) (o:=_) zK rfl (fun K hK=>?_)
     (try simp only [aq,ao,an])
     go_simp
     (with_reducible refine (pX .tail (fB k.l 0) x1 (ed x1 bP) (fun r _ l'=>eR th k.me a (CPh.stp th a (z2.got).got (.s7 bP x1 pm) r) l') hp rfl (Cv.out.trans (gI _ _ _ _ _ _))).mono ?_)
     rintro e wh (⟨x,h1,rfl,h3⟩ | ⟨v,rfl,⟨⟨s3,s4⟩,hy,rfl,eB,hq9⟩,dB⟩)
     ·exact ⟨rfl,.inl ⟨x,h1,rfl,aG.trans h3.two⟩⟩
     replace aG:=aG.trans dB.two;replace hB:=hB.stp dB;have As:=ar ((show q=eR th k.me a (lN 0 true (pm:Nat) (z2.got).got.got) (log.drop (z2.got).got.got.made) from hq9).trans (j8 th k.me a (.oc ⟨0,true,(pm:Nat),[]⟩) (dK (z2.got).got.got 0) _ _ (fun _ _=>rfl)))
     clear hp dB hy hq9;have hp:=eB;clear eB;refine hK.out _ _ (fun _=>hB) ?_
     clear hK K
     (try simp only [Act.put,aj,ak,al])
     refine aN zK ?_ _
     go_upto_region 29 with fail
     have cp:=(hB.at_ 0 rfl).cell 0;have ia:=(hB.at_ 0 rfl).lt;simp at cp ia
     go_wp2_with fail
     (with_reducible refine (iJ th _ hp As.out).mono ?_)
     rintro e wc (⟨x,h1,rfl,h3⟩ | ⟨v,rfl,⟨zc,rfl,uK,sH⟩,tT⟩)
     ·exact ⟨rfl,.inl ⟨x,h1,rfl,aG.trans h3.two⟩⟩
     replace aG:=aG.trans tT.two;replace hB:=hB.stp tT;have zJ:=ar (show q= .fin ⟨0,true,(pm:Nat),zc.gone⟩ from sH)
     clear cp ia;clear hp tT sH
     rename df wc k zc log=>hp
     go_wp2_with (refine aK rfl 70 (.tmp 4) (.tmp 115) rfl rfl gb (bu 0 true 0 (pm:Nat)) rfl rfl 70 aZ (hB.at_ 4 rfl) zK rfl (by simp [aD]) ?_)
     have lI:=hp.dR (hB.at_ 4 rfl) yR (bu 0 true 0 (pm:Nat));have BH:=Bk.bL (hB.at_ 4 rfl) (bu 0 true 0 (pm:Nat));replace aG:=aG.row (b:=gb) (.inl (by rw [nV.out];omega)) (bu 0 true 0 (pm:Nat))
     exact aX (v:=.tuple #[.agg (bu 0 true 0 (pm:Nat)),ah true]) (gT (p:=4) (t:=5) (t1:=70) rfl _ _ gb _ (0,0) _ _ rfl rfl BH aI rfl zK) rfl (.inr ⟨_,rfl,.inl ⟨_,_,_,_,zJ.out,rfl,lI⟩,aG⟩)
  ·have sZ:(nx != 0)=true:=by simp [hz]
   have hY:=ar (show q=hZ th k.me a (.s5 bP x1 nx) z2.got (log.drop z2.got.made) by
    rw [fR.out];simp only [CPh.stp];rw [if_pos (by simpa using hz)]
    rfl)
   clear fR hz
   go_upto_region 16 with fail
   clear sZ;refine aP (S:=fun w'=>Bks w' k.gp (SL k a bp bt bv bm bP gb gr ix mk ct)) (E:=fun _=>false) zK ?_
   replace hp:df w6.drew k _ log:=hp.ay (aU (Below.refl w6.heap.size w6));replace aG:=aG.drew;replace hB:=hB.drew;generalize w6.drew=w6d at *;refine wTk 5 [(0,65,ptr k.gp),(1,66,aa ab (fB k.l 0)),(2,67,aa ab x1),(3,68,oL ix mk ct),(4,69,aa ab nx)] ?_ hB ?_
   ·intro w' hS;have cp:=(hS.at_ 0 rfl).cell 0;simp at cp;have td:=(hS.at_ 1 rfl).cell 0;simp at td;have fg:(dr 81 ⟨gr,0,none⟩).run aw w'= .ok (oL ix mk ct) w':=be w' gr 81 81 #[aa ab ix,.bool mk,aa ab ct] (0,0) _ (hS.at_ 5 rfl) Tryz.underlying81 rfl zK
    (repeat' (first | exact aC | refine au ⟨_,rfl,.inl ⟨rfl,?_⟩⟩ ?_))
    all_goals first | exact bI rfl rfl fg | ((try simp only [aq,ao,an,Act.put,aj,ak,al]);go_simp;done)
   simp only [aR,Act.put,aj,ak,al];refine aE (i:=5) (o:=_) zK rfl (fun K hK=>?_)
   (try simp only [aq,ao,an])
   go_simp
   (with_reducible refine (lZ ix mk ct nx _).mono ?_)
   rintro e wf ⟨rfl,hb⟩;replace hp:=hp.ay hb;replace hB:=hB.ay hb;replace aG:=aG.trans (cL.aS _ _ hb);clear hb;refine hK.out _ _ (fun _=>hB) ?_
   clear hK K
   (try simp only [Act.put,aj,ak,al])
   refine aE (i:=6) (o:=_) zK rfl (fun K hK=>?_)
   (try simp only [aq,ao,an])
   go_simp
   (with_reducible refine (iy (nx % 65536) false ((ct+1) % 268435456) _).mono ?_)
   rintro e wg ⟨rfl,hb⟩;replace hp:=hp.ay hb;replace hB:=hB.ay hb;replace aG:=aG.trans (cL.aS _ _ hb);clear hb;have AX:dS (nx % 65536) false ((ct+1) % 268435456)=ed x1 nx:=by unfold ed mM;rw [lj.out.2]
   rw [AX];clear AX;refine hK.out _ _ (fun _=>hB) ?_
   clear hK K
   (try simp only [Act.put,aj,ak,al])
   refine aE (i:=7) (o:=_) zK rfl (fun K hK=>?_)
   (try simp only [aq,ao,an])
   go_simp
   (with_reducible refine (pX .tail (fB k.l 0) x1 (ed x1 nx) (fun r _ l'=>eR th k.me a (CPh.stp th a z2.got (.s5 bP x1 nx) r) l') hp rfl (hY.out.trans (gI _ _ _ _ _ _))).mono ?_)
   rintro e wh (⟨x,h1,rfl,h3⟩ | ⟨v,rfl,⟨⟨s3,s4⟩,hy,rfl,eB,hq9⟩,dB⟩)
   ·exact ⟨rfl,.inl ⟨x,h1,rfl,aG.trans h3.two⟩⟩
   replace aG:=aG.trans dB.two;replace hB:=hB.stp dB;have gK:=ar hq9;clear hp dB hy hq9;have hp:=eB;clear eB;refine hK.out _ _ (fun _=>hB) ?_
   clear hK K
   (try simp only [Act.put,aj,ak,al])
   refine aN zK ?_ _
   go_wp2_with (refine aK rfl 70 (.tmp 4) (.tmp 73) rfl rfl gb aZ rfl rfl 70 aZ (hB.at_ 4 rfl) zK rfl (by simp [aD]) ?_)
   have lI:=hp.dR (hB.at_ 4 rfl) yR aZ;have BH:=Bk.bL (hB.at_ 4 rfl) aZ;have hgm:bm≠gb:=fun e=>JH.out.1.2.2.2.1 e.symm
   have km9:=Bk.a7 (hB.at_ 3 rfl) hgm aZ;replace aG:=aG.row (b:=gb) (.inl (by rw [nV.out];omega)) aZ
   exact aX (v:=.tuple #[.agg aZ,ah false]) (gT (p:=4) (t:=5) (t1:=70) rfl _ _ gb _ (0,0) _ _ rfl rfl BH aI rfl zK) rfl (.inr ⟨_,rfl,.inr ⟨bP,_,rfl,lI,km9,zR.1,zR.2,by have h1:=KA.out;show z.made < z2.made+1+1;omega,gK.out⟩,aG⟩)
end
def RL (k:Pk) (bp bh bt gb gr:Nat) (ix:Int) (mk:Bool) (ct:Int):List (Nat × bR × Array Value):=
 [(bp,158,#[ptr k.gp]),(bh,3,#[aa ab (dT k.l 0)]),(bt,3,#[aa ab (fB k.l 0)]),(gb,70,aZ),(gr,81,#[aa ab ix,.bool mk,aa ab ct])]
def RcPost (k:Pk) (log:Log) (q:An Out) (u:Value) (w':World):Prop:=
 ∃ val is aH z',q= .fin ⟨val,is,aH,z'.gone⟩/\u= .tuple #[.agg (bu val is 0 aH),ah true]/\df w' k z' log
def Kw (k:Pk) (th a:Int) (log:Log) (q:An Out) (L:List (Nat × bR × Array Value)) (bF:Int) (w:World) (v:Value) (wr:World):Prop:=
 ∃ (i:Nat) (z':Pz),v=aa ab (i:Nat)/\i<=5/\df wr k z' log/\Stp k.gp w wr/\Bks wr k.gp L/\
  (i < 5->q=hZ th k.me a (.r2 bF i) z' (log.drop z'.made))/\(i=5->q=hZ th k.me a (.r4 bF) z' (log.drop z'.made))
section
variable {w:World} {k:Pk} {z:Pz} {log:Log} {q:An Out}
theorem AR (th a bF:Int) (i:Nat) (z':Pz) (hi:i < 5) (hq:q=eR th k.me a (mZ bF i z') (log.drop z'.made)):
  (i+1 < 5->q=hZ th k.me a (.r2 bF (i+1)) z' (log.drop z'.made))/\(i+1=5->q=hZ th k.me a (.r4 bF) z' (log.drop z'.made)):=by
 unfold mZ at hq
 constructor
 ·intro h;rw [hq,if_pos zO];rfl
 ·intro h;rw [hq,if_neg zO];rfl
theorem z8 (th a:Int) (bp bh bt:Nat) (h:df w k z log) (uM:∀ x∈log,-4611686018427387904<=x.1/\x.1<=4611686018427387904) (hg:bp≠k.gp/\bh≠k.gp/\bt≠k.gp)
  (kp:Bk w bp 158 #[ptr k.gp]) (kh:Bk w bh 3 #[aa ab (dT k.l 0)]) (kt:Bk w bt 3 #[aa ab (fB k.l 0)])
  (hq:q=hZ th k.me a (.sub (.g1 0 .head) .rg) z (log.drop z.made)) (gq:q≠ .stuck):
  Calls aw 155 #[ptr bp,ptr bh,ptr bt] w (ki k q w (RcPost k log q)):=by
 have HQ:=ar (hq.trans (o9 _ _ _ _ _ _ _));have HNS:=ar gq;have HLO:=ar uM;have kb:=Bk.made w 70 aZ;have lpg:=h.lt;have aG:=(Stp.refl k.gp w).alloc (ag aZ 70);replace h:=h.ay (aB (Below.refl _ _) (ag aZ 70));replace kp:=kp.alloc (ag aZ 70);replace kh:=kh.alloc (ag aZ 70);replace kt:=kt.alloc (ag aZ 70);clear hq gq uM;go_enter Tryz.func155,Tryz.ntmps155
 go_upto_region 1 with fail
 generalize w.alloc (ag aZ 70)=w1 at *;obtain ⟨gb,mD⟩:∃ x,w.heap.size=x:=⟨_,rfl⟩;have nV:=ar mD;rw [mD] at kb lpg ⊢;clear mD;have cp:=kp.cell 0;have ia:=kp.lt;have ch:=kh.cell 0;have lh0:=kh.lt;simp at cp ch
 go_wp2_with fail
 have hd:Calls aw 145 #[ptr k.gp,aa ab 0,aa ab (dT k.l 0)] w1 _:=yz th 0 .head (dT k.l 0) _ h zO rfl HQ.out
 (with_reducible refine hd.mono ?_)
 rintro e w2 (⟨x,h1,rfl,h3⟩ | ⟨v,rfl,⟨x1,p,z1,rfl,hp,ei,-,-⟩,hs⟩)
 ·exact ⟨rfl,.inl ⟨x,h1,rfl,aG.trans h3⟩⟩
 replace aG:=aG.trans hs;replace kp:=hs.ay kp hg.1;replace kh:=hs.ay kh hg.2.1;replace kt:=hs.ay kt hg.2.2;replace kb:=hs.ay kb zO;have lh:=ar (show q=hZ th k.me a (.r2 x1 0) z1 (log.drop z1.made) from ei)
 clear h hd hs ei HQ cp ia ch lh0
 go_wp2_with fail
 (with_reducible refine (gV x1 _).mono ?_)
 rintro e w3 ⟨rfl,hb⟩;replace hp:=hp.ay hb;replace aG:=aG.trans (Stp.aS _ hb);replace kp:=kp.ay hb;replace kh:=kh.ay hb;replace kt:=kt.ay hb;replace kb:=kb.ay hb;clear hb;obtain ⟨ix,jZ⟩:∃ z,x1 % 65536=z:=⟨_,rfl⟩;obtain ⟨mk,mU⟩:∃ b,(x1 / 65536 % 2==1)=b:=⟨_,rfl⟩;obtain ⟨ct,xb⟩:∃ z,x1 / 131072 % 268435456=z:=⟨_,rfl⟩;have L8:0<=ix/\ix < 65536:=zO;rw [jZ,mU,xb];have lj:=ar (au jZ xb);clear jZ mU xb
 go_upto_region 3 with fail
 have kr:=Bk.made w3 81 #[aa ab ix,.bool mk,aa ab ct];have zg3:=hp.lt;have zb3:=kb.lt;replace hp:=hp.ay (aB (Below.refl _ _) (ag #[aa ab ix,.bool mk,aa ab ct] 81));replace aG:=aG.alloc (ag #[aa ab ix,.bool mk,aa ab ct] 81);replace kp:=kp.alloc (ag #[aa ab ix,.bool mk,aa ab ct] 81);replace kh:=kh.alloc (ag #[aa ab ix,.bool mk,aa ab ct] 81);replace kt:=kt.alloc (ag #[aa ab ix,.bool mk,aa ab ct] 81);replace kb:=kb.alloc (ag #[aa ab ix,.bool mk,aa ab ct] 81);generalize w3.alloc (ag #[aa ab ix,.bool mk,aa ab ct] 81)=w4 at *;obtain ⟨gr,N3⟩:∃ x,w3.heap.size=x:=⟨_,rfl⟩;rw [N3] at kr zg3 zb3 ⊢;clear N3;have hB:Bks w4 k.gp (RL k bp bh bt gb gr ix mk ct):=.cons kp hg.1 (.cons kh hg.2.1 (.cons kt hg.2.2 (.cons kb zO (.cons kr zO .nil))));clear kp kh kt kb kr;have HR:=ar (show Kw k th a log q (RL k bp bh bt gb gr ix mk ct) x1 w (aa ab 0) w4 from ⟨0,z1,rfl,zO,hp,aG,hB,fun _=>lh.out,fun e=>by cases e⟩)
 clear hp aG hB lh;have yR:k.gp<=gb:=zO;clear hg lpg zg3 zb3
 go_wp2_with fail
 go_loopw [24] (fun v24 wr=>Kw k th a log q (RL k bp bh bt gb gr ix mk ct) x1 w v24 wr) (fun v24 _=>5 - (intOf v24).toNat)
 case atStart=>exact HR.out
 case round=>
 clear HR;obtain ⟨i,z2,rfl,hi,hp,aG,hB,hqa,hqb⟩:=hrel
 by_cases dN:i < 5
 ·have Ch:=ar (hqa dN);have hib5:decide ((i:Int) < 5)=true:=by simp;omega
  clear hqa hqb;have cp:=(hB.at_ 0 rfl).cell 0;have ia:=(hB.at_ 0 rfl).lt;simp at cp ia;have cr:=(hB.at_ 4 rfl).cell 0;have lr0:=(hB.at_ 4 rfl).lt;simp at cr lr0
  go_wp2_with fail
  (with_reducible refine (gY ix (1+i) hp zO).mono ?_)
  rintro e w5 ⟨rfl,hb⟩;replace hp:=hp.ay hb;replace hB:=hB.ay hb;replace aG:=aG.trans (Stp.aS _ hb);clear hb;clear cp ia cr lr0;have cp:=(hB.at_ 0 rfl).cell 0;have ia:=(hB.at_ 0 rfl).lt;simp at cp ia
  go_wp2_with fail
  (with_reducible refine (jt (.nd (idxOf x1) (1+i)) (nodeAt k.l ix (1+i)) (fun r _ l'=>eR th k.me a (CPh.stp th a z2 (.r2 x1 i) r) l') hp (by rw [<- lj.out.1];simp only [adr,idxOf]) (Ch.out.trans (gI _ _ _ _ _ _))).mono ?_)
  rintro e w6 (⟨x,h1,rfl,h3⟩ | ⟨v,rfl,⟨⟨y1,y2⟩,hy,rfl,eB,mP⟩,dB⟩)
  ·exact ⟨rfl,.inl ⟨x,h1,rfl,aG.trans h3⟩⟩
  replace aG:=aG.trans dB;replace hB:=hB.stp dB;have fR:=ar mP;have HYB:=ar (HLO.out _ (bX hy));clear cp ia;clear hp dB hy mP Ch;have hp:=eB;clear eB;obtain ⟨pm,qI⟩:∃ x,z2.made=x:=⟨_,rfl⟩;have HPM:=ar qI;have mV:((z2.got.made - 1:Nat):Int)=(pm:Nat):=by rw [<- qI];show ((z2.made+1 - 1:Nat):Int)=_;rw [Nat.add_sub_cancel]
  clear qI;have cp:=(hB.at_ 0 rfl).cell 0;have ia:=(hB.at_ 0 rfl).lt;simp at cp ia
  go_wp2_with fail
  (with_reducible refine (ly hp (fu _ _)).mono ?_)
  rintro e we ⟨rfl,rfl⟩;rw [mV];clear mV;clear cp ia
  by_cases hz:y1=0
  ·subst hz;have hY:=ar ((show q=eR th k.me a (lN 0 false (pm:Nat) z2.got) (log.drop z2.got.made) by
    rw [fR.out,<- HPM.out];simp only [CPh.stp];rfl).trans (j8 th k.me a (.oc ⟨0,false,(pm:Nat),[]⟩) (dK z2.got 0) _ _ (fun _ _=>rfl)))
   clear fR
   go_upto_region 10 with fail
   have cp:=(hB.at_ 0 rfl).cell 0;have ia:=(hB.at_ 0 rfl).lt;simp at cp ia
   go_wp2_with fail
   (with_reducible refine (iJ th _ hp hY.out).mono ?_)
   rintro e wc (⟨x,h1,rfl,h3⟩ | ⟨v,rfl,⟨zc,rfl,uK,sH⟩,tT⟩)
   ·exact ⟨rfl,.inl ⟨x,h1,rfl,aG.trans h3⟩⟩
   replace aG:=aG.trans tT;replace hB:=hB.stp tT;have zJ:=ar (show q= .fin ⟨0,false,(pm:Nat),zc.gone⟩ from sH)
   clear cp ia;clear hp tT sH
   rename df wc k zc log=>hp
   go_wp2_with (refine aK rfl 70 (.tmp 3) (.tmp 43) rfl rfl gb (bu 0 false 0 (pm:Nat)) rfl rfl 70 aZ (hB.at_ 3 rfl) zK rfl (by simp [aD]) ?_)
   have lI:=hp.dR (hB.at_ 3 rfl) yR (bu 0 false 0 (pm:Nat));have BH:=Bk.bL (hB.at_ 3 rfl) (bu 0 false 0 (pm:Nat));replace aG:=aG.row (b:=gb) (.inl (by rw [nV.out];omega)) (bu 0 false 0 (pm:Nat))
   exact aX (v:=.tuple #[.agg (bu 0 false 0 (pm:Nat)),ah true]) (gT (p:=3) (t:=4) (t1:=70) rfl _ _ gb _ (0,0) _ _ rfl rfl BH aI rfl zK) rfl (.inr ⟨_,rfl,⟨_,_,_,_,zJ.out,rfl,lI⟩,aG⟩)
  ·by_cases ho:y1=1
   ·subst ho;have lJ:=AR th a x1 i z2.got dN (show q=eR th k.me a (mZ x1 i z2.got) (log.drop z2.got.made) by
     rw [fR.out];simp only [CPh.stp];rfl)
    have HR:=ar (show Kw k th a log q (RL k bp bh bt gb gr ix mk ct) x1 w (aa ab ((i+1:Nat):Int)) we from ⟨i+1,_,rfl,zO,hp,aG,hB,lJ.1,lJ.2⟩)
    clear hp aG hB lJ fR hz
    go_wp2_with fail
    go_roundw
    case rel=>exact HR.out
    case measure=>simp [intOf];omega
   ·have hY:=ar (show q=hZ th k.me a (.r3 x1 i y1) z2.got (log.drop z2.got.made) by
     rw [fR.out];simp only [CPh.stp];rw [if_neg (by simpa using hz),if_neg (by simpa using ho)]
     rfl)
    have sZ:(y1==0)=false:=by simp [hz]
    have A1:(y1 != 1)=true:=by simp [ho]
    have hw:IntKind.i64.wrap (y1 - 2)=y1 - 2:=cV _ (by obtain ⟨h1,h2⟩:=HYB.out;omega)
    clear fR hz ho;have cp:=(hB.at_ 0 rfl).cell 0;have ia:=(hB.at_ 0 rfl).lt;simp at cp ia
    go_wp2_with fail
    (with_reducible refine (pX (.nd (idxOf x1) (1+i)) (nodeAt k.l ix (1+i)) y1 1 (fun r _ l'=>eR th k.me a (CPh.stp th a z2.got (.r3 x1 i y1) r) l') hp (by rw [<- lj.out.1];simp only [adr,idxOf]) (hY.out.trans (gI _ _ _ _ _ _))).mono ?_)
    rintro e w7 (⟨x,h1,rfl,h3⟩ | ⟨v,rfl,⟨⟨t1,t2⟩,hy,rfl,fT,mJ⟩,lV⟩)
    ·exact ⟨rfl,.inl ⟨x,h1,rfl,aG.trans h3⟩⟩
    replace aG:=aG.trans lV;replace hB:=hB.stp lV;have gK:=ar mJ;clear cp ia;clear hp lV hy mJ hY;have hp:=fT;clear fT
    cases t2 with
    | false=>
     have lJ:=AR th a x1 i z2.got.got dN gK.out;have HR:=ar (show Kw k th a log q (RL k bp bh bt gb gr ix mk ct) x1 w (aa ab ((i+1:Nat):Int)) w7 from ⟨i+1,_,rfl,zO,hp,aG,hB,lJ.1,lJ.2⟩)
     clear hp aG hB lJ gK
     go_wp2_with fail
     go_roundw
     case rel=>exact HR.out
     case measure=>simp [intOf];omega
    | true=>
     obtain ⟨pn,hpn⟩:∃ x,z2.got.made=x:=⟨_,rfl⟩;have mV:((z2.got.got.made - 1:Nat):Int)=(pn:Nat):=by rw [<- hpn];show ((z2.got.made+1 - 1:Nat):Int)=_;rw [Nat.add_sub_cancel]
     have oh:=ar ((show q=eR th k.me a (lN (y1 - 2) true (pn:Nat) z2.got.got) (log.drop z2.got.got.made) by rw [<- hpn];exact gK.out).trans (j8 th k.me a (.oc ⟨y1 - 2,true,(pn:Nat),[]⟩) (dK z2.got.got 0) _ _ (fun _ _=>rfl)))
     clear hpn gK;have cp:=(hB.at_ 0 rfl).cell 0;have ia:=(hB.at_ 0 rfl).lt;simp at cp ia
     go_upto_region 13 with fail
     go_wp2_with fail
     (with_reducible refine (ly hp (fu _ _)).mono ?_)
     rintro e we ⟨rfl,rfl⟩;rw [mV];clear cp ia;clear mV
     go_upto_region 14 with fail
     have cp:=(hB.at_ 0 rfl).cell 0;have ia:=(hB.at_ 0 rfl).lt;simp at cp ia
     go_wp2_with fail
     (with_reducible refine (iJ th _ hp oh.out).mono ?_)
     rintro e wc (⟨x,h1,rfl,h3⟩ | ⟨v,rfl,⟨zc,rfl,uK,sH⟩,tT⟩)
     ·exact ⟨rfl,.inl ⟨x,h1,rfl,aG.trans h3⟩⟩
     replace aG:=aG.trans tT;replace hB:=hB.stp tT;have zJ:=ar (show q= .fin ⟨y1 - 2,true,(pn:Nat),zc.gone⟩ from sH)
     clear cp ia;clear hp tT sH
     rename df wc k zc log=>hp
     go_wp2_with (refine aK rfl 70 (.tmp 3) (.tmp 59) rfl rfl gb (bu (y1 - 2) true 0 (pn:Nat)) rfl rfl 70 aZ (hB.at_ 3 rfl) zK rfl (by simp [aD]) ?_)
     have lI:=hp.dR (hB.at_ 3 rfl) yR (bu (y1 - 2) true 0 (pn:Nat));have BH:=Bk.bL (hB.at_ 3 rfl) (bu (y1 - 2) true 0 (pn:Nat));replace aG:=aG.row (b:=gb) (.inl (by rw [nV.out];omega)) (bu (y1 - 2) true 0 (pn:Nat))
     exact aX (v:=.tuple #[.agg (bu (y1 - 2) true 0 (pn:Nat)),ah true]) (gT (p:=3) (t:=4) (t1:=70) rfl _ _ gb _ (0,0) _ _ rfl rfl BH aI rfl zK) rfl (.inr ⟨_,rfl,⟨_,_,_,_,zJ.out,rfl,lI⟩,aG⟩)
 ·have yQ:i=5:=zO;subst yQ;have Ch:=ar (hqb rfl);clear hqa hqb dN hi
  go_upto_region 17 with fail
  refine aP (S:=fun w'=>Bks w' k.gp (RL k bp bh bt gb gr ix mk ct)) (E:=fun _=>false) zK ?_
  replace hp:df wr.drew k _ log:=hp.ay (aU (Below.refl wr.heap.size wr));replace aG:=aG.drew;replace hB:=hB.drew;generalize wr.drew=wrd at *;refine wTk 4 [(0,61,ptr k.gp),(1,62,ptr k.gp),(2,63,ae (some ⟨gr,0,none⟩)),(3,64,aa ab ix)] ?_ hB ?_
  ·intro w' hS;have cp:=(hS.at_ 0 rfl).cell 0;have cr:=(hS.at_ 4 rfl).cell 0;simp at cp cr
   (repeat' (first | exact aC | refine au ⟨_,rfl,.inl ⟨rfl,?_⟩⟩ ?_))
   all_goals exact zG
  simp only [aR,Act.put,aj,ak,al];refine aE (i:=4) (o:=_) zK rfl (fun K hK=>?_)
  (try simp only [aq,ao,an])
  go_simp
  (with_reducible refine (gY ix 0 hp zO).mono ?_)
  rintro e w5 ⟨rfl,hb⟩;replace hp:=hp.ay hb;replace hB:=hB.ay hb;replace aG:=aG.trans (Stp.aS _ hb);clear hb;refine hK.out _ _ (fun _=>hB) ?_
  clear hK K
  (try simp only [Act.put,aj,ak,al])
  refine aE (i:=5) (o:=_) zK rfl (fun K hK=>?_)
  (try simp only [aq,ao,an])
  go_simp
  (with_reducible refine (jt (.nd (idxOf x1) 0) (nodeAt k.l ix 0) (fun r _ l'=>eR th k.me a (CPh.stp th a z2 (.r4 x1) r) l') hp (by rw [<- lj.out.1];simp only [adr,idxOf]) (Ch.out.trans (gI _ _ _ _ _ _))).mono ?_)
  rintro e w6 (⟨x,h1,rfl,h3⟩ | ⟨v,rfl,⟨⟨nx,nx2⟩,hy,rfl,eB,mP⟩,dB⟩)
  ·exact ⟨rfl,.inl ⟨x,h1,rfl,aG.trans h3⟩⟩
  replace aG:=aG.trans dB;replace hB:=hB.stp dB;have fR:=ar mP;clear hp dB hy mP Ch;have hp:=eB;clear eB;refine hK.out _ _ (fun _=>hB) ?_
  clear hK K
  (try simp only [Act.put,aj,ak,al])
  refine wTk 1 [(6,12,aa ab nx)] ?_ hB ?_
  ·intro w' hS
   (repeat' (first | exact aC | refine au ⟨_,rfl,.inl ⟨rfl,?_⟩⟩ ?_))
   all_goals exact zG
  simp only [aR,Act.put,aj,ak,al];refine aN zK ?_ _
  by_cases hz:nx=0
  ·subst hz;obtain ⟨pm,qI⟩:∃ x,z2.made=x:=⟨_,rfl⟩;have mV:((z2.got.made - 1:Nat):Int)=(pm:Nat):=by rw [<- qI];show ((z2.made+1 - 1:Nat):Int)=_;rw [Nat.add_sub_cancel]
   have hY:=ar ((show q=eR th k.me a (lN 0 false (pm:Nat) z2.got) (log.drop z2.got.made) by
    rw [fR.out,<- qI];simp only [CPh.stp];rfl).trans (j8 th k.me a (.oc ⟨0,false,(pm:Nat),[]⟩) (dK z2.got 0) _ _ (fun _ _=>rfl)))
   clear qI fR;have cp:=(hB.at_ 0 rfl).cell 0;have ia:=(hB.at_ 0 rfl).lt;simp at cp ia
   go_upto_region 19 with fail
   go_wp2_with fail
   (with_reducible refine (ly hp (fu _ _)).mono ?_)
   rintro e we ⟨rfl,rfl⟩;rw [mV];clear cp ia;clear mV
   go_upto_region 20 with fail
   have cp:=(hB.at_ 0 rfl).cell 0;have ia:=(hB.at_ 0 rfl).lt;simp at cp ia
   go_wp2_with fail
   (with_reducible refine (iJ th _ hp hY.out).mono ?_)
   rintro e wc (⟨x,h1,rfl,h3⟩ | ⟨v,rfl,⟨zc,rfl,uK,sH⟩,tT⟩)
   ·exact ⟨rfl,.inl ⟨x,h1,rfl,aG.trans h3⟩⟩
   replace aG:=aG.trans tT;replace hB:=hB.stp tT;have zJ:=ar (show q= .fin ⟨0,false,(pm:Nat),zc.gone⟩ from sH)
   clear cp ia;clear hp tT sH
   rename df wc k zc log=>hp
   go_wp2_with (refine aK rfl 70 (.tmp 3) (.tmp 74) rfl rfl gb (bu 0 false 0 (pm:Nat)) rfl rfl 70 aZ (hB.at_ 3 rfl) zK rfl (by simp [aD]) ?_)
   have lI:=hp.dR (hB.at_ 3 rfl) yR (bu 0 false 0 (pm:Nat));have BH:=Bk.bL (hB.at_ 3 rfl) (bu 0 false 0 (pm:Nat));replace aG:=aG.row (b:=gb) (.inl (by rw [nV.out];omega)) (bu 0 false 0 (pm:Nat))
   exact aX (v:=.tuple #[.agg (bu 0 false 0 (pm:Nat)),ah true]) (gT (p:=3) (t:=4) (t1:=70) rfl _ _ gb _ (0,0) _ _ rfl rfl BH aI rfl zK) rfl (.inr ⟨_,rfl,⟨_,_,_,_,zJ.out,rfl,lI⟩,aG⟩)
  ·exact absurd (by
    rw [fR.out];simp only [CPh.stp];rw [if_neg (by simpa using hz)]
    rfl) HNS.out
end
abbrev OO (w:World) (k:Pk) (a bP:Int) (bp bt bv bm:Nat):Prop:=
 Bk w bp 158 #[ptr k.gp]/\Bk w bt 3 #[aa ab (fB k.l 0)]/\Bk w bv 3 #[aa ab a]/\Bk w bm 3 #[aa ab bP]
abbrev RcBk (w:World) (k:Pk) (bp bh bt:Nat):Prop:=Bk w bp 158 #[ptr k.gp]/\Bk w bh 3 #[aa ab (dT k.l 0)]/\Bk w bt 3 #[aa ab (fB k.l 0)]
section
variable {w:World} {k:Pk} {z:Pz} {log:Log} {q:An Out}
theorem KJ (gp:Nat) (t a:Int) (w:World):Calls aw 102 #[ptr gp,aa ab t,aa ab a] w fun e w'=>∃ bp bt bv bm,e=ai (.func (.func 144) #[] #[ptr bp,ptr bt,ptr bv,ptr bm])/\Below w.heap.size w w'/\
  w.heap.size<=bp/\bp < bt/\bt < bv/\bv < bm/\Bk w' bp 158 #[ptr gp]/\Bk w' bt 3 #[aa ab t]/\Bk w' bv 3 #[aa ab a]/\Bk w' bm 3 #[aa ab 0]:=by
 have Dv:∀ (fn:Fn) (first cap:Array Value) (w:World),(kZ fn first cap).run aw w= .ok (.func fn first cap) w:=fun _ _ _ _=>rfl
 have k0:=(((Bk.made w 158 #[ptr gp]).alloc (ag #[aa ab t] 3)).alloc (ag #[aa ab a] 3)).alloc (ag #[aa ab 0] 3);have k1:=((Bk.new (w.alloc (ag #[ptr gp] 158)) (g:=w.heap.size+1) zS 3 #[aa ab t]).alloc (ag #[aa ab a] 3)).alloc (ag #[aa ab 0] 3);have k2:=(Bk.new ((w.alloc (ag #[ptr gp] 158)).alloc (ag #[aa ab t] 3)) (g:=w.heap.size+1+1) zS 3 #[aa ab a]).alloc (ag #[aa ab 0] 3);have k3:=Bk.new (((w.alloc (ag #[ptr gp] 158)).alloc (ag #[aa ab t] 3)).alloc (ag #[aa ab a] 3)) (g:=w.heap.size+1+1+1) zS 3 #[aa ab 0];have bz:=aB (aB (aB (aB (Below.refl w.heap.size w) (ag #[ptr gp] 158)) (ag #[aa ab t] 3)) (ag #[aa ab a] 3)) (ag #[aa ab 0] 3);go_enter Tryz.func102,Tryz.ntmps102
 go_wp2_with fail
 go_ret
 exact ⟨_,_,_,_,rfl,bz,az _,zO,zO,zO,k0,k1,k2,k3⟩
theorem Bu (gp:Nat) (h t:Int) (w:World):Calls aw 103 #[ptr gp,aa ab h,aa ab t] w fun e w'=>∃ bp bh bt,e=ai (.func (.func 155) #[] #[ptr bp,ptr bh,ptr bt])/\Below w.heap.size w w'/\
  w.heap.size<=bp/\bp < bh/\bh < bt/\Bk w' bp 158 #[ptr gp]/\Bk w' bh 3 #[aa ab h]/\Bk w' bt 3 #[aa ab t]:=by
 have Dv:∀ (fn:Fn) (first cap:Array Value) (w:World),(kZ fn first cap).run aw w= .ok (.func fn first cap) w:=fun _ _ _ _=>rfl
 have k0:=((Bk.made w 158 #[ptr gp]).alloc (ag #[aa ab h] 3)).alloc (ag #[aa ab t] 3);have k1:=(Bk.new (w.alloc (ag #[ptr gp] 158)) (g:=w.heap.size+1) zS 3 #[aa ab h]).alloc (ag #[aa ab t] 3);have k2:=Bk.new ((w.alloc (ag #[ptr gp] 158)).alloc (ag #[aa ab h] 3)) (g:=w.heap.size+1+1) zS 3 #[aa ab t];have bz:=aB (aB (aB (Below.refl w.heap.size w) (ag #[ptr gp] 158)) (ag #[aa ab h] 3)) (ag #[aa ab t] 3);go_enter Tryz.func103,Tryz.ntmps103
 go_wp2_with fail
 go_ret
 exact ⟨_,_,_,rfl,bz,az _,zO,zO,k0,k1,k2⟩
def JE (k:Pk) (th a:Int) (log:Log) (q:An Out) (bp bt bv bm b0 gb:Nat) (fv:Value) (w wr:World):Prop:=
 ∃ bP z',df wr k z' log/\cL k.gp bm w wr/\OO wr k a bP bp bt bv bm/\Bk wr b0 160 #[fv]/\Bk wr gb 70 aZ/\0<=bP/\bP < 65536/\q=hZ th k.me a (.sub (.g1 0 .tail) (.sg bP)) z' (log.drop z'.made)
theorem IU (th a:Int) (bp bt bv bm b0:Nat) (h:df w k z log) (ha:0<=a/\a < 4294967296) (hn:bp≠bm/\bt≠bm/\bv≠bm/\b0≠bm) (hg:bp≠k.gp/\bt≠k.gp/\bv≠k.gp/\bm≠k.gp/\b0≠k.gp) (hBm:k.B<=bm)
  (hk:OO w k a 0 bp bt bv bm) (k0:Bk w b0 160 #[.func (.func 144) #[] #[ptr bp,ptr bt,ptr bv,ptr bm]]) (hq:q=hZ th k.me a (.sub (.g1 0 .tail) (.sg 0)) z (log.drop z.made)) (gq:q≠ .stuck):
  Calls aw 105 #[ptr b0] w (ji k bm q w fun u w'=>∃ val is aH z',q= .fin ⟨val,is,aH,z'.gone⟩/\u= .agg (bu val is 0 aH)/\df w' k z' log):=by
 have kb:=Bk.made w 70 aZ;have lpg:=h.lt;have lbm:=hk.2.2.2.lt;have aG:=(cL.refl k.gp bm w).alloc (ag aZ 70);replace h:=h.ay (aB (Below.refl _ _) (ag aZ 70));replace hk:OO (w.alloc (ag aZ 70)) k a 0 bp bt bv bm:=⟨hk.1.alloc _,hk.2.1.alloc _,hk.2.2.1.alloc _,hk.2.2.2.alloc _⟩;replace k0:=k0.alloc (ag aZ 70);have HNS:=ar (au gq (au ha (au hn (au hg hBm))));obtain ⟨gb,mD⟩:∃ x,w.heap.size=x:=⟨_,rfl⟩;have nV:=ar mD;rw [mD] at kb lpg lbm;obtain ⟨fv,hfv⟩:∃ x,Value.func (.func 144) #[] #[ptr bp,ptr bt,ptr bv,ptr bm]=x:=⟨_,rfl⟩;have HFV:=ar hfv;rw [hfv] at k0;have HR:=ar (show JE k th a log q bp bt bv bm b0 gb fv w (w.alloc (ag aZ 70)) from ⟨0,z,h,aG,hk,k0,kb,zO,zO,hq⟩)
 clear h aG hk k0 kb hq gq ha hn hg hBm hfv;go_enter Tryz.func105,Tryz.ntmps105
 go_upto_region 1 with fail
 generalize w.alloc (ag aZ 70)=w1 at *
 go_wp2_with fail
 go_loopw [9] (fun _ wr=>JE k th a log q bp bt bv bm b0 gb fv w wr) (fun _ wr=>log.length+1 - madeOf k.gp wr)
 case atStart=>exact HR.out
 case round=>
 clear HR;obtain ⟨bP,z1,hp,aG,hk,k0,kb,A5,mV,hq⟩:=hrel;have HM:=ar (au (dj hp) hp.mle);have HQ:=ar hq;have c0:=k0.cell 0;have l0:=k0.lt;simp at c0;rw [<- HFV.out] at c0;clear hq
 go_wp2_with fail
 have hn:=HNS.out.2.2.1;have hg:=HNS.out.2.2.2.1
 (with_reducible refine (ID th a bP bp bt bv bm hp HNS.out.2.1 ⟨A5,mV⟩ ⟨hn.1,hn.2.1,hn.2.2.1⟩ ⟨hg.1,hg.2.1,hg.2.2.1,hg.2.2.2.1⟩ HNS.out.2.2.2.2 hk.1 hk.2.1 hk.2.2.1 hk.2.2.2 HQ.out HNS.out.1).mono ?_)
 rintro e w2 (⟨x,h1,rfl,h3⟩ | ⟨v,rfl,(⟨val,is,aH,z2,hf,rfl,eB⟩ | ⟨Nn,z2,rfl,eB,km,hm20,hm21,dN,mP⟩),dB⟩)
 ·exact ⟨rfl,.inl ⟨x,h1,rfl,aG.trans h3⟩⟩
 ·have HF:=ar hf;have De:=dB.ay kb zO zO;replace aG:=aG.trans dB;clear hp hk k0 kb c0 l0 dB hf HQ
  go_upto_region 2 with (refine dJ rfl 70 (.tmp 2) (.tmp 7) rfl rfl w2.heap.size _ _ (bu val is 0 aH) rfl rfl rfl rfl zK rfl (by simp [aD]) ?_)
  have ko:=Bk.made w2 70 (bu val is 0 aH);have lgb:=De.lt;replace De:=De.alloc (ag (bu val is 0 aH) 70);replace eB:=eB.ay (aB (Below.refl _ _) (ag (bu val is 0 aH) 70));replace aG:=aG.alloc (ag (bu val is 0 aH) 70);generalize w2.alloc (ag (bu val is 0 aH) 70)=w3 at *
  go_wp2_with (first
   | (refine aL rfl 70 (.tmp 2) rfl w2.heap.size rfl 70 (bu val is 0 aH) (0,0) _ ko aI rfl zK ?_)
   | (refine aK rfl 70 (.tmp 1) (.tmp 10) rfl rfl gb (bu val is 0 aH) rfl rfl 70 aZ De zK rfl (by simp [aD]) ?_))
  have lI:=eB.dR De zO (bu val is 0 aH);replace De:=De.bL (bu val is 0 aH);replace aG:=aG.row (b:=gb) (.inl (by rw [nV.out];omega)) (bu val is 0 aH)
  exact aX (v:=.agg (bu val is 0 aH)) (cb (p:=1) (ty:=70) rfl _ _ gb 70 _ (0,0) _ rfl De aI rfl zK) rfl (.inr ⟨_,rfl,⟨_,_,_,_,HF.out,rfl,lI⟩,aG⟩)
 ·have fR:=ar (au mP dN);replace kb:=dB.ay kb zO zO;replace k0:=dB.ay k0 hg.2.2.2.2 hn.2.2.2;have nY:OO w2 k a Nn bp bt bv bm:=⟨dB.ay hk.1 hg.1 hn.1,dB.ay hk.2.1 hg.2.1 hn.2.1,dB.ay hk.2.2.1 hg.2.2.1 hn.2.2.1,km⟩;replace aG:=aG.trans dB;clear hp hk c0 l0 dB HQ mP dN km
  go_upto_region 2 with (refine dJ rfl 70 (.tmp 2) (.tmp 7) rfl rfl w2.heap.size _ _ aZ rfl rfl rfl rfl zK rfl (by simp [aD]) ?_)
  replace kb:=kb.alloc (ag aZ 70);replace k0:=k0.alloc (ag aZ 70);replace nY:OO (w2.alloc (ag aZ 70)) k a Nn bp bt bv bm:=⟨nY.1.alloc _,nY.2.1.alloc _,nY.2.2.1.alloc _,nY.2.2.2.alloc _⟩;replace eB:=eB.ay (aB (Below.refl _ _) (ag aZ 70));replace aG:=aG.alloc (ag aZ 70);generalize w2.alloc (ag aZ 70)=w3 at *;have HR:=ar (show JE k th a log q bp bt bv bm b0 gb fv w w3 from ⟨Nn,z2,eB,aG,nY,k0,kb,hm20,hm21,fR.out.1⟩)
  have wX:=dj eB;have zU:=ar (show log.length+1 - madeOf k.gp w3 < log.length+1 - madeOf k.gp wr by
   rw [wX,HM.out.1];have h1:=HM.out.2;have h2:=fR.out.2;omega)
  clear eB aG nY k0 kb wX fR
  go_wp2_with fail
  go_roundw
  case rel=>exact HR.out
  case measure=>exact zU.out
theorem IV (th a:Int) (bp bh bt b0:Nat) (h:df w k z log) (uM:∀ x∈log,-4611686018427387904<=x.1/\x.1<=4611686018427387904) (hg:bp≠k.gp/\bh≠k.gp/\bt≠k.gp/\b0≠k.gp)
  (hk:RcBk w k bp bh bt) (k0:Bk w b0 160 #[.func (.func 155) #[] #[ptr bp,ptr bh,ptr bt]]) (hq:q=hZ th k.me a (.sub (.g1 0 .head) .rg) z (log.drop z.made)) (gq:q≠ .stuck):
  Calls aw 105 #[ptr b0] w (ki k q w fun u w'=>∃ val is aH z',q= .fin ⟨val,is,aH,z'.gone⟩/\u= .agg (bu val is 0 aH)/\df w' k z' log):=by
 have kb:=Bk.made w 70 aZ;have lpg:=h.lt;have aG:=(Stp.refl k.gp w).alloc (ag aZ 70);replace h:=h.ay (aB (Below.refl _ _) (ag aZ 70));replace hk:RcBk (w.alloc (ag aZ 70)) k bp bh bt:=⟨hk.1.alloc _,hk.2.1.alloc _,hk.2.2.alloc _⟩;replace k0:=k0.alloc (ag aZ 70);have HQ:=ar (au hq (au gq uM));clear hq gq uM;go_enter Tryz.func105,Tryz.ntmps105
 go_upto_region 1 with fail
 generalize w.alloc (ag aZ 70)=w1 at *;obtain ⟨gb,mD⟩:∃ x,w.heap.size=x:=⟨_,rfl⟩;have nV:=ar mD;rw [mD] at kb lpg ⊢;clear mD;have c0:=k0.cell 0;have l0:=k0.lt;simp at c0
 go_wp2_with fail
 refine wp_loop_rounds 1 ?_;rw [dI]
 go_wp2_with fail
 (with_reducible refine (z8 th a bp bh bt h HQ.out.2.2 ⟨hg.1,hg.2.1,hg.2.2.1⟩ hk.1 hk.2.1 hk.2.2 HQ.out.1 HQ.out.2.1).mono ?_)
 rintro e w2 (⟨x,h1,rfl,h3⟩ | ⟨v,rfl,⟨val,is,aH,z2,hf,rfl,eB⟩,dB⟩)
 ·exact ⟨rfl,.inl ⟨x,h1,rfl,aG.trans h3⟩⟩
 have HF:=ar hf;have De:=dB.ay kb zO;replace aG:=aG.trans dB;clear h hk k0 kb c0 l0 dB hf HQ
 go_upto_region 2 with (refine dJ rfl 70 (.tmp 2) (.tmp 7) rfl rfl w2.heap.size _ _ (bu val is 0 aH) rfl rfl rfl rfl zK rfl (by simp [aD]) ?_)
 have ko:=Bk.made w2 70 (bu val is 0 aH);have lgb:=De.lt;replace De:=De.alloc (ag (bu val is 0 aH) 70);replace eB:=eB.ay (aB (Below.refl _ _) (ag (bu val is 0 aH) 70));replace aG:=aG.alloc (ag (bu val is 0 aH) 70);generalize w2.alloc (ag (bu val is 0 aH) 70)=w3 at *
 go_wp2_with (first
  | (refine aL rfl 70 (.tmp 2) rfl w2.heap.size rfl 70 (bu val is 0 aH) (0,0) _ ko aI rfl zK ?_)
  | (refine aK rfl 70 (.tmp 1) (.tmp 10) rfl rfl gb (bu val is 0 aH) rfl rfl 70 aZ De zK rfl (by simp [aD]) ?_))
 have lI:=eB.dR De zO (bu val is 0 aH);replace De:=De.bL (bu val is 0 aH);replace aG:=aG.row (b:=gb) (.inl (by rw [nV.out];omega)) (bu val is 0 aH)
 exact aX (v:=.agg (bu val is 0 aH)) (cb (p:=1) (ty:=70) rfl _ _ gb 70 _ (0,0) _ rfl De aI rfl zK) rfl (.inr ⟨_,rfl,⟨_,_,_,_,HF.out,rfl,lI⟩,aG⟩)
end
theorem cnext (l:Ly) (me:Nat) (op:Opr) (g:cG) (gv:Value) (A:Option Addr) (cap:Nat) (log:Log) (w:World) (f:dU l) (oG:0<=dT l 0) (ho:op.obj=0)
  (hk:(op.kind=6/\0<=op.a/\op.a < 4294967296)\/op.kind=7) (hg:bN w gv g) (hs:hH w w.heap.size A log) (hl:log.length<=100000) (uM:∀ x∈log,-4611686018427387904<=x.1/\x.1<=4611686018427387904) (th:Int) (q:An Out) (hq:q=eR th me op.a (uV op.kind g) log) (gq:q≠ .stuck) (oe:∀ o,q= .fin o->o.gone.length<=1000):
  Calls aw 73 #[lyV l,aa ab me,gv,.agg (eg op),.slice A log.length cap] w (jd l q w):=by
 obtain ⟨G,gc,rfl,hN,qP⟩:=hg;have HG:=ar (show bN w (.slice G g.length gc) g from ⟨G,gc,rfl,hN,qP⟩)
 have HA:=ar (au f (au hs hl));have HQ:=ar (au hq (au gq (au oe uM)));have HK:=ar (au hk oG);have k0:=(((Bk.made w 34 (lyC l)).alloc (ag (eg op) 54)).alloc (ag bW 67)).alloc (ag aZ 70);have k1:=((Bk.new (w.alloc (ag (lyC l) 34)) (g:=w.heap.size+1) zS 54 (eg op)).alloc (ag bW 67)).alloc (ag aZ 70);have k2:=(Bk.new ((w.alloc (ag (lyC l) 34)).alloc (ag (eg op) 54)) (g:=w.heap.size+1+1) zS 67 bW).alloc (ag aZ 70);have k3:=Bk.new (((w.alloc (ag (lyC l) 34)).alloc (ag (eg op) 54)).alloc (ag bW 67)) (g:=w.heap.size+1+1+1) zS 70 aZ;have bz:=aB (aB (aB (aB (Below.refl w.heap.size w) (ag (lyC l) 34)) (ag (eg op) 54)) (ag bW 67)) (ag aZ 70);clear f oG hk hs hl hq gq oe uM hN qP;go_enter Tryz.func73,Tryz.ntmps73
 go_upto_region 1 with fail
 generalize (((w.alloc (ag (lyC l) 34)).alloc (ag (eg op) 54)).alloc (ag bW 67)).alloc (ag aZ 70)=w4 at *;obtain ⟨b0,h0⟩:∃ x,w.heap.size=x:=⟨_,rfl⟩;have HW:=ar h0;rw [h0] at k0 k1 k2 k3 ⊢;clear h0;obtain ⟨b1,h1⟩:∃ x,b0+1=x:=⟨_,rfl⟩;obtain ⟨b2,h2⟩:∃ x,b1+1=x:=⟨_,rfl⟩;obtain ⟨b3,h3⟩:∃ x,b2+1=x:=⟨_,rfl⟩;rw [h1] at k1;rw [h1,h2] at k2;rw [h1,h2,h3] at k3 ⊢;have z1:b0 < b1:=zO;have z2:b1 < b2:=zO;have z3:b2 < b3:=zO;clear h1 h2 h3;refine aP (S:=fun w'=>Bk w' b0 34 (lyC l)/\Bk w' b1 54 (eg op)) (E:=fun _=>false) zK ?_
 replace k0:=k0.drew;replace k1:=k1.drew;replace k2:=k2.drew;replace k3:=k3.drew;replace bz:=bz.drew;generalize w4.drew=w5 at *;refine wTk 6 [(0,17,lyV l),(1,18,ae (some ⟨b1,1,none⟩)),(2,19,aa ab 0),(4,21,lyV l),(5,22,ae (some ⟨b1,1,none⟩)),(6,23,aa ab 0)] ?_ ⟨k0,k1⟩ ?_
 ·intro w' hS;have fg:(dr 34 ⟨b0,0,none⟩).run aw w'= .ok (lyV l) w':=be w' b0 34 34 (lyC l) (0,0) _ hS.1 aJ rfl zK;have c1:=hS.2.cell 1;simp at c1;rw [ho] at c1
  (repeat' (first | exact aC | refine au ⟨_,rfl,.inl ⟨rfl,?_⟩⟩ ?_))
  all_goals first | exact bI rfl rfl fg | ((try simp only [aq,ao,an,Act.put,aj,ak,al]);go_simp;done)
 simp only [aR,Act.put,aj,ak,al];refine aE (i:=3) (o:=_) zK rfl (fun K hK=>?_)
 (try simp only [aq,ao,an])
 go_simp
 (with_reducible refine (uq l 0 w5 HA.out.1).mono ?_)
 rintro e w6 ⟨rfl,hb⟩;replace k0:=k0.ay hb;replace k1:=k1.ay hb;replace k2:=k2.ay hb;replace k3:=k3.ay hb;replace bz:=aF bz hb;refine hK.out _ _ (fun _=>⟨k0,k1⟩) ?_
 clear hK K hb
 (try simp only [Act.put,aj,ak,al])
 refine aE (i:=7) (o:=_) zK rfl (fun K hK=>?_)
 (try simp only [aq,ao,an])
 go_simp
 (with_reducible refine (CL l 0 w6 HA.out.1).mono ?_)
 rintro e w7 ⟨rfl,hb⟩;replace k0:=k0.ay hb;replace k1:=k1.ay hb;replace k2:=k2.ay hb;replace k3:=k3.ay hb;replace bz:=aF bz hb;refine hK.out _ _ (fun _=>⟨k0,k1⟩) ?_
 clear hK K hb
 (try simp only [Act.put,aj,ak,al])
 refine wTk 2 [(8,13,aa ab (dT l 0)),(9,14,aa ab (fB l 0))] ?_ ⟨k0,k1⟩ ?_
 ·intro w' hS
  (repeat' (first | exact aC | refine au ⟨_,rfl,.inl ⟨rfl,?_⟩⟩ ?_))
  all_goals exact zG
 simp only [aR,Act.put,aj,ak,al];refine aN zK ?_ _;obtain ⟨hd,uN⟩:∃ x,dT l 0=x:=⟨_,rfl⟩;obtain ⟨tl,htl⟩:∃ x,fB l 0=x:=⟨_,rfl⟩;have HHT:=ar (au uN htl);have htz:decide (hd < 0)=false:=by have:=HK.out.2;rw [uN] at this;simp;omega
 rw [uN,htl];clear uN htl
 go_upto_region 4 with fail
 clear htz
 go_wp2_with (refine aL rfl 34 (.tmp 5) rfl b0 rfl 34 (lyC l) (0,0) _ k0 aJ rfl zK ?_)
 have nX:w.heap.size<=w7.heap.size:=bz.size;have hG6:bN w7 (.slice G g.length gc) g:=HG.out.ay bz;have hS6:hH w7 w7.heap.size A log:=(HA.out.2.1.below bz).more nX
 (with_reducible refine (yA l me _ g A cap log w7 HA.out.1 hG6 hS6 HA.out.2.2).mono ?_)
 rintro e w8 ⟨rfl,hp,hb⟩;clear hG6 hS6;have jg:=k3.lt;replace k0:=k0.ay hb;replace k1:=k1.ay hb;replace k2:=k2.ay hb;replace k3:=k3.ay hb;replace bz:=aF bz hb;obtain ⟨k,nm⟩:∃ k,lA w7 l me A cap=k:=⟨_,rfl⟩;have fU:=ar (show k.l=l/\k.me=me/\k.gp=w7.heap.size+1+1/\k.B=w7.heap.size from nm ▸ ⟨rfl,rfl,rfl,rfl⟩)
 have hgp:w7.heap.size+1+1=k.gp:=fU.out.2.2.1.symm;rw [nm] at hp;rw [hgp];have hw6:w7.heap.size<=k.gp:=zO;have xm:=ar (au hw6 (au nX (show b3 < k.gp by omega)))
 clear nm hgp hw6 hb nX jg
 go_upto_region 6 with fail
 have yJ:=Bk.made w8 160 #[.nilFunc];have lp:=hp.lt;replace hp:=hp.ay (aB (Below.refl _ _) (ag #[.nilFunc] 160));replace k0:=k0.alloc (ag #[.nilFunc] 160);replace k1:=k1.alloc (ag #[.nilFunc] 160);replace k2:=k2.alloc (ag #[.nilFunc] 160);replace k3:=k3.alloc (ag #[.nilFunc] 160);replace bz:=aB bz (ag #[.nilFunc] 160);generalize w8.alloc (ag #[.nilFunc] 160)=w9 at *;obtain ⟨vL,h16⟩:∃ x,w8.heap.size=x:=⟨_,rfl⟩;rw [h16] at yJ lp ⊢;clear h16;have Dv:∀ (fn:Fn) (first cap:Array Value) (w:World),(kZ fn first cap).run aw w= .ok (.func fn first cap) w:=fun _ _ _ _=>rfl
 have c0:=k1.cell 0;have c2:=k1.cell 2;simp at c0 c2;have l1:=k1.lt;have hgt:w.heap.size<=k.gp:=aQ xm.out.2.1 xm.out.1;have rL:=ar (au hgt lp);clear hgt;rcases HK.out.1 with ⟨hk4,ha0,xz⟩ | tU
 ·have jG:(op.kind==6)=true:=by simp [hk4]
  have gK:=ar (show q=hZ th k.me op.a (.sub (.g1 0 .tail) (.sg 0)) ⟨[0,0,0],g,0⟩ (log.drop 0) by
   rw [HQ.out.1,hk4,fU.out.2.1];rfl)
  have HAB:=ar (au ha0 xz);clear hk4 ha0 xz
  go_upto_region 9 with fail
  go_wp2_with fail
  (with_reducible refine (KJ k.gp tl op.a w9).mono ?_)
  rintro e wa ⟨bp,bt,bv,bm,rfl,hb,y1,y2,y3,y4,kp,kt,kv,km⟩;have y0:vL < w9.heap.size:=yJ.lt;replace k1:=k1.ay hb;replace k2:=k2.ay hb;replace k3:=k3.ay hb;replace yJ:=yJ.ay hb;replace hp:=hp.ay hb;replace bz:=aF bz hb;clear hb c0 c2 l1 k0;have c16:=yJ.cell 0;have f16:=yJ.free 0;have l16:=yJ.lt;simp at c16
  go_upto_region 12 with fail
  clear c16 f16 l16;replace hp:=hp.rB yJ (by have:=fU.out.2.2.2;have:=xm.out.1;have:=rL.out.2;omega) zD 0 (.func (.func 144) #[] #[ptr bp,ptr bt,ptr bv,ptr bm])
  replace k1:=k1.other (p:=⟨vL,0,none⟩) (by have:=xm.out.2.2;have:=rL.out.2;dsimp only;omega) (.func (.func 144) #[] #[ptr bp,ptr bt,ptr bv,ptr bm])
  replace k2:=k2.other (p:=⟨vL,0,none⟩) (by have:=xm.out.2.2;have:=rL.out.2;dsimp only;omega) (.func (.func 144) #[] #[ptr bp,ptr bt,ptr bv,ptr bm])
  replace k3:=k3.other (p:=⟨vL,0,none⟩) (by have:=xm.out.2.2;have:=rL.out.2;dsimp only;omega) (.func (.func 144) #[] #[ptr bp,ptr bt,ptr bv,ptr bm])
  replace kp:=kp.other (p:=⟨vL,0,none⟩) (by dsimp only;omega) (.func (.func 144) #[] #[ptr bp,ptr bt,ptr bv,ptr bm])
  replace kt:=kt.other (p:=⟨vL,0,none⟩) (by dsimp only;omega) (.func (.func 144) #[] #[ptr bp,ptr bt,ptr bv,ptr bm])
  replace kv:=kv.other (p:=⟨vL,0,none⟩) (by dsimp only;omega) (.func (.func 144) #[] #[ptr bp,ptr bt,ptr bv,ptr bm])
  replace km:=km.other (p:=⟨vL,0,none⟩) (by dsimp only;omega) (.func (.func 144) #[] #[ptr bp,ptr bt,ptr bv,ptr bm])
  replace bz:=bK bz (p:=⟨vL,0,none⟩) (by have:=rL.out.1;have:=rL.out.2;dsimp only;omega) (.func (.func 144) #[] #[ptr bp,ptr bt,ptr bv,ptr bm])
  replace yJ:Bk (wa.setCell ⟨vL,0,none⟩ (.func (.func 144) #[] #[ptr bp,ptr bt,ptr bv,ptr bm])) vL 160 #[(.func (.func 144) #[] #[ptr bp,ptr bt,ptr bv,ptr bm])]:=yJ.stored 0 (.func (.func 144) #[] #[ptr bp,ptr bt,ptr bv,ptr bm]);generalize wa.setCell ⟨vL,0,none⟩ (.func (.func 144) #[] #[ptr bp,ptr bt,ptr bv,ptr bm])=xo at *;have HB:=ar (au bz (au k2 k3));have xC:=ar (cL.aS k.gp bm bz);have htl:tl=fB k.l 0:=by rw [fU.out.1];exact HHT.out.2.symm
  rw [htl] at kt;have HC:=ar (au hp (au yJ (au kp (au kt (au kv km)))));have lbm:=km.lt;clear hp k1 k2 k3 yJ kp kt kv km bz
  go_wp2_with fail
  have lH:=q9 (k:=k) (z:=⟨[0,0,0],g,0⟩) (log:=log) q (fun val is aH z'=>q= .fin ⟨val,is,aH,z'.gone⟩) 105 #[ptr vL] bm xo lbm HC.out.1 (by intro w;simp [go_sem]) (fun val is aH z' hT=>HQ.out.2.2.1 _ hT)
   (fun w2 h2=>IU th op.a bp bt bv bm vL (HC.out.1.ay h2) HAB.out ⟨zO,zO,zO,zO⟩ ⟨by have:=rL.out.2;omega,by have:=rL.out.2;omega,by have:=rL.out.2;omega,by have:=rL.out.2;omega,by have:=rL.out.2;omega⟩ (by have:=fU.out.2.2.2;have:=xm.out.1;have:=rL.out.2;omega)
    ⟨HC.out.2.2.1.ay h2,HC.out.2.2.2.1.ay h2,HC.out.2.2.2.2.1.ay h2,HC.out.2.2.2.2.2.ay h2⟩ (HC.out.2.1.ay h2) gK.out HQ.out.2.1)
  (with_reducible refine lH.mono ?_)
  rintro e tZ ⟨fI,aG⟩;obtain ⟨iX,iR,iQ,iW,val,is,er,pt,rG,rn,rc,dn,rfl,gW⟩:∃ c0 c1 c2 c3 val is er pt rG rn rc dn,e=ai (.tuple #[.agg (bj c0 c1 c2 c3),.agg (br val is er pt (.slice rG rn rc)),.bool dn])/\∀ w':World,(∀ gg,bN tZ (.slice rG rn rc) gg->bN w' (.slice rG rn rc) gg)->Below w.heap.size w w'->jd l q w (ai (.tuple #[.agg (bj c0 c1 c2 c3),.agg (br val is er pt (.slice rG rn rc)),.bool dn])) w':=by
   rcases fI with ⟨x,hx,rfl⟩ | ⟨val,is,aH,z',gv,hT,rfl,jQ⟩
   ·exact ⟨_,_,_,_,_,_,_,_,_,_,_,_,rfl,fun w' _ hb=>⟨.inl ⟨x,hx,by rw [fU.out.1]⟩,hb⟩⟩
   ·obtain ⟨rG,rc,rfl,r1,r2⟩:=jQ;exact ⟨_,_,_,_,_,_,_,_,_,_,_,_,rfl,fun w' hk hb=>⟨.inr ⟨_,_,hT,rfl,hk _ ⟨rG,rc,rfl,r1,r2⟩⟩,hb⟩⟩
  have HF:=ar gW;have k2:=aG.ay HB.out.2.1 (by have:=xm.out.2.2;omega) (by have:=xm.out.2.2;have:=rL.out.2;omega)
  have k3:=aG.ay HB.out.2.2 (by have:=xm.out.2.2;omega) (by have:=xm.out.2.2;have:=rL.out.2;omega)
  have nM:=xC.out.trans aG;clear fI gW aG lH
  go_wp2_with (first
   | (refine aK rfl 67 (.tmp 10) (.tmp 60) rfl rfl b2 (bj iX iR iQ iW) rfl rfl 67 bW k2 zK rfl (by simp [aD]) ?_)
   | (refine aK rfl 70 (.tmp 11) (.tmp 61) rfl rfl b3 (br val is er pt (.slice rG rn rc)) rfl rfl 70 aZ (k3.a7 (b:=b2) zO (bj iX iR iQ iW)) zK rfl (by simp [aD]) ?_))
  have sX:=k3.a7 (b:=b2) zO (bj iX iR iQ iW);have Ag:=(k2.bL (bj iX iR iQ iW)).a7 (b:=b3) zO (br val is er pt (.slice rG rn rc));have Af:=sX.bL (br val is er pt (.slice rG rn rc));have nk:=(nM.row (b:=b2) (.inl (by rw [HW.out];omega)) (bj iX iR iQ iW)).row (b:=b3) (.inl (by rw [HW.out];omega)) (br val is er pt (.slice rG rn rc))
  exact aX (v:=.tuple #[.agg (bj iX iR iQ iW),.agg (br val is er pt (.slice rG rn rc)),.bool dn]) (eH (p:=10) (q:=11) (t:=12) (t1:=67) (t2:=70) rfl _ _ b2 b3 _ _ (0,0) (0,0) _ _ _ rfl rfl rfl Ag Af bU rfl zK aI rfl zK) rfl
   (HF.out _ (fun gg hg=>(hg.row k2 zD _).row sX zD _) (nk.part rL.out.1 (by have:=rL.out.1;have:=rL.out.2;omega) (az _)))
 ·have jG:(op.kind==6)=false:=by simp [tU]
  have mw:(op.kind==7)=true:=by simp [tU]
  have gK:=ar (show q=hZ th k.me op.a (.sub (.g1 0 .head) .rg) ⟨[0,0,0],g,0⟩ (log.drop 0) by
   rw [HQ.out.1,tU,fU.out.2.1];rfl)
  clear tU
  go_upto_region 11 with fail
  go_wp2_with fail
  (with_reducible refine (Bu k.gp hd tl w9).mono ?_)
  rintro e wa ⟨bp,bh,bt,rfl,hb,y1,y2,y3,kp,kh,kt⟩;have y0:vL < w9.heap.size:=yJ.lt;replace k1:=k1.ay hb;replace k2:=k2.ay hb;replace k3:=k3.ay hb;replace yJ:=yJ.ay hb;replace hp:=hp.ay hb;replace bz:=aF bz hb;clear hb c0 c2 l1 k0;have c16:=yJ.cell 0;have f16:=yJ.free 0;have l16:=yJ.lt;simp at c16
  go_upto_region 12 with fail
  clear c16 f16 l16;replace hp:=hp.rB yJ (by have:=fU.out.2.2.2;have:=xm.out.1;have:=rL.out.2;omega) zD 0 (.func (.func 155) #[] #[ptr bp,ptr bh,ptr bt])
  replace k1:=k1.other (p:=⟨vL,0,none⟩) (by have:=xm.out.2.2;have:=rL.out.2;dsimp only;omega) (.func (.func 155) #[] #[ptr bp,ptr bh,ptr bt])
  replace k2:=k2.other (p:=⟨vL,0,none⟩) (by have:=xm.out.2.2;have:=rL.out.2;dsimp only;omega) (.func (.func 155) #[] #[ptr bp,ptr bh,ptr bt])
  replace k3:=k3.other (p:=⟨vL,0,none⟩) (by have:=xm.out.2.2;have:=rL.out.2;dsimp only;omega) (.func (.func 155) #[] #[ptr bp,ptr bh,ptr bt])
  replace kp:=kp.other (p:=⟨vL,0,none⟩) (by dsimp only;omega) (.func (.func 155) #[] #[ptr bp,ptr bh,ptr bt])
  replace kh:=kh.other (p:=⟨vL,0,none⟩) (by dsimp only;omega) (.func (.func 155) #[] #[ptr bp,ptr bh,ptr bt])
  replace kt:=kt.other (p:=⟨vL,0,none⟩) (by dsimp only;omega) (.func (.func 155) #[] #[ptr bp,ptr bh,ptr bt])
  replace bz:=bK bz (p:=⟨vL,0,none⟩) (by have:=rL.out.1;have:=rL.out.2;dsimp only;omega) (.func (.func 155) #[] #[ptr bp,ptr bh,ptr bt])
  replace yJ:Bk (wa.setCell ⟨vL,0,none⟩ (.func (.func 155) #[] #[ptr bp,ptr bh,ptr bt])) vL 160 #[(.func (.func 155) #[] #[ptr bp,ptr bh,ptr bt])]:=yJ.stored 0 (.func (.func 155) #[] #[ptr bp,ptr bh,ptr bt]);generalize wa.setCell ⟨vL,0,none⟩ (.func (.func 155) #[] #[ptr bp,ptr bh,ptr bt])=xo at *;have HB:=ar (au bz (au k2 k3));have xC:=ar (cL.aS k.gp k.gp bz);have htl:tl=fB k.l 0:=by rw [fU.out.1];exact HHT.out.2.symm
  have uN:hd=dT k.l 0:=by rw [fU.out.1];exact HHT.out.1.symm
  rw [htl] at kt;rw [uN] at kh;have HC:=ar (au hp (au yJ (au kp (au kh kt))));clear hp k1 k2 k3 yJ kp kh kt bz
  go_wp2_with fail
  have lH:=q9 (k:=k) (z:=⟨[0,0,0],g,0⟩) (log:=log) q (fun val is aH z'=>q= .fin ⟨val,is,aH,z'.gone⟩) 105 #[ptr vL] k.gp xo HC.out.1.lt HC.out.1 (by intro w;simp [go_sem]) (fun val is aH z' hT=>HQ.out.2.2.1 _ hT)
   (fun w2 h2=>(IV th op.a bp bh bt vL (HC.out.1.ay h2) HQ.out.2.2.2 ⟨by have:=rL.out.2;omega,by have:=rL.out.2;omega,by have:=rL.out.2;omega,by have:=rL.out.2;omega⟩
    ⟨HC.out.2.2.1.ay h2,HC.out.2.2.2.1.ay h2,HC.out.2.2.2.2.ay h2⟩ (HC.out.2.1.ay h2) gK.out HQ.out.2.1).mono fun _ _ h=>h.two)
  (with_reducible refine lH.mono ?_)
  rintro e tZ ⟨fI,aG⟩;obtain ⟨iX,iR,iQ,iW,val,is,er,pt,rG,rn,rc,dn,rfl,gW⟩:∃ c0 c1 c2 c3 val is er pt rG rn rc dn,e=ai (.tuple #[.agg (bj c0 c1 c2 c3),.agg (br val is er pt (.slice rG rn rc)),.bool dn])/\∀ w':World,(∀ gg,bN tZ (.slice rG rn rc) gg->bN w' (.slice rG rn rc) gg)->Below w.heap.size w w'->jd l q w (ai (.tuple #[.agg (bj c0 c1 c2 c3),.agg (br val is er pt (.slice rG rn rc)),.bool dn])) w':=by
   rcases fI with ⟨x,hx,rfl⟩ | ⟨val,is,aH,z',gv,hT,rfl,jQ⟩
   ·exact ⟨_,_,_,_,_,_,_,_,_,_,_,_,rfl,fun w' _ hb=>⟨.inl ⟨x,hx,by rw [fU.out.1]⟩,hb⟩⟩
   ·obtain ⟨rG,rc,rfl,r1,r2⟩:=jQ;exact ⟨_,_,_,_,_,_,_,_,_,_,_,_,rfl,fun w' hk hb=>⟨.inr ⟨_,_,hT,rfl,hk _ ⟨rG,rc,rfl,r1,r2⟩⟩,hb⟩⟩
  have HF:=ar gW;have k2:=aG.ay HB.out.2.1 (by have:=xm.out.2.2;omega) (by have:=xm.out.2.2;have:=rL.out.2;omega)
  have k3:=aG.ay HB.out.2.2 (by have:=xm.out.2.2;omega) (by have:=xm.out.2.2;have:=rL.out.2;omega)
  have nM:=xC.out.trans aG;clear fI gW aG lH
  go_wp2_with (first
   | (refine aK rfl 67 (.tmp 10) (.tmp 60) rfl rfl b2 (bj iX iR iQ iW) rfl rfl 67 bW k2 zK rfl (by simp [aD]) ?_)
   | (refine aK rfl 70 (.tmp 11) (.tmp 61) rfl rfl b3 (br val is er pt (.slice rG rn rc)) rfl rfl 70 aZ (k3.a7 (b:=b2) zO (bj iX iR iQ iW)) zK rfl (by simp [aD]) ?_))
  have sX:=k3.a7 (b:=b2) zO (bj iX iR iQ iW);have Ag:=(k2.bL (bj iX iR iQ iW)).a7 (b:=b3) zO (br val is er pt (.slice rG rn rc));have Af:=sX.bL (br val is er pt (.slice rG rn rc));have nk:=(nM.row (b:=b2) (.inl (by rw [HW.out];omega)) (bj iX iR iQ iW)).row (b:=b3) (.inl (by rw [HW.out];omega)) (br val is er pt (.slice rG rn rc))
  exact aX (v:=.tuple #[.agg (bj iX iR iQ iW),.agg (br val is er pt (.slice rG rn rc)),.bool dn]) (eH (p:=10) (q:=11) (t:=12) (t1:=67) (t2:=70) rfl _ _ b2 b3 _ _ (0,0) (0,0) _ _ _ rfl rfl rfl Ag Af bU rfl zK aI rfl zK) rfl
   (HF.out _ (fun gg hg=>(hg.row k2 zD _).row sX zD _) (nk.part rL.out.1 (by have:=rL.out.1;have:=rL.out.2;omega) (az _)))
end Go.Proofs.YtikdaeddbkopeaaGreatR.segment
